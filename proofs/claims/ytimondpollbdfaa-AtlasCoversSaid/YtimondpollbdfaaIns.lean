/- What is proved: slices.Insert of one span into a row that is owned: at its end, within its room, and where it grows. -/
import Derived.Test.YtimondpollbdfaaChanged
import Derived.Laws.CopyRow
import Derived.Lib.Overlaps
import Derived.Laws.Externs
import Derived.Lib.AppendZerosOnto
import Derived.Deep.RegionLaw
set_option linter.unusedVariables false
set_option linter.unusedSimpArgs false
namespace Go.Proofs.Ytimondpollbdfaa
open Go.RowKit

section
variable {P : Program}
/-- copy into a block, elements of several cells; all is read before anything is written. -/
theorem run_copy_rows (w : World) (dT sT ty elem : TypeId) (g o dLen dCap : Nat) (a : Addr) (sLen sCap n size : Nat) (cur : Array Value) (t : TypeId) (cs : List Value)
    (hu : P.underlying dT = some (.slice elem)) (hs : (P.info? elem).map (·.size) = some size)
    (hg : w.heap[g]? = some (.cells cur t (0, 0))) (hn : Nat.min sLen dLen = n) (hl : cs.length = n * size)
    (hsrc : ∀ j v, cs[j]? = some v → w.cell? (a.add j) = some v) (hfit : o + cs.length ≤ cur.size) (h1 : ∀ v ∈ cs, v.oneCell' = true) :
    (Builtin.copy_ #[dT, sT] ty #[.slice (some ⟨g, o, none⟩) dLen dCap, .slice (some a) sLen sCap]).run P w =
      .ok (goInt n) (w.setRow g (cur.toList.take o ++ cs ++ cur.toList.drop (o + cs.length)).toArray) := by
  have hld := run_loadCells_list (P := P) w a cs hsrc
  rw [hl] at hld
  have hst := run_storeCells_at P g o t cs 0 cur w hg (by simpa using hfit) h1
  cases hq : P.info? elem with
  | none => simp [hq] at hs
  | some i =>
    have hi : i.size = size := by simpa [hq] using hs
    simp [Builtin.copy_, run_underlying hu, Builtin.lenOf, Builtin.firstCells, sizeOf, typeInfo, hq, hi, hn, hld, hst]
theorem wpList_copy_go (w : World) {ops : Array Oper} {rest : List Oper} {o : Oper} {a : Act} {Q : Exit → Act → World → Prop} (hgd : o.guard = none) (d s : Operand) (t t' : TypeId)
    (ho : o.op = .call { callee := .builtin .copy, args := #[d, s], argTypes := #[t, t'] }) (v u : Value) (hd : a.eval d = v) (hs : a.eval s = u) {v' : Value} {w' : World}
    (hr : (Builtin.copy_ #[t, t'] o.type #[v, u]).run P w = .ok v' w') (h : wpList P ops Q rest (a.put o.dst v') w') : wpList P ops Q (o :: rest) a w :=
  wpList_plain hgd fun _ hK => by
    unfold Oper.wp execOp
    simp only [ho, resolve, invoke, builtin, Sem.run_bind, Sem.run_pure, Result.andThen_ok, List.map_toArray, List.map_cons, List.map_nil, hd, hs, hr]
    exact hK _ _ h
theorem step_copy_go {ops : Array Oper} {o : Oper} {a : Act} {w : World} {K : Act → World → Prop} {Q : Exit → Act → World → Prop} {E : Prop}
    (hg : o.guard = none) (d x : Operand) (dT sT : TypeId) (hop : o.op = Op.call { callee := Callee.builtin Builtin.copy, args := #[d, x], argTypes := #[dT, sT] })
    (v u : Value) (hd : a.eval d = v) (hx : a.eval x = u) {v' : Value} {w' : World} (hr : (Builtin.copy_ #[dT, sT] o.type #[v, u]).run P w = .ok v' w') (hK : K (a.put o.dst v') w') :
    if Region.wanted o (yielded ops a.tmps) = true then Oper.wp P o a w K Q else E := by
  have hw : Region.wanted o (yielded ops a.tmps) = true := by simp [Region.wanted, hg]
  rw [if_pos hw]
  unfold Oper.wp
  simp [execOp, hop, resolve, invoke, builtin, hd, hx, hr, Result.andThen]
  exact hK
end
theorem own_addr0 {w : World} {base : Nat} {A : Option Addr} {cap : Nat} {l : List Span} (h : w.ownsRow base 50 5 (.slice A l.length cap) l.length (l.map Span.cells).flatten) (h0 : 0 < l.length) : ∃ g, A = some ⟨g, 0, none⟩ ∧ base ≤ g ∧ g < w.heap.size := by
  rcases h.2 with ⟨h1, h2⟩ | ⟨g, cap', cur, h1, hb, hg, _⟩
  · omega
  · injection h1 with h1
    exact ⟨g, h1, hb, lt_of_some hg⟩
theorem own_caps {w : World} {base : Nat} {A : Option Addr} {n cap : Nat} {xs : List Value} (h : w.ownsRow base 50 5 (.slice A n cap) n xs) : n ≤ cap ∧ cap ≤ 9223372036854775807 := by
  rcases h.2 with ⟨h1, h2⟩ | ⟨g, cap', cur, h1, hb, hg, hc, hm, _⟩
  · injection h1 with _ _ h3; omega
  · injection h1 with _ _ h3
    subst h3
    unfold maxLen at hm
    exact ⟨hc, hm⟩
theorem ins_list {X xs vc : List Value} {N I s : Nat} (hx : X.take N = xs) (hN : xs.length = N) (hI : I ≤ N) (hv : vc.length = s) (hX : N + s ≤ X.length) :
    let c1 := X.take (I + s) ++ xs.drop I ++ X.drop (I + s + (xs.drop I).length)
    (c1.take I ++ vc ++ c1.drop (I + vc.length)).take (N + s) = xs.take I ++ vc ++ xs.drop I := by
  intro c1
  have hl1 : (xs.drop I).length = N - I := by rw [List.length_drop, hN]
  have h1 : c1.take I = xs.take I := by
    show (X.take (I + s) ++ xs.drop I ++ X.drop (I + s + (xs.drop I).length)).take I = _
    rw [List.append_assoc, List.take_append_of_le_length (by rw [List.length_take]; omega), List.take_take, ← hx, List.take_take]
    congr 1
    omega
  have h2 : c1.drop (I + vc.length) = xs.drop I ++ X.drop (I + s + (xs.drop I).length) := by
    show (X.take (I + s) ++ xs.drop I ++ X.drop (I + s + (xs.drop I).length)).drop (I + vc.length) = _
    rw [List.append_assoc, hv, List.drop_append_of_le_length (by rw [List.length_take]; omega), List.drop_of_length_le (by rw [List.length_take]; omega), List.nil_append]
  rw [h1, h2, ← List.append_assoc, List.take_append_of_le_length (by simp only [List.length_append, List.length_take, hl1, hv, hN]; omega), List.take_of_length_le (by simp only [List.length_append, List.length_take, hl1, hv, hN]; omega)]
theorem ins_size {X xs vc : List Value} {N I s : Nat} (hN : xs.length = N) (hI : I ≤ N) (hv : vc.length = s) (hX : N + s ≤ X.length) :
    let c1 := X.take (I + s) ++ xs.drop I ++ X.drop (I + s + (xs.drop I).length)
    c1.length = X.length ∧ (c1.take I ++ vc ++ c1.drop (I + vc.length)).length = X.length := by
  intro c1
  have hl1 : (xs.drop I).length = N - I := by rw [List.length_drop, hN]
  have h1 : c1.length = X.length := by
    show (X.take (I + s) ++ xs.drop I ++ X.drop (I + s + (xs.drop I).length)).length = _
    simp only [List.length_append, List.length_take, List.length_drop, hN]
    omega
  refine ⟨h1, ?_⟩
  simp only [List.length_append, List.length_take, List.length_drop, h1, hv]
  omega
theorem span_flat_len (l : List Span) : (l.map Span.cells).flatten.length = l.length * 5 := by rw [flat_len _ (span_len l)]; simp
theorem ins_cells (l : List Span) (i : Nat) (v : Span) : (((l.take i ++ v :: l.drop i)).map Span.cells).flatten = (l.map Span.cells).flatten.take (i * 5) ++ v.cells ++ (l.map Span.cells).flatten.drop (i * 5) := by
  rw [List.map_append, List.map_cons, List.flatten_append, List.flatten_cons, List.map_take, List.map_drop, flat_take _ (span_len l), flat_drop _ (span_len l), List.append_assoc]
theorem one_span (v : Span) : ∀ u ∈ v.cells, u.oneCell' = true := by
  intro u hu
  simp only [Span.cells, List.mem_cons, List.not_mem_nil, or_false] at hu
  rcases hu with rfl | rfl | rfl | rfl | rfl <;> rfl
theorem span_src {w : World} {vb : Nat} {v : Span} (h : w.heap[vb]? = some v.blk) : ∀ j u, v.cells[j]? = some u → w.cell? ((⟨vb, 0, none⟩ : Addr).add j) = some u := fun j u hu => by
  rw [addr_add, Nat.zero_add]
  simp only [World.cell?, h, Span.blk]
  simpa [Span.cells] using hu
theorem only_row (w : World) (g : Nat) (c : Array Value) : Only (· = g) w (w.setRow g c) :=
  ⟨rfl, rfl, rfl, by simp, fun k _ hk => setRow_other w g k c hk⟩
theorem heap_setRow_other {w : World} {g k : Nat} {c : Array Value} (h : k ≠ g) : (w.setRow g c).heap[k]? = w.heap[k]? := setRow_other w g k c h

set_option maxRecDepth 100000 in
set_option maxHeartbeats 4000000 in
/-- There is room, and the place is not the end: in place. -/
theorem insert_shift (w : World) (B g n cap i : Nat) (l : List Span) (v : Span) (vb : Nat) (hl : l.length = n) (hown : w.ownsRow B 50 5 (.slice (some ⟨g, 0, none⟩) n cap) n (l.map Span.cells).flatten) (hi : i < n) (hroom : n + 1 ≤ cap) (hcm : cap ≤ 9223372036854775807) (hv : w.heap[vb]? = some v.blk) (hne : vb ≠ g) :
    Calls Try.prog 44 #[.slice (some ⟨g, 0, none⟩) n cap, .int .i64 i, .slice (some ⟨vb, 0, none⟩) 1 1] w fun e w' => e = .returned (.slice (some ⟨g, 0, none⟩) (n + 1) cap) ∧
      w'.ownsRow B 50 5 (.slice (some ⟨g, 0, none⟩) (n + 1) cap) (n + 1) ((l.take i ++ v :: l.drop i).map Span.cells).flatten ∧ Only (· = g) w w' := by
  obtain ⟨i0, hi0, hz0, hz1, hz2⟩ := info_parts info50
  have hs50 : (Try.prog.info? 50).map (·.size) = some 5 := by rw [hi0]; simp [hz1]
  rcases hown.2 with ⟨h, _⟩ | ⟨g', cap', cur, h, hB, hg, hnc, hmx, hcs, htk⟩
  · cases h
  injection h with e1 e2 e3
  injection e1 with e1
  injection e1 with e1
  subst e1; subst e3
  have hfl := span_flat_len l
  rw [hl] at hfl
  have hX : n * 5 + 5 ≤ cur.toList.length := by rw [Array.length_toList, hcs]; omega
  have hdl : ((l.map Span.cells).flatten.drop (i * 5)).length = (n - i) * 5 := by rw [List.length_drop, hfl]; omega
  have hvc : v.cells.length = 5 := rfl
  have hI5 : (i + 1) * 5 = i * 5 + 5 := by omega
  obtain ⟨hsz1, hsz2⟩ := ins_size (X := cur.toList) (xs := (l.map Span.cells).flatten) (vc := v.cells) (N := n * 5) (I := i * 5) (s := 5) hfl (by omega) hvc hX
  have hlist := ins_list (X := cur.toList) (xs := (l.map Span.cells).flatten) (vc := v.cells) (N := n * 5) (I := i * 5) (s := 5) htk hfl (by omega) hvc hX
  obtain ⟨C1, hC1⟩ : ∃ C1 : Array Value, C1 = (cur.toList.take (i * 5 + 5) ++ (l.map Span.cells).flatten.drop (i * 5) ++ cur.toList.drop (i * 5 + 5 + ((l.map Span.cells).flatten.drop (i * 5)).length)).toArray := ⟨_, rfl⟩
  have hC1l : C1.toList = cur.toList.take (i * 5 + 5) ++ (l.map Span.cells).flatten.drop (i * 5) ++ cur.toList.drop (i * 5 + 5 + ((l.map Span.cells).flatten.drop (i * 5)).length) := by rw [hC1]
  simp only [← hC1l] at hsz1 hsz2 hlist
  obtain ⟨C2, hC2⟩ : ∃ C2 : Array Value, C2 = (C1.toList.take (i * 5) ++ v.cells ++ C1.toList.drop (i * 5 + v.cells.length)).toArray := ⟨_, rfl⟩
  have hC2l : C2.toList = C1.toList.take (i * 5) ++ v.cells ++ C1.toList.drop (i * 5 + v.cells.length) := by rw [hC2]
  rw [← hC2l] at hsz2 hlist
  have hsrc : ∀ j u, ((l.map Span.cells).flatten.drop (i * 5))[j]? = some u → w.cell? ((⟨g, i * 5, none⟩ : Addr).add j) = some u := own_cell hown (k := i * 5)
  have hcp1 : ∀ ty d dc sc, d = n - i → (Builtin.copy_ #[22, 22] ty #[.slice (some ⟨g, (i + 1) * 5, none⟩) d dc, .slice (some ⟨g, i * 5, none⟩) (n + 1 - i) sc]).run Try.prog w.drew = .ok (goInt ((n - i : Nat) : Int)) (w.drew.setRow g C1) := fun ty d dc sc hd => by
    subst hd
    rw [hC1, ← hI5]
    exact run_copy_rows (P := Try.prog) w.drew 22 22 ty 50 g ((i + 1) * 5) (n - i) dc ⟨g, i * 5, none⟩ (n + 1 - i) sc (n - i) 5 cur 50 ((l.map Span.cells).flatten.drop (i * 5)) Try.underlying22 hs50 hg (by simp only [Nat.min_def]; split <;> omega) hdl hsrc (by rw [hdl, hcs]; omega) (spans_one_drop l _)
  have hC1s : C1.size = cap * 5 := by rw [← Array.length_toList, hsz1, Array.length_toList, hcs]
  have hg1 : (w.drew.setRow g C1).heap[g]? = some (.cells C1 50 (0, 0)) := setRow_heap w.drew g cur C1 50 (0, 0) hg
  have hv1 : (w.drew.setRow g C1).heap[vb]? = some v.blk := (heap_setRow_other hne).trans hv
  have hcp2 : ∀ ty dc, (Builtin.copy_ #[22, 22] ty #[.slice (some ⟨g, i * 5, none⟩) (n + 1 - i) dc, .slice (some ⟨vb, 0, none⟩) 1 1]).run Try.prog (w.drew.setRow g C1) = .ok (goInt 1) ((w.drew.setRow g C1).setRow g C2) := fun ty dc => by
    rw [hC2]
    exact run_copy_rows (P := Try.prog) (w.drew.setRow g C1) 22 22 ty 50 g (i * 5) (n + 1 - i) dc ⟨vb, 0, none⟩ 1 1 1 5 C1 50 v.cells Try.underlying22 hs50 hg1 (by simp only [Nat.min_def]; split <;> omega) hvc (span_src hv1) (by rw [hC1s, hvc]; omega) (one_span v)
  have hov : ∀ lb cb, (callFunc 67 #[.slice (some ⟨vb, 0, none⟩) 1 1, .slice (some ⟨g, (i + 1) * 5, none⟩) lb cb]).run Try.prog w = .ok (.value (.bool false)) w := fun lb cb => by
    rw [run_callFunc_extern Try.func67 (by kernel_rfl) (by kernel_rfl) (by kernel_rfl) (e := Extern.SlicesOverlaps.overlaps #[22, 22] #[4]) (by kernel_rfl),
      Lib.run_overlaps_apart w 22 4 50 Try.underlying22 5 (fun w => by simp [sizeOf, typeInfo, hi0, hz1]) ⟨vb, 0, none⟩ ⟨g, (i + 1) * 5, none⟩ 1 1 lb cb hne 50 50 5 cur.size (by simp [World.shape?, hv, Span.blk]) (by simp [World.shape?, hg]) (by rw [hcs]; omega) (by simp [World.frozen?, hv, Span.blk]) (by simp [World.frozen?, hv, Span.blk])]
    rfl
  have hon : Only (· = g) w ((w.drew.setRow g C1).setRow g C2) := (((Only.of_below (F := (· = g)) ((Below.refl _ w).drew)).trans (only_row _ _ _) (fun _ _ h => h)).trans (only_row _ _ _) (fun _ _ h => h))
  have hfin : ((w.drew.setRow g C1).setRow g C2).ownsRow B 50 5 (.slice (some ⟨g, 0, none⟩) (n + 1) cap) (n + 1) ((l.take i ++ v :: l.drop i).map Span.cells).flatten := by
    refine ⟨by rw [span_flat_len]; simp only [List.length_append, List.length_take, List.length_cons, List.length_drop, hl]; omega, .inr ⟨g, cap, C2, rfl, hB, setRow_heap _ g C1 C2 50 (0, 0) hg1, hroom, hmx, ?_, ?_⟩⟩
    · rw [← Array.length_toList, hsz2, Array.length_toList, hcs]
    · rw [ins_cells, show (n + 1) * 5 = n * 5 + 5 by omega]
      exact hlist
  have Hcp1 := Lib.hid hcp1; have Hcp2 := Lib.hid hcp2; have Hon := Lib.hid hon; have Hfin := Lib.hid hfin
  clear hcp1 hcp2 hon hfin hlist hsz1 hsz2 hC1 hC1l hC2 hC2l hsrc hg1 hv1 hdl hX htk hcs hg hv hown hfl hI5 hvc hC1s
  have hw1 : IntKind.i64.wrap ((i : Int) + 1) = (i : Int) + 1 := IntWalk.i64_in _ (by omega)
  have hw2 : IntKind.i64.wrap ((n : Int) + 1) = (n : Int) + 1 := IntWalk.i64_in _ (by omega)
  have q1 : ¬ ((i : Int) = (n : Int)) := by omega
  have q1' : ((i : Int) == (n : Int)) = false := by simpa using q1
  have q2 : ¬ ((cap : Int) < (n : Int) + 1) := by omega
  have q3 : (0 : Int) ≤ (i : Int) + 1 := by omega
  have q4 : ((i : Int) + 1).toNat = i + 1 := by omega
  have q5 : (0 : Int) ≤ (n : Int) + 1 := by omega
  have q6 : ((n : Int) + 1).toNat = n + 1 := by omega
  have q7 : i ≤ n := by omega
  have q8 : ¬ (cap = i) := by omega
  have q9 : ¬ (cap = i + 1) := by omega
  have q10 : (n : Int) + 1 ≤ (cap : Int) := by omega
  have q11 : (i : Int) + 1 ≤ (n : Int) + 1 := by omega
  have q12 : (i : Int) ≤ (n : Int) + 1 := by omega
  have q13 : (i : Int) ≤ (n : Int) := by omega
  go_enter Try.func44, Try.ntmps44
  go_wp2_with (simp only [hov])
  go_region_law (refine step_copy_go rfl (.tmp 73) (.tmp 76) 22 22 rfl (.slice (some ⟨g, (i + 1) * 5, none⟩) (n - i) (cap - (i + 1))) (.slice (some ⟨g, i * 5, none⟩) (n + 1 - i) (cap - i)) (by simp [Act.eval, Act.put]) (by simp [Act.eval, Act.put]) (Hcp1.out _ _ _ _ rfl) ?_)
  go_wp2_with (refine wpList_copy_go _ rfl (.tmp 80) (.tmp 81) 22 22 rfl (.slice (some ⟨g, i * 5, none⟩) (n + 1 - i) (cap - i)) (.slice (some ⟨vb, 0, none⟩) 1 1) rfl rfl (Hcp2.out _ _) ?_)
  go_ret
  exact ⟨rfl, Hfin.out, Hon.out⟩
set_option maxRecDepth 100000 in
set_option maxHeartbeats 4000000 in
/-- The place is the end: room or not. -/
theorem insert_end (w : World) (B g n cap : Nat) (l : List Span) (v : Span) (vb : Nat) (hl : l.length = n) (hown : w.ownsRow B 50 5 (.slice (some ⟨g, 0, none⟩) n cap) n (l.map Span.cells).flatten) (hn : n ≤ 16) (hnc : n ≤ cap) (hcm : cap ≤ 9223372036854775807) (hv : w.heap[vb]? = some v.blk) (hB : B ≤ w.heap.size) :
    Calls Try.prog 44 #[.slice (some ⟨g, 0, none⟩) n cap, .int .i64 n, .slice (some ⟨vb, 0, none⟩) 1 1] w fun e w' => ∃ A' cap', e = .returned (.slice A' (n + 1) cap') ∧
      w'.ownsRow B 50 5 (.slice A' (n + 1) cap') (n + 1) ((l ++ [v]).map Span.cells).flatten ∧ Only (· = g) w w' := by
  obtain ⟨i0, hi0, hz0, hz1, hz2⟩ := info_parts info50
  have hrow : RowAt w w.heap.size 5 (some ⟨vb, 0, none⟩) [v.cells] := rowAt_one (l := v.cells) (t := 50) (fr := (0, 0)) hv (lt_of_some hv)
  have Hown := Lib.hid hown; have Hrow := Lib.hid hrow
  clear hown hrow hv
  have q1 : (n : Int) ≤ (cap : Int) := by omega
  have h1 : ∀ u ∈ [v.cells].flatten, u.oneCell' = true := by simpa using one_span v
  have h63 : n + 1 ≤ maxLen := by unfold maxLen; omega
  have hby : (n + 1) * 56 ≤ 140737488355328 := by omega
  have hs5 : ∀ c ∈ [v.cells], c.length = 5 := by simp [Span.cells]
  go_enter Try.func44, Try.ntmps44
  go_wp2_with (at_builtin
               refine wpList_app _ rfl (.tmp 23) (.tmp 24) 22 rfl 50 i0 _ B 5 56 Try.underlying22 hi0 hz0 hz1 hz2 rfl (by omega) (.slice (some ⟨g, 0, none⟩) n cap) n ((l.map Span.cells).flatten) rfl Hown.out w.heap.size (some ⟨vb, 0, none⟩) 1 1 [v.cells] rfl Hrow.out hs5 rfl h1 h63 hby hB ?_
               intro A' c' w' hO hg _
               have HO := Lib.hid hO; have HG := Lib.hid hg
               clear hO hg)
  all_goals
    go_ret
    refine ⟨A', c', rfl, ?_, Only.of_grown HG.out (fun k hk _ => (Option.some.inj hk).symm)⟩
    first | exact HO.out | simpa using HO.out
/-- copy into a block; the world behind it, by what is known of it. -/
theorem wpList_copy_rows {P : Program} (w : World) {ops : Array Oper} {rest : List Oper} {o : Oper} {a : Act} {Q : Exit → Act → World → Prop} (hgd : o.guard = none) (d s : Operand) (dT sT elem : TypeId)
    (ho : o.op = .call { callee := .builtin .copy, args := #[d, s], argTypes := #[dT, sT] }) (g off dLen dCap : Nat) (ad : Addr) (sLen sCap n size : Nat) (cur : Array Value) (t : TypeId) (cs : List Value)
    (hd : a.eval d = .slice (some ⟨g, off, none⟩) dLen dCap) (hs : a.eval s = .slice (some ad) sLen sCap)
    (hu : P.underlying dT = some (.slice elem)) (hsz : (P.info? elem).map (·.size) = some size)
    (hg : w.heap[g]? = some (.cells cur t (0, 0))) (hn : Nat.min sLen dLen = n) (hl : cs.length = n * size)
    (hsrc : ∀ j v, cs[j]? = some v → w.cell? (ad.add j) = some v) (hfit : off + cs.length ≤ cur.size) (h1 : ∀ v ∈ cs, v.oneCell' = true)
    (h : ∀ w', w'.heap[g]? = some (.cells (cur.toList.take off ++ cs ++ cur.toList.drop (off + cs.length)).toArray t (0, 0)) → Only (· = g) w w' → wpList P ops Q rest (a.put o.dst (goInt n)) w') : wpList P ops Q (o :: rest) a w :=
  wpList_copy_go w hgd d s dT sT ho _ _ hd hs (run_copy_rows w dT sT o.type elem g off dLen dCap ad sLen sCap n size cur t cs hu hsz hg hn hl hsrc hfit h1) (h _ (setRow_heap w g cur _ t (0, 0) hg) (only_row w g _))
theorem step_copy_rows {P : Program} (w : World) {ops : Array Oper} {o : Oper} {a : Act} {K : Act → World → Prop} {Q : Exit → Act → World → Prop} {E : Prop} (hgd : o.guard = none) (d s : Operand) (dT sT elem : TypeId)
    (ho : o.op = .call { callee := .builtin .copy, args := #[d, s], argTypes := #[dT, sT] }) (g off dLen dCap : Nat) (ad : Addr) (sLen sCap n size : Nat) (cur : Array Value) (t : TypeId) (cs : List Value)
    (hd : a.eval d = .slice (some ⟨g, off, none⟩) dLen dCap) (hs : a.eval s = .slice (some ad) sLen sCap)
    (hu : P.underlying dT = some (.slice elem)) (hsz : (P.info? elem).map (·.size) = some size)
    (hg : w.heap[g]? = some (.cells cur t (0, 0))) (hn : Nat.min sLen dLen = n) (hl : cs.length = n * size)
    (hsrc : ∀ j v, cs[j]? = some v → w.cell? (ad.add j) = some v) (hfit : off + cs.length ≤ cur.size) (h1 : ∀ v ∈ cs, v.oneCell' = true)
    (h : ∀ w', w'.heap[g]? = some (.cells (cur.toList.take off ++ cs ++ cur.toList.drop (off + cs.length)).toArray t (0, 0)) → Only (· = g) w w' → K (a.put o.dst (goInt n)) w') : if Region.wanted o (yielded ops a.tmps) = true then Oper.wp P o a w K Q else E :=
  step_copy_go hgd d s dT sT ho _ _ hd hs (run_copy_rows w dT sT o.type elem g off dLen dCap ad sLen sCap n size cur t cs hu hsz hg hn hl hsrc hfit h1) (h _ (setRow_heap w g cur _ t (0, 0) hg) (only_row w g _))

theorem grow_list {R xs vc : List Value} {N I s : Nat} (hR : R.take I = xs.take I) (hN : xs.length = N) (hI : I ≤ N) (hv : vc.length = s) (hX : N + s ≤ R.length) :
    let c1 := R.take I ++ vc ++ R.drop (I + vc.length)
    (c1.take (I + s) ++ xs.drop I ++ c1.drop (I + s + (xs.drop I).length)).take (N + s) = xs.take I ++ vc ++ xs.drop I := by
  intro c1
  have hl1 : (xs.drop I).length = N - I := by rw [List.length_drop, hN]
  have h1 : c1.take (I + s) = xs.take I ++ vc := by
    show (R.take I ++ vc ++ R.drop (I + vc.length)).take (I + s) = _
    rw [List.take_append_of_le_length (by simp only [List.length_append, List.length_take, hv]; omega), List.take_of_length_le (by simp only [List.length_append, List.length_take, hv]; omega), hR]
  rw [h1, List.take_append_of_le_length (by simp only [List.length_append, List.length_take, hl1, hv, hN]; omega), List.take_of_length_le (by simp only [List.length_append, List.length_take, hl1, hv, hN]; omega)]

set_option maxRecDepth 100000 in
set_option maxHeartbeats 4000000 in
/-- There is no room, and the place is not the end: a new row. -/
theorem insert_grow (w : World) (B g n i : Nat) (l : List Span) (v : Span) (vb : Nat) (hl : l.length = n) (hown : w.ownsRow B 50 5 (.slice (some ⟨g, 0, none⟩) n n) n (l.map Span.cells).flatten) (hi : i < n) (hn : n ≤ 16) (hv : w.heap[vb]? = some v.blk) (hB : B ≤ w.heap.size) :
    Calls Try.prog 44 #[.slice (some ⟨g, 0, none⟩) n n, .int .i64 i, .slice (some ⟨vb, 0, none⟩) 1 1] w fun e w' => ∃ A' cap', e = .returned (.slice A' (n + 1) cap') ∧
      w'.ownsRow B 50 5 (.slice A' (n + 1) cap') (n + 1) ((l.take i ++ v :: l.drop i).map Span.cells).flatten ∧ Below w.heap.size w w' := by
  obtain ⟨i0, hi0, hz0, hz1, hz2⟩ := info_parts info50
  have hs50 : (Try.prog.info? 50).map (·.size) = some 5 := by rw [hi0]; simp [hz1]
  have hfl := span_flat_len l
  rw [hl] at hfl
  have hgw : g < w.heap.size := (hown.lt g rfl).2
  have hold : (Builtin.firstCells i0.size i (.slice (some ⟨g, 0, none⟩) i n)).run Try.prog w.drew = .ok ((l.map Span.cells).flatten.take (i * 5)).toArray w.drew := by
    rw [hz1]
    refine run_firstCells_some w.drew 5 i ⟨g, 0, none⟩ i n ((l.map Span.cells).flatten.take (i * 5)) (by rw [List.length_take, hfl]; omega) (fun j u hj => ?_)
    rw [List.getElem?_take] at hj
    split at hj
    · exact own_cell (w := w) hown (k := 0) j u (by simpa using hj)
    · cases hj
  have hik : i + (n + 1 - i) = n + 1 := by omega
  have hap : ∀ ty, (Builtin.append_ #[22, 3] ty #[.slice (some ⟨g, 0, none⟩) i n, .int .i64 ((n : Int) + 1 - (i : Int))]).run Try.prog w =
      .ok (.slice (some ⟨w.heap.size, 0, none⟩) (n + 1) (grownCap w (n + 1) n 50)) (w.drew.alloc (.cells (((l.map Span.cells).flatten.take (i * 5)).toArray ++ Builtin.zeroCells (Value.agg #[.string ⟨#[]⟩, .string ⟨#[]⟩, .int .i64 0, .int .i64 0, .int .i64 0]).cells (n + 1 - i) ++ Builtin.zeroCells (Value.agg #[.string ⟨#[]⟩, .string ⟨#[]⟩, .int .i64 0, .int .i64 0, .int .i64 0]).cells (grownCap w (n + 1) n 50 - (n + 1))) 50)) := fun ty => by
    have h := Lib.run_append_grow_zeros w 22 3 ty 50 i0 _ .i64 .i64 Try.underlying22 Try.underlying3 hi0 hz0 (some ⟨g, 0, none⟩) i n _ hold (n + 1 - i) (by omega) (by omega) (by omega) (by omega) (by rw [hz2]; omega) (by rw [hz2, hik]; exact growslice_fits (by omega) (by omega))
    rw [hik] at h
    rw [show (n : Int) + 1 - (i : Int) = ((n + 1 - i : Nat) : Int) by omega]
    exact h
  have hG1 : n + 1 ≤ grownCap w (n + 1) n 50 := grownCap_ge w _ _ _
  have hG2 : grownCap w (n + 1) n 50 ≤ maxLen := grownCap_le_maxLen w (n + 1) n 50 (by unfold maxLen; omega)
  obtain ⟨G, hG⟩ : ∃ G, G = grownCap w (n + 1) n 50 := ⟨_, rfl⟩
  obtain ⟨ROW, hROW⟩ : ∃ ROW : Array Value, ROW = ((l.map Span.cells).flatten.take (i * 5)).toArray ++ Builtin.zeroCells (Value.agg #[.string ⟨#[]⟩, .string ⟨#[]⟩, .int .i64 0, .int .i64 0, .int .i64 0]).cells (n + 1 - i) ++ Builtin.zeroCells (Value.agg #[.string ⟨#[]⟩, .string ⟨#[]⟩, .int .i64 0, .int .i64 0, .int .i64 0]).cells (G - (n + 1)) := ⟨_, rfl⟩
  rw [← hG] at hG1 hG2
  simp only [← hG, ← hROW] at hap
  have htl : ((l.map Span.cells).flatten.take (i * 5)).length = i * 5 := by rw [List.length_take, hfl]; omega
  have hRl : ROW.size = G * 5 := by
    rw [hROW]
    simp only [Array.size_append, List.size_toArray, htl, Builtin.zeroCells, Value.cells, Array.size_map, Array.size_range, List.length_cons, List.length_nil]
    omega
  have hRt : ROW.toList.take (i * 5) = (l.map Span.cells).flatten.take (i * 5) := by
    rw [hROW, Array.toList_append, Array.toList_append, List.append_assoc, List.take_append_of_le_length (by simp only [htl]; omega), List.take_of_length_le (by simp only [htl]; omega)]
  have hvc : v.cells.length = 5 := rfl
  have hdl : ((l.map Span.cells).flatten.drop (i * 5)).length = (n - i) * 5 := by rw [List.length_drop, hfl]; omega
  have hlist := grow_list (R := ROW.toList) (xs := (l.map Span.cells).flatten) (vc := v.cells) (N := n * 5) (I := i * 5) (s := 5) hRt hfl (by omega) hvc (by rw [Array.length_toList, hRl]; omega)
  obtain ⟨C1, hC1⟩ : ∃ C1 : List Value, C1 = ROW.toList.take (i * 5) ++ v.cells ++ ROW.toList.drop (i * 5 + v.cells.length) := ⟨_, rfl⟩
  have hC1s : C1.length = G * 5 := by
    rw [hC1]
    simp only [List.length_append, List.length_take, List.length_drop, Array.length_toList, hRl, hvc]
    omega
  rw [← hC1] at hlist
  have Hap := Lib.hid hap; have Hv := Lib.hid hv; have Hown := Lib.hid hown; have Hlist := Lib.hid hlist; have HRl := Lib.hid hRl; have Hdl := Lib.hid hdl; have HC1 := Lib.hid hC1; have HC1s := Lib.hid hC1s
  clear hap hv hown hlist hRl hRt hC1 hC1s hROW hG hold hfl htl hdl
  have hw1 : IntKind.i64.wrap ((i : Int) + 1) = (i : Int) + 1 := IntWalk.i64_in _ (by omega)
  have hw2 : IntKind.i64.wrap ((n : Int) + 1) = (n : Int) + 1 := IntWalk.i64_in _ (by omega)
  have hw3 : IntKind.i64.wrap ((n : Int) + 1 - (i : Int)) = (n : Int) + 1 - (i : Int) := IntWalk.i64_in _ (by omega)
  have q1 : ¬ ((i : Int) = (n : Int)) := by omega
  have q1' : ((i : Int) == (n : Int)) = false := by simpa using q1
  have q2 : (n : Int) < (n : Int) + 1 := by omega
  have q3 : (0 : Int) ≤ (i : Int) + 1 := by omega
  have q4 : ((i : Int) + 1).toNat = i + 1 := by omega
  have q7 : i ≤ n := by omega
  have q8 : ¬ (n = i) := by omega
  have q9 : ¬ (G = i) := by omega
  have q10 : ¬ (G = i + 1) := by omega
  have q11 : (i : Int) + 1 ≤ (n : Int) + 1 := by omega
  have q12 : (i : Int) ≤ (n : Int) + 1 := by omega
  have q13 : (i : Int) ≤ (n : Int) := by omega
  go_enter Try.func44, Try.ntmps44
  go_wp2_with (first
    | (refine Lib.wpList_append_run _ rfl (.tmp 34) (.tmp 39) 22 3 rfl (.slice (some ⟨g, 0, none⟩) i n) (.int .i64 ((n : Int) + 1 - (i : Int))) rfl rfl _ _ (Hap.out _) ?_
       have ha0 : (w.drew.alloc (.cells ROW 50)).heap[w.heap.size]? = some (.cells ROW 50 (0, 0)) := heap_alloc_new w.drew _
       have hb0 : Below w.heap.size w (w.drew.alloc (.cells ROW 50)) := ((Below.refl _ w).drew).alloc (Nat.le_refl _) _
       generalize w.drew.alloc (.cells ROW 50) = w0 at *
       have HA0 := Lib.hid ha0; have HB0 := Lib.hid hb0
       clear ha0 hb0)
    | (refine wpList_copy_rows _ rfl (.tmp 43) (.tmp 44) 22 22 50 rfl w.heap.size (i * 5) (n + 1 - i) (G - i) ⟨vb, 0, none⟩ 1 1 1 5 ROW 50 v.cells rfl rfl Try.underlying22 hs50 HA0.out (by simp only [Nat.min_def]; split <;> omega) rfl (span_src (blk_below HB0.out (lt_of_some Hv.out) Hv.out)) (by rw [HRl.out, hvc]; omega) (one_span v) ?_
       intro w1 hC ho1
       rw [← HC1.out] at hC
       have HA1 := Lib.hid hC
       have HB1 := Lib.hid (ho1.below HB0.out (fun k hk => by omega) HB0.out.size)
       clear hC ho1))
  have hsrc : ∀ j u, ((l.map Span.cells).flatten.drop (i * 5))[j]? = some u → w1.drew.cell? ((⟨g, i * 5, none⟩ : Addr).add j) = some u := fun j u hu => by
    have := own_cell Hown.out (k := i * 5) j u hu
    rw [addr_add] at this ⊢
    exact (HB1.out.cell (p := ⟨g, i * 5 + j, none⟩) hgw).trans this
  have Hsrc := Lib.hid hsrc
  clear hsrc
  have hI5 : (i + 1) * 5 = i * 5 + 5 := by omega
  have hC1t : C1.toArray.size = G * 5 := by rw [List.size_toArray]; exact HC1s.out
  go_region_law (refine step_copy_rows w1.drew rfl (.tmp 50) (.tmp 53) 22 22 50 rfl w.heap.size ((i + 1) * 5) (n - i) (G - (i + 1)) ⟨g, i * 5, none⟩ (n - i) (n - i) (n - i) 5 C1.toArray 50 ((l.map Span.cells).flatten.drop (i * 5)) (by simp [Act.eval, Act.put]) (by simp [Act.eval, Act.put]) Try.underlying22 hs50 HA1.out (Nat.min_self _) Hdl.out Hsrc.out (by rw [Hdl.out, hC1t]; omega) (spans_one_drop l _) ?_
                 intro w2 hC2 ho2
                 have HC2 := Lib.hid hC2; have HO2 := Lib.hid ho2
                 clear hC2 ho2)
  go_wp2_with fail
  go_ret
  have e : (List.take i (List.map Span.cells l)).flatten ++ (v.cells ++ (List.drop i (List.map Span.cells l)).flatten) = ((l.take i ++ v :: l.drop i).map Span.cells).flatten := by simp [List.map_take, List.map_drop]
  simp only [e]
  refine ⟨some ⟨w.heap.size, 0, none⟩, G, rfl, ⟨?_, .inr ⟨w.heap.size, G, _, rfl, hB, HC2.out, hG1, hG2, ?_, ?_⟩⟩, HO2.out.below (HB1.out.drew) (fun k hk => by omega) HB1.out.size⟩
  · rw [span_flat_len]; simp only [List.length_append, List.length_take, List.length_cons, List.length_drop, hl]; omega
  · rw [List.size_toArray]
    simp only [List.length_append, List.length_take, List.length_drop, Hdl.out, HC1s.out, hI5]
    have := Hdl.out
    rw [List.length_drop] at this
    omega
  · rw [ins_cells, show (n + 1) * 5 = n * 5 + 5 by omega, ← Hlist.out, hI5]
/-- A span is put into a row that is owned, at any place. -/
theorem insert_any (w : World) (B : Nat) (A : Option Addr) (cap i : Nat) (x : Int) (hx : x = (i : Int)) (l : List Span) (v : Span) (vb : Nat) (hown : w.ownsRow B 50 5 (.slice A l.length cap) l.length (l.map Span.cells).flatten) (h0 : 0 < l.length) (hi : i ≤ l.length) (hn : l.length ≤ 16) (hv : w.heap[vb]? = some v.blk) (hne : (Value.slice A l.length cap).ownBlock ≠ some vb) (hB : B ≤ w.heap.size) :
    Calls Try.prog 44 #[.slice A l.length cap, .int .i64 x, .slice (some ⟨vb, 0, none⟩) 1 1] w fun e w' => ∃ A' cap', e = .returned (.slice A' (l.length + 1) cap') ∧
      w'.ownsRow B 50 5 (.slice A' (l.length + 1) cap') (l.length + 1) ((l.take i ++ v :: l.drop i).map Span.cells).flatten ∧ Only (fun k => (Value.slice A l.length cap).ownBlock = some k) w w' := by
  subst hx
  obtain ⟨g, rfl, hg, _⟩ := own_addr0 hown h0
  obtain ⟨hnc, hmx⟩ := own_caps hown
  have hg0 : (Value.slice (some ⟨g, 0, none⟩) l.length cap).ownBlock = some g := rfl
  have hvg : vb ≠ g := fun h => hne (by rw [hg0, h])
  have hO : ∀ {a b : World}, Only (· = g) a b → Only (fun k => (Value.slice (some ⟨g, 0, none⟩) l.length cap).ownBlock = some k) a b := fun h => h.mono (fun k hk => by have hk : k = g := hk; rw [hg0, hk])
  by_cases he : i = l.length
  · subst he
    refine (insert_end w B g l.length cap l v vb rfl hown hn hnc hmx hv hB).mono ?_
    rintro e w' ⟨A', cap', h1, h2, h3⟩
    exact ⟨A', cap', h1, by simpa using h2, hO h3⟩
  · by_cases hr : l.length + 1 ≤ cap
    · refine (insert_shift w B g l.length cap i l v vb rfl hown (by omega) hr hmx hv hvg).mono ?_
      rintro e w' ⟨h1, h2, h3⟩
      exact ⟨_, _, h1, h2, hO h3⟩
    · obtain rfl : cap = l.length := by omega
      refine (insert_grow w B g l.length i l v vb rfl hown (by omega) hn hv hB).mono ?_
      rintro e w' ⟨A', cap', h1, h2, h3⟩
      exact ⟨A', cap', h1, h2, Only.of_below h3⟩
end Go.Proofs.Ytimondpollbdfaa
