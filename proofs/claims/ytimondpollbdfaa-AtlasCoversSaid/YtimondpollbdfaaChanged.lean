/- What is proved: the document's changed: a list's head, what is put in, and its tail, in new memory. -/
import Derived.Test.YtimondpollbdfaaDel
set_option linter.unusedVariables false
set_option linter.unusedSimpArgs false
namespace Go.Proofs.Ytimondpollbdfaa
open Go.RowKit

theorem RowAt.drop {w : World} {B size b off : Nat} {cs : List (List Value)} (h : RowAt w B size (some ⟨b, off, none⟩) cs) (k : Nat) : RowAt w B size (some ⟨b, off + k * size, none⟩) (cs.drop k) := by
  intro i c hi
  rw [List.getElem?_drop] at hi
  obtain ⟨b', off', hA, hb, hcell⟩ := h (k + i) c hi
  injection hA with hA
  injection hA with h1 h2
  subst h1; subst h2
  refine ⟨b, off + k * size, rfl, hb, fun j u hu => ?_⟩
  have := hcell j u hu
  rw [Nat.add_mul] at this
  rw [← this]
  congr 2
  omega
theorem RowAt.take {w : World} {B size : Nat} {A : Option Addr} {cs : List (List Value)} (h : RowAt w B size A cs) (k : Nat) : RowAt w B size A (cs.take k) := by
  intro i c hi
  rw [List.getElem?_take] at hi
  by_cases hk : i < k
  · rw [if_pos hk] at hi
    exact h i c hi
  · rw [if_neg hk] at hi; cases hi
theorem wpList_app0 {P : Program} (w : World) {ops : Array Oper} {rest : List Oper} {o : Oper} {a : Act} {Q : Exit → Act → World → Prop} (hgd : o.guard = none) (s x : Operand) (t : TypeId)
    (ho : o.op = .call { callee := .builtin .append, args := #[s, x], argTypes := #[t, t] })
    (e : TypeId) (i : TypeInfo) (z : Value) (base size bytes : Nat) (ht : P.underlying t = some (.slice e)) (hi : P.info? e = some i) (hz : i.zero = some z)
    (hsize : i.size = size) (hby : i.bytes = bytes) (hzs : z.cells.size = size) (hsz : 0 < size)
    (v : Value) (hv : a.eval s = v) (hown : w.ownsRow base e size v 0 [])
    (B : Nat) (A : Option Addr) (m c : Nat) (cs : List (List Value)) (hx : a.eval x = .slice A m c) (hr : RowAt w B size A cs) (hs : ∀ c ∈ cs, c.length = size) (hm : cs.length = m) (h1 : ∀ u ∈ cs.flatten, u.oneCell' = true)
    (h63 : m ≤ maxLen) (hbytes : m * bytes ≤ 140737488355328) (hbase : base ≤ w.heap.size)
    (h : ∀ A' c' w', w'.ownsRow base e size (.slice A' m c') m cs.flatten → w.grownBy w' v.ownBlock → wpList P ops Q rest (a.put o.dst (.slice A' m c')) w') : wpList P ops Q (o :: rest) a w :=
  wpList_app w hgd s x t ho e i z base size bytes ht hi hz hsize hby hzs hsz v 0 [] hv hown B A m c cs hx hr hs hm h1 (by omega) (by rw [Nat.zero_add]; exact hbytes) hbase fun A' c' w' h1 h2 _ => by
    rw [Nat.zero_add] at h1 ⊢
    exact h A' c' w' (by simpa using h1) h2
theorem below_grown {B : Nat} {w a b : World} {row : Option Nat} (h : Below B w a) (hg : a.grownBy b row) (hr : ∀ k, row = some k → B ≤ k) (hB : B ≤ a.heap.size) : Below B w b :=
  (Only.of_grown (F := fun k => B ≤ k) hg (fun k hk _ => hr k hk)).below h (fun k hk => hk) hB

set_option maxRecDepth 100000 in
set_option maxHeartbeats 2000000 in
theorem changed_in (w : World) (b off cap : Nat) (l : List Span) (i k : Nat) (B : Option Addr) (bc : Nat) (v : List Span) (hr : RowAt w w.heap.size 5 (some ⟨b, off, none⟩) (l.map Span.cells)) (hv : RowAt w w.heap.size 5 B (v.map Span.cells)) (hik : i ≤ k) (hk : k ≤ l.length) (hlen : l.length ≤ 16) (hv2 : v.length ≤ 2) (hcap : l.length ≤ cap) (hcm : cap ≤ 9223372036854775807)
    (hc : (cap == k) = false) :
    Calls Try.prog 46 #[.slice (some ⟨b, off, none⟩) l.length cap, .int .i64 i, .int .i64 k, .slice B v.length bc] w fun e w' => ∃ A' cap', e = .returned (.slice A' (i + v.length + (l.length - k)) cap') ∧
      w'.ownsRow w.heap.size 50 5 (.slice A' (i + v.length + (l.length - k)) cap') (i + v.length + (l.length - k)) (((l.map Span.cells).take i).flatten ++ (v.map Span.cells).flatten ++ ((l.map Span.cells).drop k).flatten) ∧ Below w.heap.size w w' := by
  obtain ⟨i0, hi0, hz0, hz1, hz2⟩ := info_parts info50
  have hmade : (w.alloc (.cells #[] 50)).ownsRow w.heap.size 50 5 (.slice (some ⟨w.heap.size, 0, none⟩) 0 0) 0 [] := World.ownsRow_made (base := w.heap.size) (e := 50) (size := 5) w #[] 0 (Nat.le_refl _) (Nat.zero_le _) rfl
  have htl : ((l.map Span.cells).take i).length = i := by rw [List.length_take, List.length_map]; omega
  have ht1 : ∀ u ∈ ((l.map Span.cells).take i).flatten, u.oneCell' = true := by rw [flat_take _ (span_len _)]; exact fun u hu => spans_one l u (List.mem_of_mem_take hu)
  have hts : ∀ c ∈ (l.map Span.cells).take i, c.length = 5 := fun c hc => span_len _ c (List.mem_of_mem_take hc)
  have hdl : ((l.map Span.cells).drop k).length = l.length - k := by simp
  have hd1 : ∀ u ∈ ((l.map Span.cells).drop k).flatten, u.oneCell' = true := by rw [flat_drop _ (span_len _)]; exact spans_one_drop _ _
  have hds : ∀ c ∈ (l.map Span.cells).drop k, c.length = 5 := fun c hc => span_len _ c (List.mem_of_mem_drop hc)
  have hrt := hr.take i
  have hrd : RowAt w w.heap.size 5 (some ⟨b, off + k * 5, none⟩) ((l.map Span.cells).drop k) := hr.drop k
  have hn0 : ¬ cap = k := by simpa using hc
  have HN := Lib.hid hn0; clear hn0
  have Hmade := Lib.hid hmade; have Htl := Lib.hid htl; have Ht1 := Lib.hid ht1; have Hts := Lib.hid hts; have Hdl := Lib.hid hdl; have Hd1 := Lib.hid hd1; have Hds := Lib.hid hds; have Hrt := Lib.hid hrt; have Hrd := Lib.hid hrd; have Hv := Lib.hid hv
  clear hmade htl ht1 hts hdl hd1 hds hrt hrd hv hr
  have hj0 : (0 : Int) ≤ (i : Int) := by omega
  have hj1 : (i : Int) ≤ (cap : Int) := by omega
  have hj2 : (0 : Int) ≤ (k : Int) := by omega
  have hj3 : (k : Int) ≤ (l.length : Int) := by omega
  have hj4 : i ≤ cap := by omega
  have hj5 : k ≤ cap := by omega
  have hn1 : i ≤ maxLen := by unfold maxLen; omega
  have hn2 : i * 56 ≤ 140737488355328 := by omega
  have hn3 : i + v.length ≤ maxLen := by unfold maxLen; omega
  have hn4 : (i + v.length) * 56 ≤ 140737488355328 := by omega
  have hn5 : i + v.length + (l.length - k) ≤ maxLen := by unfold maxLen; omega
  have hn6 : (i + v.length + (l.length - k)) * 56 ≤ 140737488355328 := by omega
  go_enter Try.func46, Try.ntmps46
  go_wp2_with (first
    | (at_builtin
       refine wpList_app0 _ rfl (.tmp 10) (.tmp 13) 22 rfl 50 i0 _ w.heap.size 5 56 Try.underlying22 hi0 hz0 hz1 hz2 rfl (by omega) (.slice (some ⟨w.heap.size, 0, none⟩) 0 0) rfl Hmade.out w.heap.size _ _ _ ((l.map Span.cells).take i) rfl (Hrt.out.below (al _) (Nat.le_refl _)) Hts.out Htl.out Ht1.out hn1 hn2 (by simp) ?_
       intro A1 c1 w1 hown1 hg1
       have hb1 : Below w.heap.size w w1 := below_grown (al _) hg1 (fun q hq => by have hq : w.heap.size = q := Option.some.inj hq; omega) (by simp)
       have H1 := Lib.hid hown1; have HB1 := Lib.hid hb1
       clear hown1 hg1 hb1)
    | (at_builtin
       refine wpList_app _ rfl (.tmp 15) (.tmp 16) 22 rfl 50 i0 _ w.heap.size 5 56 Try.underlying22 hi0 hz0 hz1 hz2 rfl (by omega) (.slice A1 i c1) i (((l.map Span.cells).take i).flatten) rfl H1.out w.heap.size B v.length bc (v.map Span.cells) rfl (Hv.out.below HB1.out (Nat.le_refl _)) (span_len _) (by simp) (spans_one v) hn3 hn4 HB1.out.size ?_
       intro A2 c2 w2 hown2 hg2 _
       have hb2 : Below w.heap.size w w2 := below_grown HB1.out hg2 (fun q hq => (H1.out.lt q hq).1) HB1.out.size
       have H2 := Lib.hid hown2; have HB2 := Lib.hid hb2
       clear hown2 hg2 hb2)
    | (at_builtin
       refine wpList_app _ rfl (.tmp 18) (.tmp 21) 22 rfl 50 i0 _ w.heap.size 5 56 Try.underlying22 hi0 hz0 hz1 hz2 rfl (by omega) (.slice A2 (i + v.length) c2) (i + v.length) (((l.map Span.cells).take i).flatten ++ (v.map Span.cells).flatten) rfl H2.out w.heap.size (some ⟨b, off + k * 5, none⟩) (l.length - k) _ ((l.map Span.cells).drop k) (show Value.slice (if cap = k then some ⟨b, off, none⟩ else some ⟨b, off + k * 5, none⟩) (l.length - k) (cap - k) = Value.slice (some ⟨b, off + k * 5, none⟩) (l.length - k) (cap - k) by rw [if_neg HN.out]) (Hrd.out.below HB2.out (Nat.le_refl _)) Hds.out Hdl.out Hd1.out hn5 hn6 HB2.out.size ?_
       intro A3 c3 w3 hown3 hg3 _
       have hb3 : Below w.heap.size w w3 := below_grown HB2.out hg3 (fun q hq => (H2.out.lt q hq).1) HB2.out.size
       have H3 := Lib.hid hown3; have HB3 := Lib.hid hb3
       clear hown3 hg3 hb3))
  go_ret
  exact ⟨A3, c3, rfl, by rw [← List.append_assoc]; exact H3.out, HB3.out⟩
set_option maxRecDepth 100000 in
set_option maxHeartbeats 2000000 in
theorem changed_end (w : World) (b off cap : Nat) (l : List Span) (i k : Nat) (B : Option Addr) (bc : Nat) (v : List Span) (hr : RowAt w w.heap.size 5 (some ⟨b, off, none⟩) (l.map Span.cells)) (hv : RowAt w w.heap.size 5 B (v.map Span.cells)) (hik : i ≤ k) (hk : k ≤ l.length) (hlen : l.length ≤ 16) (hv2 : v.length ≤ 2) (hcap : l.length ≤ cap) (hcm : cap ≤ 9223372036854775807)
    (hc : (cap == k) = true) :
    Calls Try.prog 46 #[.slice (some ⟨b, off, none⟩) l.length cap, .int .i64 i, .int .i64 k, .slice B v.length bc] w fun e w' => ∃ A' cap', e = .returned (.slice A' (i + v.length + (l.length - k)) cap') ∧
      w'.ownsRow w.heap.size 50 5 (.slice A' (i + v.length + (l.length - k)) cap') (i + v.length + (l.length - k)) (((l.map Span.cells).take i).flatten ++ (v.map Span.cells).flatten ++ ((l.map Span.cells).drop k).flatten) ∧ Below w.heap.size w w' := by
  obtain ⟨i0, hi0, hz0, hz1, hz2⟩ := info_parts info50
  have hmade : (w.alloc (.cells #[] 50)).ownsRow w.heap.size 50 5 (.slice (some ⟨w.heap.size, 0, none⟩) 0 0) 0 [] := World.ownsRow_made (base := w.heap.size) (e := 50) (size := 5) w #[] 0 (Nat.le_refl _) (Nat.zero_le _) rfl
  have htl : ((l.map Span.cells).take i).length = i := by rw [List.length_take, List.length_map]; omega
  have ht1 : ∀ u ∈ ((l.map Span.cells).take i).flatten, u.oneCell' = true := by rw [flat_take _ (span_len _)]; exact fun u hu => spans_one l u (List.mem_of_mem_take hu)
  have hts : ∀ c ∈ (l.map Span.cells).take i, c.length = 5 := fun c hc => span_len _ c (List.mem_of_mem_take hc)
  have hdl : ((l.map Span.cells).drop k).length = l.length - k := by simp
  have hd1 : ∀ u ∈ ((l.map Span.cells).drop k).flatten, u.oneCell' = true := by rw [flat_drop _ (span_len _)]; exact spans_one_drop _ _
  have hds : ∀ c ∈ (l.map Span.cells).drop k, c.length = 5 := fun c hc => span_len _ c (List.mem_of_mem_drop hc)
  have hrt := hr.take i
  have hrd : RowAt w w.heap.size 5 (some ⟨b, off, none⟩) ((l.map Span.cells).drop k) := by
    have h : cap = k := by simpa using hc
    rw [List.drop_of_length_le (by rw [List.length_map]; omega)]
    exact rowAt_nil _ _ _ _
  have hn0 : cap = k := by simpa using hc
  have HN := Lib.hid hn0; clear hn0
  have Hmade := Lib.hid hmade; have Htl := Lib.hid htl; have Ht1 := Lib.hid ht1; have Hts := Lib.hid hts; have Hdl := Lib.hid hdl; have Hd1 := Lib.hid hd1; have Hds := Lib.hid hds; have Hrt := Lib.hid hrt; have Hrd := Lib.hid hrd; have Hv := Lib.hid hv
  clear hmade htl ht1 hts hdl hd1 hds hrt hrd hv hr
  have hj0 : (0 : Int) ≤ (i : Int) := by omega
  have hj1 : (i : Int) ≤ (cap : Int) := by omega
  have hj2 : (0 : Int) ≤ (k : Int) := by omega
  have hj3 : (k : Int) ≤ (l.length : Int) := by omega
  have hj4 : i ≤ cap := by omega
  have hj5 : k ≤ cap := by omega
  have hn1 : i ≤ maxLen := by unfold maxLen; omega
  have hn2 : i * 56 ≤ 140737488355328 := by omega
  have hn3 : i + v.length ≤ maxLen := by unfold maxLen; omega
  have hn4 : (i + v.length) * 56 ≤ 140737488355328 := by omega
  have hn5 : i + v.length + (l.length - k) ≤ maxLen := by unfold maxLen; omega
  have hn6 : (i + v.length + (l.length - k)) * 56 ≤ 140737488355328 := by omega
  go_enter Try.func46, Try.ntmps46
  go_wp2_with (first
    | (at_builtin
       refine wpList_app0 _ rfl (.tmp 10) (.tmp 13) 22 rfl 50 i0 _ w.heap.size 5 56 Try.underlying22 hi0 hz0 hz1 hz2 rfl (by omega) (.slice (some ⟨w.heap.size, 0, none⟩) 0 0) rfl Hmade.out w.heap.size _ _ _ ((l.map Span.cells).take i) rfl (Hrt.out.below (al _) (Nat.le_refl _)) Hts.out Htl.out Ht1.out hn1 hn2 (by simp) ?_
       intro A1 c1 w1 hown1 hg1
       have hb1 : Below w.heap.size w w1 := below_grown (al _) hg1 (fun q hq => by have hq : w.heap.size = q := Option.some.inj hq; omega) (by simp)
       have H1 := Lib.hid hown1; have HB1 := Lib.hid hb1
       clear hown1 hg1 hb1)
    | (at_builtin
       refine wpList_app _ rfl (.tmp 15) (.tmp 16) 22 rfl 50 i0 _ w.heap.size 5 56 Try.underlying22 hi0 hz0 hz1 hz2 rfl (by omega) (.slice A1 i c1) i (((l.map Span.cells).take i).flatten) rfl H1.out w.heap.size B v.length bc (v.map Span.cells) rfl (Hv.out.below HB1.out (Nat.le_refl _)) (span_len _) (by simp) (spans_one v) hn3 hn4 HB1.out.size ?_
       intro A2 c2 w2 hown2 hg2 _
       have hb2 : Below w.heap.size w w2 := below_grown HB1.out hg2 (fun q hq => (H1.out.lt q hq).1) HB1.out.size
       have H2 := Lib.hid hown2; have HB2 := Lib.hid hb2
       clear hown2 hg2 hb2)
    | (at_builtin
       refine wpList_app _ rfl (.tmp 18) (.tmp 21) 22 rfl 50 i0 _ w.heap.size 5 56 Try.underlying22 hi0 hz0 hz1 hz2 rfl (by omega) (.slice A2 (i + v.length) c2) (i + v.length) (((l.map Span.cells).take i).flatten ++ (v.map Span.cells).flatten) rfl H2.out w.heap.size (some ⟨b, off, none⟩) (l.length - k) _ ((l.map Span.cells).drop k) (show Value.slice (if cap = k then some ⟨b, off, none⟩ else some ⟨b, off + k * 5, none⟩) (l.length - k) (cap - k) = Value.slice (some ⟨b, off, none⟩) (l.length - k) (cap - k) by rw [if_pos HN.out]) (Hrd.out.below HB2.out (Nat.le_refl _)) Hds.out Hdl.out Hd1.out hn5 hn6 HB2.out.size ?_
       intro A3 c3 w3 hown3 hg3 _
       have hb3 : Below w.heap.size w w3 := below_grown HB2.out hg3 (fun q hq => (H2.out.lt q hq).1) HB2.out.size
       have H3 := Lib.hid hown3; have HB3 := Lib.hid hb3
       clear hown3 hg3 hb3))
  go_ret
  exact ⟨A3, c3, rfl, by rw [← List.append_assoc]; exact H3.out, HB3.out⟩
theorem changed_any (w : World) (A : Option Addr) (cap : Nat) (l : List Span) (i k : Nat) (B : Option Addr) (bc : Nat) (v : List Span) (hr : RowAt w w.heap.size 5 A (l.map Span.cells)) (hv : RowAt w w.heap.size 5 B (v.map Span.cells)) (hik : i ≤ k) (hk : k ≤ l.length) (h0 : 0 < l.length) (hlen : l.length ≤ 16) (hv2 : v.length ≤ 2) (hcap : l.length ≤ cap) (hcm : cap ≤ 9223372036854775807) :
    Calls Try.prog 46 #[.slice A l.length cap, .int .i64 i, .int .i64 k, .slice B v.length bc] w fun e w' => ∃ A' cap', e = .returned (.slice A' (l.take i ++ v ++ l.drop k).length cap') ∧
      w'.ownsRow w.heap.size 50 5 (.slice A' (l.take i ++ v ++ l.drop k).length cap') (l.take i ++ v ++ l.drop k).length ((l.take i ++ v ++ l.drop k).map Span.cells).flatten ∧ Below w.heap.size w w' := by
  obtain ⟨b, off, rfl, _⟩ := span_cells hr 0 h0
  have hn : (l.take i ++ v ++ l.drop k).length = i + v.length + (l.length - k) := by
    simp only [List.length_append, List.length_take, List.length_drop]; omega
  have hf : ((l.take i ++ v ++ l.drop k).map Span.cells).flatten = ((l.map Span.cells).take i).flatten ++ (v.map Span.cells).flatten ++ ((l.map Span.cells).drop k).flatten := by
    simp only [List.map_append, List.map_take, List.map_drop, List.flatten_append]
  rw [hn, hf]
  cases hc : (cap == k)
  · exact changed_in w b off cap l i k B bc v hr hv hik hk hlen hv2 hcap hcm hc
  · exact changed_end w b off cap l i k B bc v hr hv hik hk hlen hv2 hcap hcm hc
end Go.Proofs.Ytimondpollbdfaa
