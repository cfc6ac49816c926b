/- What is proved: RouteEnds answers yes, whatever the way and the replies. Condition: the slices of all take at most 2^47 bytes. -/
import Derived.Test.YtimondpollbdfaaOpenW
import Derived.Test.YtimondpollbdfaaAwakeR
import Derived.Deep.CutBlock
set_option linter.unusedVariables false
set_option linter.unusedSimpArgs false
namespace Go.Proofs.Ytimondpollbdfaa
open Go.RowKit

theorem emptyB_ok {a : Atl} (h : tr (MapOk a) = true) : emptyB a = false := by
  have h1 := (of_tr h).1
  unfold emptyB
  rw [decide_eq_false (by omega)]
  rfl
/-- A reply that is no answer leaves a right way right, its tries left aside. -/
theorem turned_right {r : Rte} {p : Rep} (hok : RteOk r) (hd : r.done = false) : 1 ≤ (turned r p).node ∧ (turned r p).node ≤ r.nodes ∧ (emptyB (turned r p).map = true ∨ tr (MapOk (turned r p).map) = true) ∧ ((turned r p).fetch = true ∨ emptyB (turned r p).map = false ∧ named r.name = true) := by
  obtain ⟨h1, h2, h3, h4, h5, h6, h7, h8, h9⟩ := hok
  have h9' : r.fetch = true ∨ emptyB r.map = false ∧ named r.name = true := by
    rcases h9 with h | h | h
    · exact .inl h
    · rw [hd] at h; cases h
    · exact .inr h
  have e1 : 0 ≤ r.node % r.nodes := Int.emod_nonneg _ (by omega)
  have e2 : r.node % r.nodes < r.nodes := Int.emod_lt_of_pos _ (by omega)
  have nx : 1 ≤ r.node % r.nodes + 1 ∧ r.node % r.nodes + 1 ≤ r.nodes := ⟨by omega, by omega⟩
  rcases tway r p with ⟨k1, k2, h⟩ | ⟨k1, k2, h⟩ | ⟨k1, k2, h⟩ | ⟨k1, k2, k3, h⟩ | ⟨k1, k2, k3, h⟩ | ⟨k1, k2, h⟩ | ⟨k1, k2, k3, h⟩ | ⟨k1, k2, h⟩ | ⟨k1, k2, k3, k4, h⟩ | ⟨k1, k2, k3, h⟩ <;> rw [h]
  · exact ⟨Int.le_refl _, h1, h8, .inl rfl⟩
  · exact ⟨nx.1, nx.2, h8, h9'⟩
  · exact ⟨nx.1, nx.2, h8, h9'⟩
  · exact ⟨nx.1, nx.2, h8, h9'⟩
  · refine ⟨Int.le_refl _, h1, .inr k3, ?_⟩
    cases hn : named r.name
    · exact .inl (by simp)
    · exact .inr ⟨emptyB_ok k3, rfl⟩
  · exact ⟨nx.1, nx.2, h8, h9'⟩
  · exact ⟨nx.1, nx.2, h8, h9'⟩
  · exact ⟨nx.1, nx.2, h8, h9'⟩
  · exact ⟨k2, k3, h8, h9'⟩
  · exact ⟨nx.1, nx.2, h8, h9'⟩
/-- What a reply makes of a right way that is not over: the three ends. -/
inductive HEnd (r : Rte) (l : List JobD) (p : Rep) (pl : List JobD) (R : Rte) (L : List JobD) : Prop
  | next (hd : R.done = false) (hl : R.left = r.left - 1)
  | lost (hd : R.done = true) (hl : R.left ≤ r.left) (he : R.err = 181)
  | answer (hd : R.done = true) (hl : R.left ≤ r.left) (hk : p.kind = 2) (he : R.err = p.err) (ht : R.time = p.time) (hj : L = pl)
theorem heard_right {r : Rte} {l : List JobD} {p : Rep} {pl : List JobD} (hok : RteOk r) (hd : r.done = false) : RteOk (heardR r l p pl).1 ∧ HEnd r l p pl (heardR r l p pl).1 (heardR r l p pl).2 := by
  have hv := tr_true hok
  by_cases ha : p.kind = 2 ∧ r.fetch = false ∧ staleB p.err = false
  · obtain ⟨k1, k2, k3⟩ := ha
    rw [heardR_answer hv hd k1 k2 k3]
    obtain ⟨h1, h2, h3, h4, h5, h6, h7, h8, h9⟩ := hok
    exact ⟨⟨h1, h2, h3, h4, h5, h6, fun _ => rfl, h8, .inr (.inl rfl)⟩, .answer rfl (Int.le_refl _) k1 rfl rfl rfl⟩
  · obtain ⟨t1, t2, t3, t4⟩ := turned_right (p := p) hok hd
    obtain ⟨e1, e2, e3, e4, e5, e6⟩ := turned_kept r p
    obtain ⟨h1, h2, h3, h4, h5, h6, h7, h8, h9⟩ := hok
    by_cases hl : r.left = 1
    · rw [heardR_last hv hd ha hl]
      refine ⟨⟨by show 1 ≤ (turned r p).nodes; rw [e3]; exact h1, by show (turned r p).nodes ≤ 7; rw [e3]; exact h2, t1, by show (turned r p).node ≤ (turned r p).nodes; rw [e3]; exact t2, Int.le_refl _, by show (0 : Int) ≤ 64; decide, fun _ => rfl, t3, .inr (.inl rfl)⟩, .lost rfl ?_ rfl⟩
      show (0 : Int) ≤ r.left
      omega
    · rw [heardR_next hv hd ha hl]
      have h0 : ¬ r.left = 0 := fun h => by have := h7 h; rw [hd] at this; cases this
      refine ⟨⟨by show 1 ≤ (turned r p).nodes; rw [e3]; exact h1, by show (turned r p).nodes ≤ 7; rw [e3]; exact h2, t1, by show (turned r p).node ≤ (turned r p).nodes; rw [e3]; exact t2, by show 0 ≤ r.left - 1; omega, by show r.left - 1 ≤ 64; omega, fun h => by have h : r.left - 1 = 0 := h; omega, t3, ?_⟩, .next (by show (turned r p).done = false; rw [e2]; exact hd) rfl⟩
      rcases t4 with h | ⟨h, h'⟩
      · exact .inl h
      · exact .inr (.inr ⟨h, by show named (turned r p).name = true; rw [e4]; exact h'⟩)
/-- What is asked next: the answer of Where, and what Find says. -/
theorem asks {r : Rte} (hok : RteOk r) (hd : r.done = false) (hn : r.name.size ≤ 9223372036854775807) : ∃ (g sh ep : Int) (S : Span) (ok : Bool),
    (∀ (w : World) (A : Option Addr) (cap : Nat) (j : Value), MapIn w A cap r.map → Calls Try.prog 22 #[r.val (.slice A r.map.sp.length cap) j] w fun e w' => e = .returned (tup4 g r.node sh ep) ∧ Below w.heap.size w w') ∧
    (∀ (w : World) (A : Option Addr) (cap : Nat), MapIn w A cap r.map → Calls Try.prog 30 #[r.map.val (.slice A r.map.sp.length cap), .string r.name] w fun e w' => e = .returned (.tuple #[S.val, .bool ok]) ∧ Below w.heap.size w w') ∧
    (r.fetch = true ∧ g = 0 ∨ r.fetch = false ∧ ok = true ∧ S.gr = g ∧ S.sh = sh ∧ S.ep = ep ∧ 1 ≤ g) := by
  have hv := tr_true hok
  cases hf : r.fetch
  · obtain ⟨h1, h2, h3, h4, h5, h6, h7, h8, h9⟩ := hok
    obtain ⟨he, hnm⟩ : emptyB r.map = false ∧ named r.name = true := by
      rcases h9 with h | h | h
      · rw [hf] at h; cases h
      · rw [hd] at h; cases h
      · exact h
    have hm : tr (MapOk r.map) = true := by
      rcases h8 with h | h
      · rw [he] at h; cases h
      · exact h
    obtain ⟨i, hi, hx, _⟩ := inSp_ex r.name (of_tr hm).2.2.2.1
    have hso := (of_tr hm).2.2.2.2.1 i hi
    exact ⟨_, _, _, r.map.sp[i], true, fun w A cap j h => where_some w A cap j r h hn i hi hx hv hd hf hm hnm, fun w A cap h => find_some w A cap r.map r.name i h hm hn hnm hi hx, .inr ⟨rfl, rfl, rfl, rfl, rfl, hso.2.2.2.2.2.1⟩⟩
  · have hF : ∃ (S : Span) (ok : Bool), ∀ (w : World) (A : Option Addr) (cap : Nat), MapIn w A cap r.map → Calls Try.prog 30 #[r.map.val (.slice A r.map.sp.length cap), .string r.name] w fun e w' => e = .returned (.tuple #[S.val, .bool ok]) ∧ Below w.heap.size w w' := by
      cases hm : tr (MapOk r.map)
      · exact ⟨zeroS, false, fun w A cap h => find_bad w A cap r.map r.name h hm⟩
      cases hnm : named r.name
      · exact ⟨zeroS, false, fun w A cap h => find_nameless w A cap r.map r.name h hm hn hnm⟩
      obtain ⟨i, hi, hx, _⟩ := inSp_ex r.name (of_tr hm).2.2.2.1
      exact ⟨r.map.sp[i], true, fun w A cap h => find_some w A cap r.map r.name i h hm hn hnm hi hx⟩
    obtain ⟨S, ok, hF⟩ := hF
    exact ⟨0, 0, 0, S, ok, fun w A cap j h => where_fetch w A cap j r h hn hv hd hf, hF, .inl ⟨rfl, rfl⟩⟩
theorem rowAt_only {w w' : World} {size : Nat} {A : Option Addr} {cs : List (List Value)} {g : Nat} (h : RowAt w w.heap.size size A cs) (ho : Only (· = g) w w') (hF : ∀ a, A = some a → cs = [] ∨ a.block ≠ g) : RowAt w' w'.heap.size size A cs := by
  intro i c hc
  obtain ⟨b, off, hA, hb, hj⟩ := h i c hc
  refine ⟨b, off, hA, Nat.lt_of_lt_of_le hb ho.size, fun j u hu => ?_⟩
  rcases hF _ hA with h1 | h1
  · subst h1; simp at hc
  · exact (ho.cell (p := ⟨b, off + i * size + j, none⟩) hb h1).trans (hj j u hu)
theorem WayIn.only {w w' : World} {A : Option Addr} {cap : Nat} {J : Option Addr} {jc : Nat} {r : Rte} {l : List JobD} {g : Nat} (h : WayIn w A cap J jc r l) (ho : Only (· = g) w w') (hoff : OffW g A J r l) : WayIn w' A cap J jc r l :=
  ⟨⟨rowAt_only h.map.row ho (fun a ha => (hoff.1 a ha).imp (fun e => by rw [e]; rfl) (fun e => e)), h.map.ncap, h.map.cmax, h.map.sz, h.map.key⟩, h.name, h.spans, rowAt_only h.jobs ho (fun a ha => (hoff.2 a ha).imp (fun e => by rw [e]; rfl) (fun e => e)), h.jn, h.jm, h.jb⟩
theorem rep_at {w : World} {B : Nat} {A : Option Addr} {ds : List RepD} (h : RowAt w B 16 A (ds.map RepD.cells)) (k : Nat) (hk : k < ds.length) : ∃ b off, A = some ⟨b, off, none⟩ ∧ b < B ∧ w.rangeAt b (off + k * 16) ds[k].cells := by
  obtain ⟨b, off, hA, hb, hc⟩ := h k (RepD.cells ds[k]) (by simp [hk])
  exact ⟨b, off, hA, hb, fun j u hu => hc j u hu⟩
theorem range_below {B : Nat} {w w' : World} (hb : Below B w w') {b o : Nat} (hlt : b < B) {cs : List Value} (h : w.rangeAt b o cs) : w'.rangeAt b o cs := fun j u hu => (hb.cell (p := ⟨b, o + j, none⟩) hlt).trans (h j u hu)
theorem yields59at {ops : Array Oper} {S : World → Prop} {op : Oper} {a : Act} (hw : Region.wanted op (yielded ops a.tmps) = true) (x : Operand) (ho : op.op = .load 59 x) (b o : Nat) (hx : a.eval x = .pointer (some ⟨b, o, none⟩)) {p : Rep} {j v : Value} (hS : ∀ w, S w → w.rangeAt b o (p.cells j v)) : YieldsIf Try.prog ops S op (p.val j v) a :=
  yieldsIf_load_mid hw 59 x ho b o hx _ _ hS Try.underlying59 rfl info59
theorem step_store39 {ops : Array Oper} {o : Oper} {a : Act} {w : World} {K : Act → World → Prop} {Q : Exit → Act → World → Prop} {E : Prop} (hw : Region.wanted o (yielded ops a.tmps) = true) (x y : Operand) (ho : o.op = .store 39 x y) (g : Nat) (hx : a.eval x = .pointer (some ⟨g, 0, none⟩))
    {r r0 : Rte} {v j v0 j0 : Value} (hy : a.eval y = r.val v j) (hv : v.oneCell' = true) (hj : j.oneCell' = true) (h : w.heap[g]? = some (r0.blk v0 j0))
    (hK : ∀ w', w'.heap[g]? = some (r.blk v j) → Only (· = g) w w' → K (a.put o.dst undef) w') : if Region.wanted o (yielded ops a.tmps) = true then Oper.wp Try.prog o a w K Q else E := by
  rw [if_pos hw]
  exact wp_store_row 39 x y ho g _ hx hy 39 _ h info39 rfl (rte_one hv hj) (hK _ (setRow_heap w g _ _ 39 (0, 0) h) (only_setRow w g _))
theorem step_load39 {ops : Array Oper} {o : Oper} {a : Act} {w : World} {K : Act → World → Prop} {Q : Exit → Act → World → Prop} {E : Prop} (hw : Region.wanted o (yielded ops a.tmps) = true) (x : Operand) (ho : o.op = .load 39 x) (g : Nat) (hx : a.eval x = .pointer (some ⟨g, 0, none⟩))
    {r : Rte} {v j : Value} (h : w.heap[g]? = some (r.blk v j)) (hK : K (a.put o.dst (r.val v j)) w) : if Region.wanted o (yielded ops a.tmps) = true then Oper.wp Try.prog o a w K Q else E := by
  rw [if_pos hw]
  exact wp_load_mid 39 x ho g 0 hx _ _ (rte_range h) Try.underlying39 rfl info39 hK
def zeroRep : Rep := ⟨0, 0, 0, 0, zeroA⟩
theorem zeroRep_in (w : World) : RepIn w none 0 none 0 zeroRep [] := ⟨zeroA_in w none 0 (by decide), by decide, rowAt_nil _ _ _ _, Nat.le_refl _, by decide, by decide⟩
end Go.Proofs.Ytimondpollbdfaa
namespace Go.Proofs.Ytimondpollbdfaa
open Go.RowKit
attribute [local go_sem] Span.val Atl.val Plan.val Rte.val Rep.val tup4 cell_over frozen_over

set_option maxRecDepth 100000 in
set_option maxHeartbeats 4000000 in
theorem rends_wrong (w : World) (A : Option Addr) (cap : Nat) (J : Option Addr) (jc : Nat) (r : Rte) (l : List JobD) (D : Option Addr) (dc : Nat) (ds : List RepD) (hr : WayIn w A cap J jc r l) (hrow : RowAt w w.heap.size 16 D (ds.map RepD.cells)) (hD : ∀ d ∈ ds, RepIn w d.K d.kc d.B d.bc d.p d.pl) (hlen : ds.length ≤ 9223372036854775807) (hv : tr (RteOk r) = false) :
    Calls Try.prog 7 #[r.val (.slice A r.map.sp.length cap) (.slice J l.length jc), .slice D ds.length dc] w fun e w' => e = .returned (.bool true) ∧ Below w.heap.size w w' := by
  have h33 := fun w hr hp => heard33 w A cap J jc r l none 0 none 0 zeroRep [] hr hp
  rw [heardR_wrong hv] at h33
  have H33 := Lib.hid h33
  clear h33
  have hck := fun w h => rteCheck_any w A cap (.slice J l.length jc) r h hr.name
  rw [hv] at hck
  have Hck := Lib.hid hck; have Hr := Lib.hid hr; have Hrow := Lib.hid hrow; have HD := Lib.hid hD
  clear hck hr hrow hD
  go_enter Try.func7, Try.ntmps7
  go_upto_region 1 with fail
  have hX0 : (w.alloc (r.blk (.slice A r.map.sp.length cap) (.slice J l.length jc))).heap[w.heap.size]? = some (r.blk (.slice A r.map.sp.length cap) (.slice J l.length jc)) := heap_alloc_new w _
  change Code.wp _ _ _ _ (w.alloc (r.blk (.slice A r.map.sp.length cap) (.slice J l.length jc)))
  have hB0 : Below w.heap.size w (w.alloc (r.blk (.slice A r.map.sp.length cap) (.slice J l.length jc))) := al _
  generalize (w.alloc (r.blk (.slice A r.map.sp.length cap) (.slice J l.length jc))) = w0 at *
  have HX0 := Lib.hid hX0; have HB0 := Lib.hid hB0
  clear hX0 hB0
  go_upto_region 3 with (go_at_call 21
                         refine (awakeR _).mono ?_
                         rintro e w1 ⟨rfl, hb1⟩
                         have HX1 := Lib.hid (blk_below hb1 (lt_of_some HX0.out) HX0.out)
                         have HB1 := Lib.hid (HB0.out.trans (hb1.mono HB0.out.size))
                         clear hb1)
  refine wp_region_lit ?_
  refine wpList_load39 rfl (.tmp 2) rfl w.heap.size rfl HX1.out ?_
  simp only [Act.put, List.setIfInBounds_toArray, List.set_cons_zero, List.set_cons_succ]
  refine wpList_step (fun K hK => ?_)
  go_simp
  go_at_call 26
  refine (Hck.out _ (Hr.out.below HB1.out).map).mono ?_
  rintro e w2 ⟨rfl, hb2⟩
  refine hK _ _ ?_
  clear hK K
  have HX2 := Lib.hid (blk_below hb2 (lt_of_some HX1.out) HX1.out)
  have HB2 := Lib.hid (HB1.out.trans (hb2.mono HB1.out.size))
  clear hb2
  go_upto_region 4 with fail
  refine wp_region_noPanic ?_
  refine wp_region_held_drew (S := fun w' => w'.heap[w.heap.size]? = some (r.blk (.slice A r.map.sp.length cap) (.slice J l.length jc))) (by kernel_rfl) ?_ (fun hHeld => ?_)
  · exact HX2.out
  have hB3 : Below w.heap.size w w2.drew := HB2.out.drew
  generalize w2.drew = w3 at *
  have HB3 := Lib.hid hB3
  clear hB3 HX2 HB2
  refine wpAnyH_take (i := 0) (v := r.val (.slice A r.map.sp.length cap) (.slice J l.length jc)) rfl (by kernel_rfl) (by kernel_rfl) (by kernel_rfl) (fun _ _ _ h => h) (yields39 (by rfl) (.tmp 2) (by rfl) w.heap.size (by rfl) (fun w h => h)) hHeld ?_
  try simp only [Act.put, List.getElem_toArray, List.getElem_cons_zero, List.getElem_cons_succ, List.setIfInBounds_toArray, List.set_cons_zero, List.set_cons_succ]
  refine wpAnyH_take (i := 1) (v := zeroRep.val nilV nilV) rfl (by kernel_rfl) (by kernel_rfl) (by kernel_rfl) (fun _ _ _ h => h) (Or.inl ⟨by rfl, fun w hSw => by kernel_rfl⟩) hHeld ?_
  try simp only [Act.put, List.getElem_toArray, List.getElem_cons_zero, List.getElem_cons_succ, List.setIfInBounds_toArray, List.set_cons_zero, List.set_cons_succ]
  refine wpAnyH_take (i := 3) (v := r.val (.slice A r.map.sp.length cap) (.slice J l.length jc)) rfl (by kernel_rfl) (by kernel_rfl) (by kernel_rfl) (fun _ _ _ h => h) (yields39 (by rfl) (.tmp 2) (by rfl) w.heap.size (by rfl) (fun w h => h)) hHeld ?_
  try simp only [Act.put, List.getElem_toArray, List.getElem_cons_zero, List.getElem_cons_succ, List.setIfInBounds_toArray, List.set_cons_zero, List.set_cons_succ]
  refine wpAnyH_ready (rs := [2]) (by kernel_rfl) (by simp) ?_
  refine AllReadyH.cons rfl (fun K' hK => ?_) AllReadyH.nil
  go_simp
  go_at_call 33
  refine (H33.out _ (Hr.out.below HB3.out) (zeroRep_in _)).mono ?_
  rintro e w4 ⟨A4, c4, J4, j4, rfl, hI4, _, hb4⟩
  refine hK.out _ _ ?_ (fun hHeld4 => ?_)
  · exact blk_below hb4 (lt_of_some hHeld) hHeld
  have HI4 := Lib.hid hI4; have HB4 := Lib.hid (HB3.out.trans (hb4.mono HB3.out.size))
  clear hK K' hI4 hb4
  try simp only [Act.put, List.getElem_toArray, List.getElem_cons_zero, List.getElem_cons_succ, List.setIfInBounds_toArray, List.set_cons_zero, List.set_cons_succ]
  refine wpAnyH_ready (rs := [4]) (by kernel_rfl) (by simp) ?_
  refine AllReadyH.cons rfl (fun K' hK => ?_) AllReadyH.nil
  go_simp
  go_at_call 28
  refine (rteSame_true w4 A4 A J4 J c4 cap j4 jc r l HI4.out.map (Hr.out.below HB4.out).map (by have := HI4.out.jb; omega) HI4.out.jobs (Hr.out.below HB4.out).jobs).mono ?_
  rintro e w5 ⟨rfl, hb5⟩
  refine hK.out _ _ ?_ (fun hHeld5 => ?_)
  · exact blk_below hb5 (lt_of_some hHeld4) hHeld4
  have HB5 := Lib.hid (HB4.out.trans (hb5.mono HB4.out.size))
  clear hK K' hb5
  try simp only [Act.put, List.getElem_toArray, List.getElem_cons_zero, List.getElem_cons_succ, List.setIfInBounds_toArray, List.set_cons_zero, List.set_cons_succ]
  refine wpAnyH_ready (rs := [5]) (by kernel_rfl) (by simp) ?_
  refine AllReadyH.cons rfl (fun K' hK => ?_) AllReadyH.nil
  go_simp
  refine hK.out _ _ ?_ (fun _ => ?_)
  · exact hHeld5
  clear hK K'
  try simp only [Act.put, List.getElem_toArray, List.getElem_cons_zero, List.getElem_cons_succ, List.setIfInBounds_toArray, List.set_cons_zero, List.set_cons_succ]
  refine wpAnyH_done (by kernel_rfl) ?_ _
  refine NoPanic.normal ?_
  go_wp2_with fail
  go_ret
  exact ⟨rfl, HB5.out⟩
set_option maxRecDepth 100000 in
set_option maxHeartbeats 32000000 in
theorem rends_right (w : World) (A : Option Addr) (cap : Nat) (J : Option Addr) (jc : Nat) (r : Rte) (l : List JobD) (D : Option Addr) (dc : Nat) (ds : List RepD) (hr : WayIn w A cap J jc r l) (hrow : RowAt w w.heap.size 16 D (ds.map RepD.cells)) (hD : ∀ d ∈ ds, RepIn w d.K d.kc d.B d.bc d.p d.pl) (hlen : ds.length ≤ 9223372036854775807) (hv : tr (RteOk r) = true) :
    Calls Try.prog 7 #[r.val (.slice A r.map.sp.length cap) (.slice J l.length jc), .slice D ds.length dc] w fun e w' => e = .returned (.bool true) ∧ Below w.heap.size w w' := by
  have hck := fun w h => rteCheck_any w A cap (.slice J l.length jc) r h hr.name
  rw [hv] at hck
  have Hck := Lib.hid hck; have Hr := Lib.hid hr; have Hrow := Lib.hid hrow; have HD := Lib.hid hD
  clear hck hr hrow hD
  go_enter Try.func7, Try.ntmps7
  go_upto_region 1 with fail
  have hX0 : (w.alloc (r.blk (.slice A r.map.sp.length cap) (.slice J l.length jc))).heap[w.heap.size]? = some (r.blk (.slice A r.map.sp.length cap) (.slice J l.length jc)) := heap_alloc_new w _
  change Code.wp _ _ _ _ (w.alloc (r.blk (.slice A r.map.sp.length cap) (.slice J l.length jc)))
  have hB0 : Below w.heap.size w (w.alloc (r.blk (.slice A r.map.sp.length cap) (.slice J l.length jc))) := al _
  generalize (w.alloc (r.blk (.slice A r.map.sp.length cap) (.slice J l.length jc))) = w0 at *
  have HX0 := Lib.hid hX0; have HB0 := Lib.hid hB0
  clear hX0 hB0
  go_upto_region 3 with (go_at_call 21
                         refine (awakeR _).mono ?_
                         rintro e w1 ⟨rfl, hb1⟩
                         have HX1 := Lib.hid (blk_below hb1 (lt_of_some HX0.out) HX0.out)
                         have HB1 := Lib.hid (HB0.out.trans (hb1.mono HB0.out.size))
                         clear hb1)
  refine wp_region_lit ?_
  refine wpList_load39 rfl (.tmp 2) rfl w.heap.size rfl HX1.out ?_
  simp only [Act.put, List.setIfInBounds_toArray, List.set_cons_zero, List.set_cons_succ]
  refine wpList_step (fun K hK => ?_)
  go_simp
  go_at_call 26
  refine (Hck.out _ (Hr.out.below HB1.out).map).mono ?_
  rintro e w2 ⟨rfl, hb2⟩
  refine hK _ _ ?_
  clear hK K
  have HX2 := Lib.hid (blk_below hb2 (lt_of_some HX1.out) HX1.out)
  have HB2 := Lib.hid (HB1.out.trans (hb2.mono HB1.out.size))
  clear hb2
  obtain ⟨⟨c0, c1', c13, c14, c15, c16, clt⟩, _⟩ := rte_cells HX2.out
  go_wp2_with fail
  clear c0 c1' c13 c14 c15 c16 clt
  have HS := Lib.hid (show ∃ (k : Nat) (R : Rte) (L : List JobD) (A1 : Option Addr) (c1 : Nat) (J1 : Option Addr) (j1 : Nat), k ≤ ds.length ∧ k ≤ 64 ∧ (Value.int .i64 0) = .int .i64 k ∧ RteOk R ∧ (R.done = true ∨ R.left = r.left - k) ∧ w2.heap[w.heap.size]? = some (R.blk (.slice A1 R.map.sp.length c1) (.slice J1 L.length j1)) ∧ WayIn w2 A1 c1 J1 j1 R L ∧ Below w.heap.size w w2 from ⟨0, r, l, A, cap, J, jc, Nat.zero_le _, Nat.zero_le _, rfl, of_tr hv, .inr (by simp), HX2.out, Hr.out.below HB2.out, HB2.out⟩)
  have Hl64 := Lib.hid (show r.left ≤ 64 from (of_tr hv).2.2.2.2.2.1)
  clear HX2 HB2 HX1 HB1 HX0 HB0
  go_loopw [6] (fun v wr => ∃ (k : Nat) (R : Rte) (L : List JobD) (A1 : Option Addr) (c1 : Nat) (J1 : Option Addr) (j1 : Nat), k ≤ ds.length ∧ k ≤ 64 ∧ v = .int .i64 k ∧ RteOk R ∧ (R.done = true ∨ R.left = r.left - k) ∧ wr.heap[w.heap.size]? = some (R.blk (.slice A1 R.map.sp.length c1) (.slice J1 L.length j1)) ∧ WayIn wr A1 c1 J1 j1 R L ∧ Below w.heap.size w wr) (fun v _ => ds.length - (intOf v).toNat)
  case atStart => exact HS.out
  case round =>
    clear HS Hck Hr
    obtain ⟨k, R, L, A1, c1, J1, j1, hk, hk64, rfl, hok, hleft, hX, hI, hB⟩ := hrel
    have Hok := Lib.hid hok; have Hleft := Lib.hid hleft; have HX := Lib.hid hX; have HI := Lib.hid hI; have HB := Lib.hid hB
    clear hok hleft hX hI hB
    have hgo : (k < ds.length ∧ k < 64) ∨ ¬ (k < ds.length ∧ k < 64) := Classical.em _
    rcases hgo with ⟨hlt, h64⟩ | hno
    rotate_left
    · obtain ⟨⟨x0, x1, x13, x14, x15, x16, xlt⟩, _⟩ := rte_cells HX.out
      clear x0 x1 x13 x14 x15
      have hx : R.done = true ∨ R.done = false ∧ (ds.length : Int) < r.left := by
        cases hd : R.done
        · right
          refine ⟨rfl, ?_⟩
          have h1 := Hok.out.2.2.2.2.1
          have h2 := Hok.out.2.2.2.2.2.2.1
          have h3 : R.left = r.left - k := by
            rcases Hleft.out with h | h
            · rw [hd] at h; cases h
            · exact h
          have h4 : ¬ R.left = 0 := fun h => by have := h2 h; rw [hd] at this; cases this
          have h5 := Hl64.out
          omega
        · exact .inl rfl
      have i1 : (k : Int) < (ds.length : Int) ∨ ¬ (k : Int) < (ds.length : Int) := Classical.em _
      rcases hx with hd | ⟨hd, hlen2⟩
      · rw [hd] at x16
        rcases i1 with i1 | i1
        · have i2 : ¬ (k : Int) < 64 := by omega
          go_wp2_with fail
          go_ret
          exact ⟨rfl, HB.out⟩
        · go_wp2_with fail
          go_ret
          exact ⟨rfl, HB.out⟩
      · rw [hd] at x16
        have hlen3 : decide ((ds.length : Int) < r.left) = true := decide_eq_true hlen2
        rcases i1 with i1 | i1
        · have i2 : ¬ (k : Int) < 64 := by omega
          go_wp2_with fail
          go_ret
          exact ⟨by simp [hlen2], HB.out⟩
        · go_wp2_with fail
          go_ret
          exact ⟨by simp [hlen2], HB.out⟩
    have k1 : (0 : Int) ≤ (k : Int) := by omega
    have k2 : (k : Int) < (ds.length : Int) := by omega
    have k3 : (k : Int) < 64 := by omega
    obtain ⟨b, off, rfl, hb, hrg⟩ := rep_at Hrow.out k hlt
    have hrep := HD.out ds[k] (List.getElem_mem hlt)
    obtain ⟨d, hd0⟩ : ∃ d, ds[k] = d := ⟨_, rfl⟩
    rw [hd0] at hrg hrep
    have Hrg := Lib.hid hrg; have Hrep := Lib.hid hrep
    clear hrg hrep hd0
    cases hd : R.done
    rotate_left
    · have h33 := fun w hr hp => heard33 w A1 c1 J1 j1 R L d.K d.kc d.B d.bc d.p d.pl hr hp
      rw [heardR_over (tr_true Hok.out) hd] at h33
      have H33 := Lib.hid h33
      have hw := fun w h => where_done w A1 c1 (.slice J1 L.length j1) R h HI.out.name (tr_true Hok.out) hd
      have Hw := Lib.hid hw; have Hd := Lib.hid hd
      clear h33 hw hd
      go_upto_region 9 with fail
      refine wp_region_lit ?_
      refine wpList_load39 rfl (.tmp 2) rfl w.heap.size rfl HX.out ?_
      simp only [Act.put, List.setIfInBounds_toArray, List.set_cons_zero, List.set_cons_succ]
      refine wpList_step (fun K hK => ?_)
      go_simp
      go_at_call 22
      refine (Hw.out _ HI.out.map).mono ?_
      rintro e w3 ⟨rfl, hb3⟩
      refine hK _ _ ?_
      clear hK K
      have HX3 := Lib.hid (blk_below hb3 (lt_of_some HX.out) HX.out); have HI3 := Lib.hid (HI.out.below hb3)
      have HB3 := Lib.hid (HB.out.trans (hb3.mono HB.out.size))
      clear hb3
      obtain ⟨⟨x0, x1, x13, x14, x15, x16, xlt⟩, ⟨x2, x3, x4, x5, x6, x7, x8, x9, x10, x11, x12⟩, x17, x18, x19⟩ := rte_cells HX3.out
      rw [Hd.out] at x16
      go_upto_region 11 with fail
      clear x0 x1 x13 x14 x15 x16 xlt x2 x3 x4 x5 x6 x7 x8 x9 x10 x11 x12 x17 x18 x19
      refine wp_region_noPanic ?_
      refine wp_region_held_drew (S := fun w' => w'.heap[w.heap.size]? = some (R.blk (.slice A1 R.map.sp.length c1) (.slice J1 L.length j1)) ∧ w'.rangeAt b (off + k * 16) d.cells) (by kernel_rfl) ?_ (fun hHeld => ?_)
      · exact ⟨HX3.out, range_below (Below.drew HB3.out) hb Hrg.out⟩
      have hBn : Below w.heap.size w w3.drew := HB3.out.drew
      have hIn : WayIn w3.drew A1 c1 J1 j1 R L := HI3.out.below (Below.drew (Below.refl _ _))
      generalize w3.drew = wn at *
      have HBn := Lib.hid hBn; have HIn := Lib.hid hIn
      clear hBn hIn
      refine wpAnyH_take (i := 0) (v := .int .i64 0) rfl (by kernel_rfl) (by kernel_rfl) (by kernel_rfl) (fun _ _ _ h => h) (Or.inl ⟨by rfl, fun w hSw => by go_simp⟩) hHeld ?_
      try simp only [Act.put, List.getElem_toArray, List.getElem_cons_zero, List.getElem_cons_succ, List.setIfInBounds_toArray, List.set_cons_zero, List.set_cons_succ]
      refine wpAnyH_take (i := 1) (v := .bool true) rfl (by kernel_rfl) (by kernel_rfl) (by kernel_rfl) (fun _ _ _ h => h) (Or.inl ⟨by rfl, fun w hSw => by go_simp⟩) hHeld ?_
      try simp only [Act.put, List.getElem_toArray, List.getElem_cons_zero, List.getElem_cons_succ, List.setIfInBounds_toArray, List.set_cons_zero, List.set_cons_succ]
      refine wpAnyH_take (i := 2) (v := .bool true) rfl (by kernel_rfl) (by kernel_rfl) (by kernel_rfl) (fun _ _ _ h => h) (Or.inl ⟨by rfl, fun w hSw => by go_simp⟩) hHeld ?_
      try simp only [Act.put, List.getElem_toArray, List.getElem_cons_zero, List.getElem_cons_succ, List.setIfInBounds_toArray, List.set_cons_zero, List.set_cons_succ]
      refine wpAnyH_take (i := 3) (v := .int .i64 0) rfl (by kernel_rfl) (by kernel_rfl) (by kernel_rfl) (fun _ _ _ h => h) (Or.inl ⟨by rfl, fun w hSw => by go_simp⟩) hHeld ?_
      try simp only [Act.put, List.getElem_toArray, List.getElem_cons_zero, List.getElem_cons_succ, List.setIfInBounds_toArray, List.set_cons_zero, List.set_cons_succ]
      refine wpAnyH_take (i := 4) (v := .bool true) rfl (by kernel_rfl) (by kernel_rfl) (by kernel_rfl) (fun _ _ _ h => h) (Or.inl ⟨by rfl, fun w hSw => by go_simp⟩) hHeld ?_
      try simp only [Act.put, List.getElem_toArray, List.getElem_cons_zero, List.getElem_cons_succ, List.setIfInBounds_toArray, List.set_cons_zero, List.set_cons_succ]
      refine wpAnyH_take (i := 5) (v := .bool true) rfl (by kernel_rfl) (by kernel_rfl) (by kernel_rfl) (fun _ _ _ h => h) (Or.inl ⟨by rfl, fun w hSw => by go_simp⟩) hHeld ?_
      try simp only [Act.put, List.getElem_toArray, List.getElem_cons_zero, List.getElem_cons_succ, List.setIfInBounds_toArray, List.set_cons_zero, List.set_cons_succ]
      refine wpAnyH_take (i := 6) (v := .bool true) rfl (by kernel_rfl) (by kernel_rfl) (by kernel_rfl) (fun _ _ _ h => h) (Or.inl ⟨by rfl, fun w hSw => by go_simp⟩) hHeld ?_
      try simp only [Act.put, List.getElem_toArray, List.getElem_cons_zero, List.getElem_cons_succ, List.setIfInBounds_toArray, List.set_cons_zero, List.set_cons_succ]
      refine wpAnyH_take (i := 7) (v := R.val (.slice A1 R.map.sp.length c1) (.slice J1 L.length j1)) rfl (by kernel_rfl) (by kernel_rfl) (by kernel_rfl) (fun _ _ _ h => h) (yields39 (by rfl) (.tmp 2) (by rfl) w.heap.size (by rfl) (fun w h => h.1)) hHeld ?_
      try simp only [Act.put, List.getElem_toArray, List.getElem_cons_zero, List.getElem_cons_succ, List.setIfInBounds_toArray, List.set_cons_zero, List.set_cons_succ]
      refine wpAnyH_take (i := 8) (v := (.slice (some ⟨b, off, none⟩) ds.length dc)) rfl (by kernel_rfl) (by kernel_rfl) (by kernel_rfl) (fun _ _ _ h => h) (Or.inl ⟨by rfl, fun w hSw => by go_simp⟩) hHeld ?_
      try simp only [Act.put, List.getElem_toArray, List.getElem_cons_zero, List.getElem_cons_succ, List.setIfInBounds_toArray, List.set_cons_zero, List.set_cons_succ]
      refine wpAnyH_take (i := 9) (v := .int .i64 k) rfl (by kernel_rfl) (by kernel_rfl) (by kernel_rfl) (fun _ _ _ h => h) (Or.inl ⟨by rfl, fun w hSw => by go_simp⟩) hHeld ?_
      try simp only [Act.put, List.getElem_toArray, List.getElem_cons_zero, List.getElem_cons_succ, List.setIfInBounds_toArray, List.set_cons_zero, List.set_cons_succ]
      refine wpAnyH_take (i := 10) (v := (.pointer (some ⟨b, off + k * 16, none⟩))) rfl (by kernel_rfl) (by kernel_rfl) (by kernel_rfl) (fun _ _ _ h => h) (Or.inl ⟨by rfl, fun w hSw => by go_simp⟩) hHeld ?_
      try simp only [Act.put, List.getElem_toArray, List.getElem_cons_zero, List.getElem_cons_succ, List.setIfInBounds_toArray, List.set_cons_zero, List.set_cons_succ]
      refine wpAnyH_take (i := 11) (v := d.p.val d.jv d.mv) rfl (by kernel_rfl) (by kernel_rfl) (by kernel_rfl) (fun _ _ _ h => h) (yields59at (by rfl) (.tmp 55) (by rfl) b (off + k * 16) (by rfl) (fun w h => h.2)) hHeld ?_
      try simp only [Act.put, List.getElem_toArray, List.getElem_cons_zero, List.getElem_cons_succ, List.setIfInBounds_toArray, List.set_cons_zero, List.set_cons_succ]
      refine wpAnyH_take (i := 13) (v := R.val (.slice A1 R.map.sp.length c1) (.slice J1 L.length j1)) rfl (by kernel_rfl) (by kernel_rfl) (by kernel_rfl) (fun _ _ _ h => h) (yields39 (by rfl) (.tmp 2) (by rfl) w.heap.size (by rfl) (fun w h => h.1)) hHeld ?_
      try simp only [Act.put, List.getElem_toArray, List.getElem_cons_zero, List.getElem_cons_succ, List.setIfInBounds_toArray, List.set_cons_zero, List.set_cons_succ]
      refine wpAnyH_ready (rs := [12]) (by kernel_rfl) (by simp) ?_
      refine AllReadyH.cons rfl (fun K' hK => ?_) AllReadyH.nil
      go_simp
      go_at_call 33
      refine (H33.out _ HIn.out (Hrep.out.below HBn.out)).mono ?_
      rintro e w4 ⟨A4, c4, J4, j4, rfl, hI4, _, hb4⟩
      refine hK.out _ _ ?_ (fun hHeld4 => ?_)
      · exact ⟨blk_below hb4 (lt_of_some hHeld.1) hHeld.1, range_below hb4 (Nat.lt_of_lt_of_le hb HBn.out.size) hHeld.2⟩
      have HI4 := Lib.hid hI4; have HB4 := Lib.hid (HBn.out.trans (hb4.mono HBn.out.size)); have HJ4 := Lib.hid (HIn.out.below hb4)
      clear hK K' hI4 hb4
      try simp only [Act.put, List.getElem_toArray, List.getElem_cons_zero, List.getElem_cons_succ, List.setIfInBounds_toArray, List.set_cons_zero, List.set_cons_succ]
      refine wpAnyH_ready (rs := [14]) (by kernel_rfl) (by simp) ?_
      refine AllReadyH.cons rfl (fun K' hK => ?_) AllReadyH.nil
      go_simp
      go_at_call 28
      refine (rteSame_true w4 A4 A1 J4 J1 c4 c1 j4 j1 R L HI4.out.map HJ4.out.map (by have h : L.length * 96 ≤ 140737488355328 := HI.out.jb; omega) HI4.out.jobs HJ4.out.jobs).mono ?_
      rintro e w5 ⟨rfl, hb5⟩
      refine hK.out _ _ ?_ (fun hHeld5 => ?_)
      · exact ⟨blk_below hb5 (lt_of_some hHeld4.1) hHeld4.1, range_below hb5 (Nat.lt_of_lt_of_le hb HB4.out.size) hHeld4.2⟩
      have HB5 := Lib.hid (HB4.out.trans (hb5.mono HB4.out.size))
      clear hK K' hb5
      try simp only [Act.put, List.getElem_toArray, List.getElem_cons_zero, List.getElem_cons_succ, List.setIfInBounds_toArray, List.set_cons_zero, List.set_cons_succ]
      refine wpAnyH_ready (rs := [15]) (by kernel_rfl) (by simp) ?_
      refine AllReadyH.cons rfl (fun K' hK => ?_) AllReadyH.nil
      go_simp
      refine hK.out _ _ ?_ (fun _ => ?_)
      · exact hHeld5
      clear hK K'
      try simp only [Act.put, List.getElem_toArray, List.getElem_cons_zero, List.getElem_cons_succ, List.setIfInBounds_toArray, List.set_cons_zero, List.set_cons_succ]
      refine wpAnyH_ready (rs := [16]) (by kernel_rfl) (by simp) ?_
      refine AllReadyH.cons rfl (fun K' hK => ?_) AllReadyH.nil
      go_simp
      refine hK.out _ _ ?_ (fun _ => ?_)
      · exact hHeld5
      clear hK K'
      try simp only [Act.put, List.getElem_toArray, List.getElem_cons_zero, List.getElem_cons_succ, List.setIfInBounds_toArray, List.set_cons_zero, List.set_cons_succ]
      refine wpAnyH_done (by kernel_rfl) ?_ _
      refine NoPanic.normal ?_
      go_wp2_with fail
      go_ret
      exact ⟨rfl, HB5.out⟩
    obtain ⟨g, sh, ep, S, ok, hw, hf, hcase⟩ := asks Hok.out hd HI.out.name
    obtain ⟨hok2, hend⟩ := heard_right (l := L) (p := d.p) (pl := d.pl) Hok.out hd
    have h33 := fun w hr hp => heard33 w A1 c1 J1 j1 R L d.K d.kc d.B d.bc d.p d.pl hr hp
    obtain ⟨R2, hR2⟩ : ∃ x, (heardR R L d.p d.pl).1 = x := ⟨_, rfl⟩
    obtain ⟨L2, hL2⟩ : ∃ x, (heardR R L d.p d.pl).2 = x := ⟨_, rfl⟩
    rw [hR2, hL2] at h33 hend
    rw [hR2] at hok2
    have H33 := Lib.hid h33; have Hw := Lib.hid hw; have Hf := Lib.hid hf; have Hd := Lib.hid hd; have Hok2 := Lib.hid hok2; have Hend := Lib.hid hend; have Hcase := Lib.hid hcase
    have hnode := Hok.out.2.2.1; have hnode2 := Hok.out.2.2.2.1
    clear h33 hw hf hd hok2 hend hR2 hL2 hcase
    go_upto_region 9 with fail
    refine wp_region_lit ?_
    refine wpList_load39 rfl (.tmp 2) rfl w.heap.size rfl HX.out ?_
    simp only [Act.put, List.setIfInBounds_toArray, List.set_cons_zero, List.set_cons_succ]
    refine wpList_step (fun K hK => ?_)
    go_simp
    go_at_call 22
    refine (Hw.out _ A1 c1 (.slice J1 L.length j1) HI.out.map).mono ?_
    rintro e w3 ⟨rfl, hb3⟩
    refine hK _ _ ?_
    clear hK K
    have HX3 := Lib.hid (blk_below hb3 (lt_of_some HX.out) HX.out); have HI3 := Lib.hid (HI.out.below hb3)
    have HB3 := Lib.hid (HB.out.trans (hb3.mono HB.out.size))
    clear hb3
    obtain ⟨⟨x0, x1, x13, x14, x15, x16, xlt⟩, ⟨x2, x3, x4, x5, x6, x7, x8, x9, x10, x11, x12⟩, x17, x18, x19⟩ := rte_cells HX3.out
    rw [Hd.out] at x16
    go_upto_region 13 with (go_at_call 30
                            refine (Hf.out _ A1 c1 HI3.out.map).mono ?_
                            rintro e w4 ⟨rfl, hb4⟩
                            have HX4 := Lib.hid (blk_below hb4 (lt_of_some HX3.out) HX3.out); have HI4 := Lib.hid (HI3.out.below hb4)
                            have HB4 := Lib.hid (HB3.out.trans (hb4.mono HB3.out.size))
                            clear hb4 x0 x1 x13 x14 x15 x16 xlt x2 x3 x4 x5 x6 x7 x8 x9 x10 x11 x12 x17 x18 x19)
    have hs5 : (w4.alloc S.blk).heap[w4.heap.size]? = some S.blk := heap_alloc_new w4 _
    change Code.wp _ _ _ _ (w4.alloc S.blk)
    have hb5 : Below w4.heap.size w4 (w4.alloc S.blk) := al _
    generalize w4.alloc S.blk = w5 at *
    have HX5 := Lib.hid (blk_below hb5 (lt_of_some HX4.out) HX4.out); have HI5 := Lib.hid (HI4.out.below hb5)
    have HB5 := Lib.hid (HB4.out.trans (hb5.mono HB4.out.size)); have HS5 := Lib.hid hs5
    clear hb5 hs5
    go_cut [111] (fun v wx => v = .bool false ∧ wx = w5)
    case first =>
      obtain ⟨⟨x0, x1, x13, x14, x15, x16, xlt⟩, _⟩ := rte_cells HX5.out
      obtain ⟨s0, s1, s2, s3, s4, slt⟩ := span_blk HS5.out
      have n1 : ¬ R.node < 1 := by omega
      have n2 : decide (R.node < 1) = false := decide_eq_false n1
      have n3 : ¬ R.nodes < R.node := by omega
      have n4 : decide (R.nodes < R.node) = false := decide_eq_false n3
      rcases Hcase.out with ⟨hf1, hg1⟩ | ⟨hf1, hok1, hg1, hg2, hg3, hg4⟩
      · rw [hf1] at x13
        subst hg1
        clear hf1
        go_wp2_with fail
        go_meet
        exact ⟨rfl, rfl⟩
      · rw [hf1] at x13
        subst hok1
        have q1 : (S.gr == 0) = false := by have h0 : ¬ S.gr = 0 := by omega
                                            simpa using h0
        have q2 : (S.gr != 0) = true := by have h0 : ¬ S.gr = 0 := by omega
                                           simpa using h0
        subst hg1; subst hg2; subst hg3
        clear hf1 hg4
        go_wp2_with fail
        go_meet
        exact ⟨rfl, rfl⟩
    case rest =>
      obtain ⟨rfl, hw5⟩ := hcut
      obtain rfl : w5 = _ := hw5.symm
      have hleft1 : R.left = r.left - k := by
        rcases Hleft.out with h | h
        · rw [Hd.out] at h; cases h
        · exact h
      have Hleft1 := Lib.hid hleft1
      clear hleft1
      go_upto_region 15 with fail
      refine wp_region_lit ?_
      refine wpList_load39 rfl (.tmp 2) rfl w.heap.size rfl HX5.out ?_
      simp only [Act.put, List.setIfInBounds_toArray, List.set_cons_zero, List.set_cons_succ]
      refine wpList_step (fun K hK => ?_)
      go_simp
      refine hK _ _ ?_
      clear hK K
      refine wpList_store39 rfl (.tmp 13) (.tmp 112) rfl w5.heap.size rfl (r := R) (v := .slice A1 R.map.sp.length c1) (j := .slice J1 L.length j1) (r0 := zeroR) (v0 := nilV) (j0 := nilV) rfl rfl rfl (heap_alloc_new w5 _) ?_
      intro w6 hY6 ho6
      simp only [Act.put, List.setIfInBounds_toArray, List.set_cons_zero, List.set_cons_succ]
      have hb6 : Below w5.heap.size w5 w6 := ho6.below (al _) (fun q hq => by omega) (by simp)
      have HX6 := Lib.hid (blk_below hb6 (lt_of_some HX5.out) HX5.out); have HI6 := Lib.hid (HI5.out.below hb6)
      have HB6 := Lib.hid (HB5.out.trans (hb6.mono HB5.out.size)); have HY6 := Lib.hid hY6
      have Hgy := Lib.hid (show ¬ w5.heap.size = w.heap.size from by have := lt_of_some HX5.out; omega)
      clear hb6 hY6 ho6
      go_upto_region 16 with fail
      refine wp_region_noPanic ?_
      refine wp_region_held_drew (S := fun w' => w'.rangeAt b (off + k * 16) d.cells) (by kernel_rfl) ?_ (fun hHeld => ?_)
      · exact range_below (Below.drew HB6.out) hb Hrg.out
      have hBn : Below w.heap.size w w6.drew := HB6.out.drew
      have hIn : WayIn w6.drew A1 c1 J1 j1 R L := HI6.out.below (Below.drew (Below.refl _ _))
      have hXn : w6.drew.heap[w.heap.size]? = some (R.blk (.slice A1 R.map.sp.length c1) (.slice J1 L.length j1)) := HX6.out
      have hYn : w6.drew.heap[w5.heap.size]? = some (R.blk (.slice A1 R.map.sp.length c1) (.slice J1 L.length j1)) := HY6.out
      generalize w6.drew = wn at *
      have HBn := Lib.hid hBn; have HIn := Lib.hid hIn; have HXn := Lib.hid hXn; have HYn := Lib.hid hYn
      clear hBn hIn hXn hYn
      refine wpAnyH_take (i := 1) (v := (.slice (some ⟨b, off, none⟩) ds.length dc)) rfl (by kernel_rfl) (by kernel_rfl) (by kernel_rfl) (fun _ _ _ h => h) (Or.inl ⟨by rfl, fun w hSw => by go_simp⟩) hHeld ?_
      try simp only [Act.put, List.getElem_toArray, List.getElem_cons_zero, List.getElem_cons_succ, List.setIfInBounds_toArray, List.set_cons_zero, List.set_cons_succ]
      refine wpAnyH_take (i := 2) (v := .int .i64 k) rfl (by kernel_rfl) (by kernel_rfl) (by kernel_rfl) (fun _ _ _ h => h) (Or.inl ⟨by rfl, fun w hSw => by go_simp⟩) hHeld ?_
      try simp only [Act.put, List.getElem_toArray, List.getElem_cons_zero, List.getElem_cons_succ, List.setIfInBounds_toArray, List.set_cons_zero, List.set_cons_succ]
      refine wpAnyH_take (i := 3) (v := (.pointer (some ⟨b, off + k * 16, none⟩))) rfl (by kernel_rfl) (by kernel_rfl) (by kernel_rfl) (fun _ _ _ h => h) (Or.inl ⟨by rfl, fun w hSw => by go_simp⟩) hHeld ?_
      try simp only [Act.put, List.getElem_toArray, List.getElem_cons_zero, List.getElem_cons_succ, List.setIfInBounds_toArray, List.set_cons_zero, List.set_cons_succ]
      refine wpAnyH_take (i := 4) (v := d.p.val d.jv d.mv) rfl (by kernel_rfl) (by kernel_rfl) (by kernel_rfl) (fun _ _ _ h => h) (yields59at (by rfl) (.tmp 116) (by rfl) b (off + k * 16) (by rfl) (fun w h => h)) hHeld ?_
      try simp only [Act.put, List.getElem_toArray, List.getElem_cons_zero, List.getElem_cons_succ, List.setIfInBounds_toArray, List.set_cons_zero, List.set_cons_succ]
      refine wpAnyH_ready (rs := [0]) (by kernel_rfl) (by simp) ?_
      refine AllReadyH.cons rfl (fun K' hK => ?_) AllReadyH.nil
      refine step_load39 (by rfl) (.tmp 2) (by rfl) w.heap.size (by rfl) HXn.out ?_
      refine hK.out _ _ ?_ (fun _ => ?_)
      · exact hHeld
      clear hK K'
      try simp only [Act.put, List.getElem_toArray, List.getElem_cons_zero, List.getElem_cons_succ, List.setIfInBounds_toArray, List.set_cons_zero, List.set_cons_succ]
      refine wpAnyH_ready (rs := [5]) (by kernel_rfl) (by simp) ?_
      refine AllReadyH.cons rfl (fun K' hK => ?_) AllReadyH.nil
      go_simp
      go_at_call 33
      refine (H33.out _ HIn.out (Hrep.out.below HBn.out)).mono ?_
      rintro e w7 ⟨A7, c7, J7, j7, rfl, hI7, hoff7, hb7⟩
      refine hK.out _ _ ?_ (fun hHeld7 => ?_)
      · exact range_below hb7 (Nat.lt_of_lt_of_le hb HBn.out.size) hHeld
      have HI7 := Lib.hid hI7; have HB7 := Lib.hid (HBn.out.trans (hb7.mono HBn.out.size)); have HO7 := Lib.hid (hoff7 w.heap.size (lt_of_some HXn.out))
      have HX7 := Lib.hid (blk_below hb7 (lt_of_some HXn.out) HXn.out); have HY7 := Lib.hid (blk_below hb7 (lt_of_some HYn.out) HYn.out)
      clear hK K' hI7 hb7 hoff7
      try simp only [Act.put, List.getElem_toArray, List.getElem_cons_zero, List.getElem_cons_succ, List.setIfInBounds_toArray, List.set_cons_zero, List.set_cons_succ]
      refine wpAnyH_ready (rs := [6]) (by kernel_rfl) (by simp) ?_
      refine AllReadyH.cons rfl (fun K' hK => ?_) AllReadyH.nil
      refine step_store39 (by rfl) (.tmp 2) (.tmp 118) (by rfl) w.heap.size (by rfl) (r := R2) (v := .slice A7 R2.map.sp.length c7) (j := .slice J7 L2.length j7) (by rfl) rfl rfl HX7.out ?_
      intro w8 hX8 ho8
      have hb8 : Below w.heap.size w w8 := ho8.below HB7.out (fun q hq => by have hq : q = w.heap.size := hq; omega) HB7.out.size
      refine hK.out _ _ ?_ (fun _ => ?_)
      · exact range_below hb8 hb Hrg.out
      have HX8 := Lib.hid hX8; have HB8 := Lib.hid hb8; have HI8 := Lib.hid (HI7.out.only ho8 HO7.out)
      have HY8 := Lib.hid ((ho8.block _ (lt_of_some HY7.out) Hgy.out).trans HY7.out)
      clear hK K' hX8 hb8 ho8
      try simp only [Act.put, List.getElem_toArray, List.getElem_cons_zero, List.getElem_cons_succ, List.setIfInBounds_toArray, List.set_cons_zero, List.set_cons_succ]
      refine wpAnyH_done (by kernel_rfl) ?_ _
      refine NoPanic.normal ?_
      have hck2 := rteCheck_any w8 A7 c7 (.slice J7 L2.length j7) R2 HI8.out.map HI8.out.name
      rw [tr_true Hok2.out] at hck2
      have Hck2 := Lib.hid hck2
      clear hck2
      go_upto_region 17 with fail
      refine wp_region_lit ?_
      refine wpList_load39 rfl (.tmp 2) rfl w.heap.size rfl HX8.out ?_
      simp only [Act.put, List.setIfInBounds_toArray, List.set_cons_zero, List.set_cons_succ]
      refine wpList_step (fun K hK => ?_)
      go_simp
      go_at_call 26
      refine Hck2.out.mono ?_
      rintro e w9 ⟨rfl, hb9⟩
      refine hK _ _ ?_
      clear hK K
      have HX9 := Lib.hid (blk_below hb9 (lt_of_some HX8.out) HX8.out); have HY9 := Lib.hid (blk_below hb9 (lt_of_some HY8.out) HY8.out); have HI9 := Lib.hid (HI8.out.below hb9)
      have HB9 := Lib.hid (HB8.out.trans (hb9.mono HB8.out.size))
      clear hb9
      obtain ⟨⟨x0, x1, x13, x14, x15, x16, xlt⟩, _, x17, x18, x19⟩ := rte_cells HX9.out
      obtain ⟨⟨y0, y1, y13, y14, y15, y16, ylt⟩, _⟩ := rte_cells HY9.out
      clear x0 x1 x13 x14 y0 y1 y13 y14 y16
      have hrg9 := range_below HB9.out hb Hrg.out
      have p0 : w9.cell? ⟨b, off + k * 16, none⟩ = some (.int .i64 d.p.kind) := hrg9 0 _ rfl
      have p2 : w9.cell? ⟨b, off + k * 16 + 2, none⟩ = some (.int .i64 d.p.err) := hrg9 2 _ rfl
      have p3 : w9.cell? ⟨b, off + k * 16 + 3, none⟩ = some (.int .i64 d.p.time) := hrg9 3 _ rfl
      have p4 : w9.cell? ⟨b, off + k * 16 + 4, none⟩ = some (.slice d.K d.pl.length d.kc) := hrg9 4 _ rfl
      have hbw : b < w9.heap.size := Nat.lt_of_lt_of_le hb HB9.out.size
      clear hrg9
      have hfin : ∀ (ww : World), Below w9.heap.size w9 ww → ww.heap[w.heap.size]? = some (R2.blk (.slice A7 R2.map.sp.length c7) (.slice J7 L2.length j7)) ∧ WayIn ww A7 c7 J7 j7 R2 L2 ∧ Below w.heap.size w ww := fun ww hbb => ⟨blk_below hbb (lt_of_some HX9.out) HX9.out, HI9.out.below hbb, HB9.out.trans (hbb.mono HB9.out.size)⟩
      have Hfin := Lib.hid hfin
      clear hfin
      rcases Hend.out with ⟨hd2, hl2⟩ | ⟨hd2, hl2, he2⟩ | ⟨hd2, hl2, hk2, he2, ht2, hj2⟩
      · rw [hd2] at x16
        have Hl2 := Lib.hid hl2
        rw [hl2] at x15
        have m1 : ¬ R.left < R.left - 1 := by omega
        have m2 : decide (R.left < R.left - 1) = false := decide_eq_false m1
        have hle := Hok.out.2.2.2.2.1; have hle2 := Hok.out.2.2.2.2.2.1
        have m3 : IntKind.i64.wrap (R.left - 1) = R.left - 1 := IntWalk.i64_in _ (by omega)
        clear hl2 hd2
        go_upto_region 19 with fail
        refine wp_region_over (by kernel_rfl) (by kernel_rfl) ?_
        repeat (go_big_quiet_step ((fail)))
        refine wpQuiet_nil ?_
        intro _ hw'
        obtain ⟨nx, hw''⟩ := hw'
        subst hw''
        have hbo := Hfin.out _ (below_over w9 nx)
        generalize over w9 nx = wx at *
        have Hbo := Lib.hid hbo
        clear hbo
        go_wp2_with fail
        go_roundw
        case rel => exact ⟨k + 1, R2, L2, A7, c7, J7, j7, by omega, by omega, by go_num, Hok2.out, .inr (by rw [Hl2.out, Hleft1.out]; omega), Hbo.out.1, Hbo.out.2.1, Hbo.out.2.2⟩
        case measure => simp [intOf]; omega
      · rw [hd2] at x16
        rw [he2] at x17
        have Hd2 := Lib.hid hd2
        have m1 : ¬ R.left < R2.left := by omega
        have m2 : decide (R.left < R2.left) = false := decide_eq_false m1
        clear hl2 hd2 he2
        go_upto_region 19 with fail
        refine wp_region_over (by kernel_rfl) (by kernel_rfl) ?_
        repeat (go_big_quiet_step ((fail)))
        refine wpQuiet_nil ?_
        intro _ hw'
        obtain ⟨nx, hw''⟩ := hw'
        subst hw''
        have hbo := Hfin.out _ (below_over w9 nx)
        generalize over w9 nx = wx at *
        have Hbo := Lib.hid hbo
        clear hbo
        go_wp2_with fail
        go_roundw
        case rel => exact ⟨k + 1, R2, L2, A7, c7, J7, j7, by omega, by omega, by go_num, Hok2.out, .inl Hd2.out, Hbo.out.1, Hbo.out.2.1, Hbo.out.2.2⟩
        case measure => simp [intOf]; omega
      · rw [hd2] at x16
        have Hd2 := Lib.hid hd2
        have m1 : ¬ R.left < R2.left := by omega
        have m2 : decide (R.left < R2.left) = false := decide_eq_false m1
        rw [hk2] at p0
        rw [he2] at x17
        rw [ht2] at x18
        rw [hj2] at x19
        have hj7 : RowAt w9 w9.heap.size 8 J7 (d.pl.map JobD.cells) := by have := HI9.out.jobs; rw [hj2] at this; exact this
        have hrp := Hrep.out.below HB9.out
        have hC := fun y => result_true (over w9 y) J7 d.K j7 d.kc d.p.err d.p.time d.pl (by have := hrp.jb; omega) ((hj7.below (below_over w9 y) (Nat.le_refl _)).more (below_over w9 y).size) ((hrp.jobs.below (below_over w9 y) (Nat.le_refl _)).more (below_over w9 y).size)
        have HC := Lib.hid hC
        clear hC hj7 hrp hl2 hd2 hk2 he2 ht2 hj2
        cases hE : (d.p.err == 181)
        · have hE2 : (d.p.err != 181) = true := by simp [bne, hE]
          go_upto_region 19 with fail
          refine wp_region_over (by kernel_rfl) (by kernel_rfl) ?_
          repeat (go_big_quiet_step ((go_at_call 35; exact calls_over (HC.out _))))
          refine wpQuiet_nil ?_
          intro _ hw'
          obtain ⟨nx, hw''⟩ := hw'
          subst hw''
          have hbo := Hfin.out _ (below_over w9 nx)
          generalize over w9 nx = wx at *
          have Hbo := Lib.hid hbo
          clear hbo
          go_wp2_with fail
          go_roundw
          case rel => exact ⟨k + 1, R2, L2, A7, c7, J7, j7, by omega, by omega, by go_num, Hok2.out, .inl Hd2.out, Hbo.out.1, Hbo.out.2.1, Hbo.out.2.2⟩
          case measure => simp [intOf]; omega
        · have hE2 : (d.p.err != 181) = false := by simp [bne, hE]
          go_upto_region 19 with fail
          refine wp_region_over (by kernel_rfl) (by kernel_rfl) ?_
          repeat (go_big_quiet_step ((fail)))
          refine wpQuiet_nil ?_
          intro _ hw'
          obtain ⟨nx, hw''⟩ := hw'
          subst hw''
          have hbo := Hfin.out _ (below_over w9 nx)
          generalize over w9 nx = wx at *
          have Hbo := Lib.hid hbo
          clear hbo
          go_wp2_with fail
          go_roundw
          case rel => exact ⟨k + 1, R2, L2, A7, c7, J7, j7, by omega, by omega, by go_num, Hok2.out, .inl Hd2.out, Hbo.out.1, Hbo.out.2.1, Hbo.out.2.2⟩
          case measure => simp [intOf]; omega
end Go.Proofs.Ytimondpollbdfaa
