/- What is proved: what any reply makes of a way: the document's turn and Heard, way by way. -/
import Derived.Test.YtimondpollbdfaaTurnR
set_option linter.unusedVariables false
set_option linter.unusedSimpArgs false
namespace Go.Proofs.Ytimondpollbdfaa
open Go.RowKit

/-- A way behind a reply that is no answer, its tries left aside. -/
noncomputable def turned (r : Rte) (p : Rep) : Rte :=
  if p.kind = 2 then (if r.fetch = true then { r with node := r.node % r.nodes + 1 } else { r with fetch := true, node := 1 })
  else if p.kind = 3 then (if r.fetch = true then (if tr (MapOk p.map) = true then { r with map := p.map, fetch := !named r.name, node := 1 } else { r with node := r.node % r.nodes + 1 }) else { r with node := r.node % r.nodes + 1 })
  else if p.kind = 1 then (if 1 ≤ p.hint ∧ p.hint ≤ r.nodes ∧ ¬ p.hint = r.node then { r with node := p.hint } else { r with node := r.node % r.nodes + 1 })
  else { r with node := r.node % r.nodes + 1 }
theorem turned_kept (r : Rte) (p : Rep) : (turned r p).left = r.left ∧ (turned r p).done = r.done ∧ (turned r p).nodes = r.nodes ∧ (turned r p).name = r.name ∧ (turned r p).err = r.err ∧ (turned r p).time = r.time := by
  unfold turned
  repeat' split
  all_goals exact ⟨rfl, rfl, rfl, rfl, rfl, rfl⟩
/-- The cases of a reply that is no answer. -/
inductive TWay (r : Rte) (p : Rep) : Prop
  | stale (h1 : p.kind = 2) (h2 : r.fetch = false) (h : turned r p = { r with fetch := true, node := 1 })
  | two (h1 : p.kind = 2) (h2 : r.fetch = true) (h : turned r p = { r with node := r.node % r.nodes + 1 })
  | three (h1 : p.kind = 3) (h2 : r.fetch = false) (h : turned r p = { r with node := r.node % r.nodes + 1 })
  | wrong (h1 : p.kind = 3) (h2 : r.fetch = true) (h3 : tr (MapOk p.map) = false) (h : turned r p = { r with node := r.node % r.nodes + 1 })
  | mapped (h1 : p.kind = 3) (h2 : r.fetch = true) (h3 : tr (MapOk p.map) = true) (h : turned r p = { r with map := p.map, fetch := !named r.name, node := 1 })
  | low (h1 : p.kind = 1) (h2 : p.hint < 1) (h : turned r p = { r with node := r.node % r.nodes + 1 })
  | high (h1 : p.kind = 1) (h2 : 1 ≤ p.hint) (h3 : r.nodes < p.hint) (h : turned r p = { r with node := r.node % r.nodes + 1 })
  | self (h1 : p.kind = 1) (h2 : p.hint = r.node) (h : turned r p = { r with node := r.node % r.nodes + 1 })
  | hint (h1 : p.kind = 1) (h2 : 1 ≤ p.hint) (h3 : p.hint ≤ r.nodes) (h4 : ¬ p.hint = r.node) (h : turned r p = { r with node := p.hint })
  | other (h1 : ¬ p.kind = 1) (h2 : ¬ p.kind = 2) (h3 : ¬ p.kind = 3) (h : turned r p = { r with node := r.node % r.nodes + 1 })
theorem tway (r : Rte) (p : Rep) : TWay r p := by
  by_cases k2 : p.kind = 2
  · cases hf : r.fetch
    · exact .stale k2 hf (by unfold turned; rw [if_pos k2, if_neg (by rw [hf]; decide)])
    · exact .two k2 hf (by unfold turned; rw [if_pos k2, if_pos hf])
  by_cases k3 : p.kind = 3
  · cases hf : r.fetch
    · exact .three k3 hf (by unfold turned; rw [if_neg k2, if_pos k3, if_neg (by rw [hf]; decide)])
    · cases hm : tr (MapOk p.map)
      · exact .wrong k3 hf hm (by unfold turned; rw [if_neg k2, if_pos k3, if_pos hf, if_neg (by rw [hm]; decide)])
      · exact .mapped k3 hf hm (by unfold turned; rw [if_neg k2, if_pos k3, if_pos hf, if_pos hm])
  by_cases k1 : p.kind = 1
  · by_cases h1 : 1 ≤ p.hint
    · by_cases h2 : p.hint ≤ r.nodes
      · by_cases h3 : p.hint = r.node
        · exact .self k1 h3 (by unfold turned; rw [if_neg k2, if_neg k3, if_pos k1, if_neg (by rintro ⟨_, _, h⟩; exact h h3)])
        · exact .hint k1 h1 h2 h3 (by unfold turned; rw [if_neg k2, if_neg k3, if_pos k1, if_pos ⟨h1, h2, h3⟩])
      · exact .high k1 h1 (by omega) (by unfold turned; rw [if_neg k2, if_neg k3, if_pos k1, if_neg (by rintro ⟨_, h, _⟩; exact h2 h)])
    · exact .low k1 (by omega) (by unfold turned; rw [if_neg k2, if_neg k3, if_pos k1, if_neg (by rintro ⟨h, _⟩; exact h1 h)])
  exact .other k1 k2 k3 (by unfold turned; rw [if_neg k2, if_neg k3, if_neg k1])
theorem turn_any (w : World) (A B : Option Addr) (cap bc : Nat) (r : Rte) (p : Rep) (J pj : Value) (hJ : J.oneCell' = true) (hv : RteOk r) (hn : r.name.size ≤ 9223372036854775807) (hB : MapIn w B bc p.map) :
    Calls Try.prog 59 #[r.val (.slice A r.map.sp.length cap) J, p.val pj (.slice B p.map.sp.length bc)] w fun e w' => ∃ A' cap', e = .returned ((turned r p).val (.slice A' (turned r p).map.sp.length cap') J) ∧ (A' = A ∧ cap' = cap ∧ (turned r p).map = r.map ∨ A' = B ∧ cap' = bc ∧ (turned r p).map = p.map) ∧ Below w.heap.size w w' := by
  have kp : ∀ {R : Rte} {e : Ending} {w' : World}, turned r p = R → R.map = r.map → e = .returned (R.val (.slice A r.map.sp.length cap) J) ∧ Below w.heap.size w w' → ∃ A' cap', e = .returned ((turned r p).val (.slice A' (turned r p).map.sp.length cap') J) ∧ (A' = A ∧ cap' = cap ∧ (turned r p).map = r.map ∨ A' = B ∧ cap' = bc ∧ (turned r p).map = p.map) ∧ Below w.heap.size w w' := by
    rintro R e w' hR hm ⟨h1, h2⟩
    rw [hR]
    exact ⟨A, cap, by rw [hm]; exact h1, .inl ⟨rfl, rfl, hm⟩, h2⟩
  have hx : r.node < r.nodes ∨ r.node = r.nodes := by have := hv.2.2.2.1; omega
  rcases tway r p with ⟨h1, h2, h⟩ | ⟨h1, h2, h⟩ | ⟨h1, h2, h⟩ | ⟨h1, h2, h3, h⟩ | ⟨h1, h2, h3, h⟩ | ⟨h1, h2, h⟩ | ⟨h1, h2, h3, h⟩ | ⟨h1, h2, h⟩ | ⟨h1, h2, h3, h4, h⟩ | ⟨h1, h2, h3, h⟩ <;> rcases hx with hx | hx
  · exact (turn_stale_n w r p _ J pj _ rfl hJ hv hx h1 h2).mono fun e w' hh => kp h rfl hh
  · exact (turn_stale_l w r p _ J pj _ rfl hJ hv hx h1 h2).mono fun e w' hh => kp h rfl hh
  · exact (turn_two_n w r p _ J pj _ rfl hJ hv hx h1 h2).mono fun e w' hh => kp h rfl hh
  · exact (turn_two_l w r p _ J pj _ rfl hJ hv hx h1 h2).mono fun e w' hh => kp h rfl hh
  · exact (turn_three_n w r p _ J pj _ rfl hJ hv hx h1 h2).mono fun e w' hh => kp h rfl hh
  · exact (turn_three_l w r p _ J pj _ rfl hJ hv hx h1 h2).mono fun e w' hh => kp h rfl hh
  · exact (turn_wrong_n w r p _ J pj rfl hJ hv hx h1 h2 hB h3).mono fun e w' hh => kp h rfl hh
  · exact (turn_wrong_l w r p _ J pj rfl hJ hv hx h1 h2 hB h3).mono fun e w' hh => kp h rfl hh
  · refine (turn_mapped_n w r p _ J pj rfl hJ hv hx h1 h2 hn hB h3).mono fun e w' hh => ?_
    rw [h]
    exact ⟨B, bc, hh.1, .inr ⟨rfl, rfl, rfl⟩, hh.2⟩
  · refine (turn_mapped_l w r p _ J pj rfl hJ hv hx h1 h2 hn hB h3).mono fun e w' hh => ?_
    rw [h]
    exact ⟨B, bc, hh.1, .inr ⟨rfl, rfl, rfl⟩, hh.2⟩
  · exact (turn_low_n w r p _ J pj _ rfl hJ hv hx h1 h2).mono fun e w' hh => kp h rfl hh
  · exact (turn_low_l w r p _ J pj _ rfl hJ hv hx h1 h2).mono fun e w' hh => kp h rfl hh
  · exact (turn_high_n w r p _ J pj _ rfl hJ hv hx h1 h2 h3).mono fun e w' hh => kp h rfl hh
  · exact (turn_high_l w r p _ J pj _ rfl hJ hv hx h1 h2 h3).mono fun e w' hh => kp h rfl hh
  · exact (turn_self_n w r p _ J pj _ rfl hJ hv hx h1 h2).mono fun e w' hh => kp h rfl hh
  · exact (turn_self_l w r p _ J pj _ rfl hJ hv hx h1 h2).mono fun e w' hh => kp h rfl hh
  · exact (turn_hint_n w r p _ J pj _ rfl hJ hv hx h1 h2 h3 h4).mono fun e w' hh => kp h rfl hh
  · exact (turn_hint_l w r p _ J pj _ rfl hJ hv hx h1 h2 h3 h4).mono fun e w' hh => kp h rfl hh
  · exact (turn_else_n w r p _ J pj _ rfl hJ hv hx h1 h2 h3).mono fun e w' hh => kp h rfl hh
  · exact (turn_else_l w r p _ J pj _ rfl hJ hv hx h1 h2 h3).mono fun e w' hh => kp h rfl hh
end Go.Proofs.Ytimondpollbdfaa
namespace Go.Proofs.Ytimondpollbdfaa
open Go.RowKit
attribute [local go_sem] Span.val Atl.val Plan.val Rte.val Rep.val

theorem info59 : (Try.prog.info? 59).map (·.size) = some 16 := by kernel_rfl
theorem rep_range {W : World} {g : Nat} {p : Rep} {j v : Value} (h : W.heap[g]? = some (p.blk j v)) : W.rangeAt g 0 [.int .i64 p.kind, .int .i64 p.hint, .int .i64 p.err, .int .i64 p.time, j, .int .i64 p.map.groups, .int .i64 p.map.last, v, .int .i64 p.map.plan.kind, .int .i64 p.map.plan.phase, .int .i64 p.map.plan.shard, .int .i64 p.map.plan.other, .int .i64 p.map.plan.group, .int .i64 p.map.plan.past, .int .i64 p.map.plan.epoch, .string p.map.plan.key] := fun i u hi => by
    rw [Nat.zero_add]
    simp only [World.cell?, h, Rep.blk]
    simpa using hi
theorem wpList_load59 {ops : Array Oper} {rest : List Oper} {op : Oper} {a : Act} {w : World} {Q : Exit → Act → World → Prop} (hgd : op.guard = none) (x : Operand) (ho : op.op = .load 59 x) (g : Nat) (hx : a.eval x = .pointer (some ⟨g, 0, none⟩))
    {p : Rep} {j v : Value} (h : w.heap[g]? = some (p.blk j v)) (hK : wpList Try.prog ops Q rest (a.put op.dst (p.val j v)) w) : wpList Try.prog ops Q (op :: rest) a w :=
  wpList_load_mid hgd 59 x ho g 0 hx _ _ (rep_range h) Try.underlying59 rfl info59 hK
set_option maxRecDepth 100000 in
set_option maxHeartbeats 1000000 in
theorem rheard_wrong (w : World) (A B : Option Addr) (cap bc : Nat) (r : Rte) (p : Rep) (J pj : Value) (hJ : J.oneCell' = true) (hpj : pj.oneCell' = true) (hn : r.name.size ≤ 9223372036854775807) (hA : MapIn w A cap r.map) (hB : MapIn w B bc p.map) (hv : tr (RteOk r) = false) :
    Calls Try.prog 34 #[r.val (.slice A r.map.sp.length cap) J, p.val pj (.slice B p.map.sp.length bc)] w fun e w' => e = .returned (r.val (.slice A r.map.sp.length cap) J) ∧ Below w.heap.size w w' := by
  have hC := fun w h => rRteCheck_any w A cap J r h hn
  rw [hv] at hC
  have HC := Lib.hid hC; have HI := Lib.hid hA; have HIB := Lib.hid hB
  clear hC hA hB
  go_enter Try.func34, Try.ntmps34
  go_upto_region 1 with fail
  have hX0 : (((w.alloc (r.blk (.slice A r.map.sp.length cap) J)).alloc (p.blk pj (.slice B p.map.sp.length bc))).alloc (zeroR.blk nilV nilV)).heap[w.heap.size]? = some (r.blk (.slice A r.map.sp.length cap) J) := (Below.heap_alloc _ _ _ (by simp; omega)).trans ((Below.heap_alloc _ _ _ (by simp)).trans (heap_alloc_new w _))
  have hR0 : (((w.alloc (r.blk (.slice A r.map.sp.length cap) J)).alloc (p.blk pj (.slice B p.map.sp.length bc))).alloc (zeroR.blk nilV nilV)).heap[w.heap.size + 1 + 1]? = some (zeroR.blk nilV nilV) := by simpa using heap_alloc_new ((w.alloc (r.blk (.slice A r.map.sp.length cap) J)).alloc (p.blk pj (.slice B p.map.sp.length bc))) (zeroR.blk nilV nilV)
  have hP0 : (((w.alloc (r.blk (.slice A r.map.sp.length cap) J)).alloc (p.blk pj (.slice B p.map.sp.length bc))).alloc (zeroR.blk nilV nilV)).heap[w.heap.size + 1]? = some (p.blk pj (.slice B p.map.sp.length bc)) := (Below.heap_alloc _ _ _ (by simp)).trans (heap_second _ _ _)
  have hB0 : Below w.heap.size w (((w.alloc (r.blk (.slice A r.map.sp.length cap) J)).alloc (p.blk pj (.slice B p.map.sp.length bc))).alloc (zeroR.blk nilV nilV)) := al3 _ _ _
  change Code.wp _ _ _ _ (((w.alloc (r.blk (.slice A r.map.sp.length cap) J)).alloc (p.blk pj (.slice B p.map.sp.length bc))).alloc (zeroR.blk nilV nilV))
  generalize (((w.alloc (r.blk (.slice A r.map.sp.length cap) J)).alloc (p.blk pj (.slice B p.map.sp.length bc))).alloc (zeroR.blk nilV nilV)) = w0 at *
  have HX0 := Lib.hid hX0; have HP0 := Lib.hid hP0; have HR0 := Lib.hid hR0; have HB0 := Lib.hid hB0
  clear hX0 hP0 hR0 hB0
  refine wp_region_lit ?_
  refine wpList_load39 rfl (.tmp 2) rfl w.heap.size rfl HX0.out ?_
  simp only [Act.put, List.setIfInBounds_toArray, List.set_cons_zero, List.set_cons_succ]
  refine wpList_step (fun K hK => ?_)
  go_simp
  go_at_call 27
  refine (HC.out _ (HI.out.below HB0.out)).mono ?_
  rintro e w1 ⟨rfl, hb1⟩
  refine hK _ _ ?_
  clear hK K
  have HX1 := Lib.hid (blk_below hb1 (lt_of_some HX0.out) HX0.out); have HP1 := Lib.hid (blk_below hb1 (lt_of_some HP0.out) HP0.out); have HR1 := Lib.hid (blk_below hb1 (lt_of_some HR0.out) HR0.out)
  have HB1 := Lib.hid (HB0.out.trans (hb1.mono HB0.out.size))
  clear hb1
  obtain ⟨⟨c0, c1, c13, c14, c15, c16, clt⟩, ⟨c2, c3, c4, c5, c6, c7, c8, c9, c10, c11, c12⟩, c17, c18, c19⟩ := rte_cells HX1.out
  obtain ⟨⟨q0, q1, q2, q3, q4, qlt⟩, q5, q6, q7, q8, q9, q10, q11, q12, q13, q14, q15⟩ := rep_cells HP1.out
  have f2 := fz_blk HX1.out 2; have f3 := fz_blk HX1.out 3; have f4 := fz_blk HX1.out 4; have f5 := fz_blk HX1.out 5; have f6 := fz_blk HX1.out 6; have f7 := fz_blk HX1.out 7; have f8 := fz_blk HX1.out 8; have f9 := fz_blk HX1.out 9; have f10 := fz_blk HX1.out 10; have f11 := fz_blk HX1.out 11; have f12 := fz_blk HX1.out 12
  have f13 := fz_blk HX1.out 13; have f14 := fz_blk HX1.out 14; have f15 := fz_blk HX1.out 15; have f16 := fz_blk HX1.out 16; have f17 := fz_blk HX1.out 17; have f18 := fz_blk HX1.out 18; have f19 := fz_blk HX1.out 19
  go_upto_region 2 with fail
  refine wp_region_lit ?_
  refine wpList_load39 rfl (.tmp 2) rfl w.heap.size rfl HX1.out ?_
  simp only [Act.put, List.setIfInBounds_toArray, List.set_cons_zero, List.set_cons_succ]
  refine wpList_store39 rfl (.tmp 4) (.tmp 13) rfl (w.heap.size + 1 + 1) rfl (r := r) (v := (.slice A r.map.sp.length cap)) (j := J) rfl rfl hJ HR1.out ?_
  intro w19 h19 ho19
  simp only [Act.put, List.setIfInBounds_toArray, List.set_cons_zero, List.set_cons_succ]
  go_wp2
  refine bodyPost_ret (results39_one rfl _ _ (w.heap.size + 1 + 1) rfl h19) rfl ?_
  exact ⟨rfl, ho19.below HB1.out (fun q hq => by omega) HB1.out.size⟩
set_option maxRecDepth 100000 in
set_option maxHeartbeats 1000000 in
theorem rheard_over (w : World) (A B : Option Addr) (cap bc : Nat) (r : Rte) (p : Rep) (J pj : Value) (hJ : J.oneCell' = true) (hpj : pj.oneCell' = true) (hn : r.name.size ≤ 9223372036854775807) (hA : MapIn w A cap r.map) (hB : MapIn w B bc p.map) (hv : RteOk r) (hd : r.done = true) :
    Calls Try.prog 34 #[r.val (.slice A r.map.sp.length cap) J, p.val pj (.slice B p.map.sp.length bc)] w fun e w' => e = .returned (r.val (.slice A r.map.sp.length cap) J) ∧ Below w.heap.size w w' := by
  have Hd := Lib.hid hd; clear hd
  have hC := fun w h => rRteCheck_any w A cap J r h hn
  rw [tr_true hv] at hC
  have HC := Lib.hid hC; have HI := Lib.hid hA; have HIB := Lib.hid hB
  clear hC hA hB
  go_enter Try.func34, Try.ntmps34
  go_upto_region 1 with fail
  have hX0 : (((w.alloc (r.blk (.slice A r.map.sp.length cap) J)).alloc (p.blk pj (.slice B p.map.sp.length bc))).alloc (zeroR.blk nilV nilV)).heap[w.heap.size]? = some (r.blk (.slice A r.map.sp.length cap) J) := (Below.heap_alloc _ _ _ (by simp; omega)).trans ((Below.heap_alloc _ _ _ (by simp)).trans (heap_alloc_new w _))
  have hR0 : (((w.alloc (r.blk (.slice A r.map.sp.length cap) J)).alloc (p.blk pj (.slice B p.map.sp.length bc))).alloc (zeroR.blk nilV nilV)).heap[w.heap.size + 1 + 1]? = some (zeroR.blk nilV nilV) := by simpa using heap_alloc_new ((w.alloc (r.blk (.slice A r.map.sp.length cap) J)).alloc (p.blk pj (.slice B p.map.sp.length bc))) (zeroR.blk nilV nilV)
  have hP0 : (((w.alloc (r.blk (.slice A r.map.sp.length cap) J)).alloc (p.blk pj (.slice B p.map.sp.length bc))).alloc (zeroR.blk nilV nilV)).heap[w.heap.size + 1]? = some (p.blk pj (.slice B p.map.sp.length bc)) := (Below.heap_alloc _ _ _ (by simp)).trans (heap_second _ _ _)
  have hB0 : Below w.heap.size w (((w.alloc (r.blk (.slice A r.map.sp.length cap) J)).alloc (p.blk pj (.slice B p.map.sp.length bc))).alloc (zeroR.blk nilV nilV)) := al3 _ _ _
  change Code.wp _ _ _ _ (((w.alloc (r.blk (.slice A r.map.sp.length cap) J)).alloc (p.blk pj (.slice B p.map.sp.length bc))).alloc (zeroR.blk nilV nilV))
  generalize (((w.alloc (r.blk (.slice A r.map.sp.length cap) J)).alloc (p.blk pj (.slice B p.map.sp.length bc))).alloc (zeroR.blk nilV nilV)) = w0 at *
  have HX0 := Lib.hid hX0; have HP0 := Lib.hid hP0; have HR0 := Lib.hid hR0; have HB0 := Lib.hid hB0
  clear hX0 hP0 hR0 hB0
  refine wp_region_lit ?_
  refine wpList_load39 rfl (.tmp 2) rfl w.heap.size rfl HX0.out ?_
  simp only [Act.put, List.setIfInBounds_toArray, List.set_cons_zero, List.set_cons_succ]
  refine wpList_step (fun K hK => ?_)
  go_simp
  go_at_call 27
  refine (HC.out _ (HI.out.below HB0.out)).mono ?_
  rintro e w1 ⟨rfl, hb1⟩
  refine hK _ _ ?_
  clear hK K
  have HX1 := Lib.hid (blk_below hb1 (lt_of_some HX0.out) HX0.out); have HP1 := Lib.hid (blk_below hb1 (lt_of_some HP0.out) HP0.out); have HR1 := Lib.hid (blk_below hb1 (lt_of_some HR0.out) HR0.out)
  have HB1 := Lib.hid (HB0.out.trans (hb1.mono HB0.out.size))
  clear hb1
  obtain ⟨⟨c0, c1, c13, c14, c15, c16, clt⟩, ⟨c2, c3, c4, c5, c6, c7, c8, c9, c10, c11, c12⟩, c17, c18, c19⟩ := rte_cells HX1.out
  obtain ⟨⟨q0, q1, q2, q3, q4, qlt⟩, q5, q6, q7, q8, q9, q10, q11, q12, q13, q14, q15⟩ := rep_cells HP1.out
  have f2 := fz_blk HX1.out 2; have f3 := fz_blk HX1.out 3; have f4 := fz_blk HX1.out 4; have f5 := fz_blk HX1.out 5; have f6 := fz_blk HX1.out 6; have f7 := fz_blk HX1.out 7; have f8 := fz_blk HX1.out 8; have f9 := fz_blk HX1.out 9; have f10 := fz_blk HX1.out 10; have f11 := fz_blk HX1.out 11; have f12 := fz_blk HX1.out 12
  have f13 := fz_blk HX1.out 13; have f14 := fz_blk HX1.out 14; have f15 := fz_blk HX1.out 15; have f16 := fz_blk HX1.out 16; have f17 := fz_blk HX1.out 17; have f18 := fz_blk HX1.out 18; have f19 := fz_blk HX1.out 19
  rw [Hd.out] at c16
  go_upto_region 2 with fail
  refine wp_region_lit ?_
  refine wpList_load39 rfl (.tmp 2) rfl w.heap.size rfl HX1.out ?_
  simp only [Act.put, List.setIfInBounds_toArray, List.set_cons_zero, List.set_cons_succ]
  refine wpList_store39 rfl (.tmp 4) (.tmp 13) rfl (w.heap.size + 1 + 1) rfl (r := r) (v := (.slice A r.map.sp.length cap)) (j := J) rfl rfl hJ HR1.out ?_
  intro w19 h19 ho19
  simp only [Act.put, List.setIfInBounds_toArray, List.set_cons_zero, List.set_cons_succ]
  go_wp2
  refine bodyPost_ret (results39_one rfl _ _ (w.heap.size + 1 + 1) rfl h19) rfl ?_
  exact ⟨rfl, ho19.below HB1.out (fun q hq => by omega) HB1.out.size⟩
set_option maxRecDepth 100000 in
set_option maxHeartbeats 1000000 in
theorem rheard_answer (w : World) (A B : Option Addr) (cap bc : Nat) (r : Rte) (p : Rep) (J : Value) (PJ : Option Addr) (pn pc : Nat) (hJ : J.oneCell' = true) (hn : r.name.size ≤ 9223372036854775807) (hA : MapIn w A cap r.map) (hB : MapIn w B bc p.map) (hv : RteOk r) (hd : r.done = false) (k1 : p.kind = 2) (k2 : r.fetch = false) (hs171 : ¬ p.err = 171) (hs172 : ¬ p.err = 172) (hs173 : ¬ p.err = 173) :
    Calls Try.prog 34 #[r.val (.slice A r.map.sp.length cap) J, p.val (.slice PJ pn pc) (.slice B p.map.sp.length bc)] w fun e w' => e = .returned ({ r with done := true, err := p.err, time := p.time }.val (.slice A r.map.sp.length cap) (.slice PJ pn pc)) ∧ Below w.heap.size w w' := by
  have K1 := Lib.hid k1; have K2 := Lib.hid k2; have Hd := Lib.hid hd; clear k1 k2 hd
  have s171 : (p.err == 171) = false := by simpa using hs171
  have t171 : (p.err != 171) = true := by simpa using hs171
  have s172 : (p.err == 172) = false := by simpa using hs172
  have t172 : (p.err != 172) = true := by simpa using hs172
  have s173 : (p.err == 173) = false := by simpa using hs173
  have t173 : (p.err != 173) = true := by simpa using hs173
  clear hs171 hs172 hs173
  have hC := fun w h => rRteCheck_any w A cap J r h hn
  rw [tr_true hv] at hC
  have HC := Lib.hid hC; have HI := Lib.hid hA; have HIB := Lib.hid hB
  clear hC hA hB
  go_enter Try.func34, Try.ntmps34
  go_upto_region 1 with fail
  have hX0 : (((w.alloc (r.blk (.slice A r.map.sp.length cap) J)).alloc (p.blk (.slice PJ pn pc) (.slice B p.map.sp.length bc))).alloc (zeroR.blk nilV nilV)).heap[w.heap.size]? = some (r.blk (.slice A r.map.sp.length cap) J) := (Below.heap_alloc _ _ _ (by simp; omega)).trans ((Below.heap_alloc _ _ _ (by simp)).trans (heap_alloc_new w _))
  have hR0 : (((w.alloc (r.blk (.slice A r.map.sp.length cap) J)).alloc (p.blk (.slice PJ pn pc) (.slice B p.map.sp.length bc))).alloc (zeroR.blk nilV nilV)).heap[w.heap.size + 1 + 1]? = some (zeroR.blk nilV nilV) := by simpa using heap_alloc_new ((w.alloc (r.blk (.slice A r.map.sp.length cap) J)).alloc (p.blk (.slice PJ pn pc) (.slice B p.map.sp.length bc))) (zeroR.blk nilV nilV)
  have hP0 : (((w.alloc (r.blk (.slice A r.map.sp.length cap) J)).alloc (p.blk (.slice PJ pn pc) (.slice B p.map.sp.length bc))).alloc (zeroR.blk nilV nilV)).heap[w.heap.size + 1]? = some (p.blk (.slice PJ pn pc) (.slice B p.map.sp.length bc)) := (Below.heap_alloc _ _ _ (by simp)).trans (heap_second _ _ _)
  have hB0 : Below w.heap.size w (((w.alloc (r.blk (.slice A r.map.sp.length cap) J)).alloc (p.blk (.slice PJ pn pc) (.slice B p.map.sp.length bc))).alloc (zeroR.blk nilV nilV)) := al3 _ _ _
  change Code.wp _ _ _ _ (((w.alloc (r.blk (.slice A r.map.sp.length cap) J)).alloc (p.blk (.slice PJ pn pc) (.slice B p.map.sp.length bc))).alloc (zeroR.blk nilV nilV))
  generalize (((w.alloc (r.blk (.slice A r.map.sp.length cap) J)).alloc (p.blk (.slice PJ pn pc) (.slice B p.map.sp.length bc))).alloc (zeroR.blk nilV nilV)) = w0 at *
  have HX0 := Lib.hid hX0; have HP0 := Lib.hid hP0; have HR0 := Lib.hid hR0; have HB0 := Lib.hid hB0
  clear hX0 hP0 hR0 hB0
  refine wp_region_lit ?_
  refine wpList_load39 rfl (.tmp 2) rfl w.heap.size rfl HX0.out ?_
  simp only [Act.put, List.setIfInBounds_toArray, List.set_cons_zero, List.set_cons_succ]
  refine wpList_step (fun K hK => ?_)
  go_simp
  go_at_call 27
  refine (HC.out _ (HI.out.below HB0.out)).mono ?_
  rintro e w1 ⟨rfl, hb1⟩
  refine hK _ _ ?_
  clear hK K
  have HX1 := Lib.hid (blk_below hb1 (lt_of_some HX0.out) HX0.out); have HP1 := Lib.hid (blk_below hb1 (lt_of_some HP0.out) HP0.out); have HR1 := Lib.hid (blk_below hb1 (lt_of_some HR0.out) HR0.out)
  have HB1 := Lib.hid (HB0.out.trans (hb1.mono HB0.out.size))
  clear hb1
  obtain ⟨⟨c0, c1, c13, c14, c15, c16, clt⟩, ⟨c2, c3, c4, c5, c6, c7, c8, c9, c10, c11, c12⟩, c17, c18, c19⟩ := rte_cells HX1.out
  obtain ⟨⟨q0, q1, q2, q3, q4, qlt⟩, q5, q6, q7, q8, q9, q10, q11, q12, q13, q14, q15⟩ := rep_cells HP1.out
  have f2 := fz_blk HX1.out 2; have f3 := fz_blk HX1.out 3; have f4 := fz_blk HX1.out 4; have f5 := fz_blk HX1.out 5; have f6 := fz_blk HX1.out 6; have f7 := fz_blk HX1.out 7; have f8 := fz_blk HX1.out 8; have f9 := fz_blk HX1.out 9; have f10 := fz_blk HX1.out 10; have f11 := fz_blk HX1.out 11; have f12 := fz_blk HX1.out 12
  have f13 := fz_blk HX1.out 13; have f14 := fz_blk HX1.out 14; have f15 := fz_blk HX1.out 15; have f16 := fz_blk HX1.out 16; have f17 := fz_blk HX1.out 17; have f18 := fz_blk HX1.out 18; have f19 := fz_blk HX1.out 19
  rw [Hd.out] at c16
  rw [K1.out] at q0
  rw [K2.out] at c13
  go_upto_region 5 with fail
  have HX2 := Lib.hid (rte_done HX1.out true)
  have hon : Only (· = w.heap.size) w1 (w1.setCell ⟨w.heap.size, 16, none⟩ (.bool true)) := only_setCell w1 ⟨w.heap.size, 16, none⟩ (.bool true)
  have HP2 := Lib.hid ((hon.block _ (lt_of_some HP1.out) (by show ¬ w.heap.size + 1 = w.heap.size; omega)).trans HP1.out)
  have HR2 := Lib.hid ((hon.block _ (lt_of_some HR1.out) (by show ¬ w.heap.size + 1 + 1 = w.heap.size; omega)).trans HR1.out)
  have HB2 := Lib.hid (hon.below HB1.out (fun q hq => by have hq : q = w.heap.size := hq; omega) HB1.out.size)
  clear hon
  go_upto_region 6 with fail
  change Code.wp _ _ _ _ (w1.setCell ⟨w.heap.size, 16, none⟩ (.bool true))
  generalize (w1.setCell ⟨w.heap.size, 16, none⟩ (.bool true)) = w2 at *
  clear c0 c1 c13 c14 c15 c16 clt c2 c3 c4 c5 c6 c7 c8 c9 c10 c11 c12 c17 c18 c19 q0 q1 q2 q3 q4 qlt q5 q6 q7 q8 q9 q10 q11 q12 q13 q14 q15 f2 f3 f4 f5 f6 f7 f8 f9 f10 f11 f12 f13 f14 f15 f16 f17 f18 f19
  obtain ⟨⟨c0, c1, c13, c14, c15, c16, clt⟩, ⟨c2, c3, c4, c5, c6, c7, c8, c9, c10, c11, c12⟩, c17, c18, c19⟩ := rte_cells HX2.out
  obtain ⟨⟨q0, q1, q2, q3, q4, qlt⟩, q5, q6, q7, q8, q9, q10, q11, q12, q13, q14, q15⟩ := rep_cells HP2.out
  have f2 := fz_blk HX2.out 2; have f3 := fz_blk HX2.out 3; have f4 := fz_blk HX2.out 4; have f5 := fz_blk HX2.out 5; have f6 := fz_blk HX2.out 6; have f7 := fz_blk HX2.out 7; have f8 := fz_blk HX2.out 8; have f9 := fz_blk HX2.out 9; have f10 := fz_blk HX2.out 10; have f11 := fz_blk HX2.out 11; have f12 := fz_blk HX2.out 12
  have f13 := fz_blk HX2.out 13; have f14 := fz_blk HX2.out 14; have f15 := fz_blk HX2.out 15; have f16 := fz_blk HX2.out 16; have f17 := fz_blk HX2.out 17; have f18 := fz_blk HX2.out 18; have f19 := fz_blk HX2.out 19
  have HX3 := Lib.hid (rte_res HX2.out p.err p.time (.slice PJ pn pc))
  have hon : Only (· = w.heap.size) w2 (((w2.setCell ⟨w.heap.size, 17, none⟩ (.int .i64 p.err)).setCell ⟨w.heap.size, 18, none⟩ (.int .i64 p.time)).setCell ⟨w.heap.size, 19, none⟩ (.slice PJ pn pc)) := res_only3 w2 w.heap.size _ _ _
  have HP3 := Lib.hid ((hon.block _ (lt_of_some HP2.out) (by show ¬ w.heap.size + 1 = w.heap.size; omega)).trans HP2.out)
  have HR3 := Lib.hid ((hon.block _ (lt_of_some HR2.out) (by show ¬ w.heap.size + 1 + 1 = w.heap.size; omega)).trans HR2.out)
  have HB3 := Lib.hid (hon.below HB2.out (fun q hq => by have hq : q = w.heap.size := hq; omega) HB2.out.size)
  clear hon
  go_upto_region 7 with fail
  change Code.wp _ _ _ _ (((w2.setCell ⟨w.heap.size, 17, none⟩ (.int .i64 p.err)).setCell ⟨w.heap.size, 18, none⟩ (.int .i64 p.time)).setCell ⟨w.heap.size, 19, none⟩ (.slice PJ pn pc))
  generalize (((w2.setCell ⟨w.heap.size, 17, none⟩ (.int .i64 p.err)).setCell ⟨w.heap.size, 18, none⟩ (.int .i64 p.time)).setCell ⟨w.heap.size, 19, none⟩ (.slice PJ pn pc)) = w3 at *
  clear c0 c1 c13 c14 c15 c16 clt c2 c3 c4 c5 c6 c7 c8 c9 c10 c11 c12 c17 c18 c19 q0 q1 q2 q3 q4 qlt q5 q6 q7 q8 q9 q10 q11 q12 q13 q14 q15 f2 f3 f4 f5 f6 f7 f8 f9 f10 f11 f12 f13 f14 f15 f16 f17 f18 f19
  obtain ⟨⟨c0, c1, c13, c14, c15, c16, clt⟩, ⟨c2, c3, c4, c5, c6, c7, c8, c9, c10, c11, c12⟩, c17, c18, c19⟩ := rte_cells HX3.out
  obtain ⟨⟨q0, q1, q2, q3, q4, qlt⟩, q5, q6, q7, q8, q9, q10, q11, q12, q13, q14, q15⟩ := rep_cells HP3.out
  have f2 := fz_blk HX3.out 2; have f3 := fz_blk HX3.out 3; have f4 := fz_blk HX3.out 4; have f5 := fz_blk HX3.out 5; have f6 := fz_blk HX3.out 6; have f7 := fz_blk HX3.out 7; have f8 := fz_blk HX3.out 8; have f9 := fz_blk HX3.out 9; have f10 := fz_blk HX3.out 10; have f11 := fz_blk HX3.out 11; have f12 := fz_blk HX3.out 12
  have f13 := fz_blk HX3.out 13; have f14 := fz_blk HX3.out 14; have f15 := fz_blk HX3.out 15; have f16 := fz_blk HX3.out 16; have f17 := fz_blk HX3.out 17; have f18 := fz_blk HX3.out 18; have f19 := fz_blk HX3.out 19
  refine wp_region_lit ?_
  refine wpList_load39 rfl (.tmp 2) rfl w.heap.size rfl HX3.out ?_
  simp only [Act.put, List.setIfInBounds_toArray, List.set_cons_zero, List.set_cons_succ]
  refine wpList_store39 rfl (.tmp 4) (.tmp 41) rfl (w.heap.size + 1 + 1) rfl (r := { r with done := true, err := p.err, time := p.time }) (v := (.slice A r.map.sp.length cap)) (j := (.slice PJ pn pc)) rfl rfl rfl HR3.out ?_
  intro w19 h19 ho19
  simp only [Act.put, List.setIfInBounds_toArray, List.set_cons_zero, List.set_cons_succ]
  go_wp2
  refine bodyPost_ret (results39_one rfl _ _ (w.heap.size + 1 + 1) rfl h19) rfl ?_
  exact ⟨rfl, ho19.below HB3.out (fun q hq => by omega) HB3.out.size⟩
set_option maxRecDepth 100000 in
set_option maxHeartbeats 1000000 in
theorem rheard_a (w : World) (A B : Option Addr) (cap bc : Nat) (r : Rte) (p : Rep) (J pj : Value) (hJ : J.oneCell' = true) (hpj : pj.oneCell' = true) (hn : r.name.size ≤ 9223372036854775807) (hA : MapIn w A cap r.map) (hB : MapIn w B bc p.map) (hv : RteOk r) (hd : r.done = false) (k1 : ¬ p.kind = 2) (k5 : ¬ r.left = 1) :
    Calls Try.prog 34 #[r.val (.slice A r.map.sp.length cap) J, p.val pj (.slice B p.map.sp.length bc)] w fun e w' => (∃ A' cap', e = .returned ({ turned r p with left := r.left - 1 }.val (.slice A' (turned r p).map.sp.length cap') J) ∧ (A' = A ∧ cap' = cap ∧ (turned r p).map = r.map ∨ A' = B ∧ cap' = bc ∧ (turned r p).map = p.map)) ∧ Below w.heap.size w w' := by
  have Hd := Lib.hid hd; clear hd
  have hl0 : ¬ r.left = 0 := fun h => by have := hv.2.2.2.2.2.2.1 h; rw [Hd.out] at this; cases this
  have m1 : (p.kind == 2) = false := by simpa using k1
  clear k1
  have hC := fun w h => rRteCheck_any w A cap J r h hn
  rw [tr_true hv] at hC
  have HC := Lib.hid hC; have HI := Lib.hid hA; have HIB := Lib.hid hB
  clear hC hA hB
  go_enter Try.func34, Try.ntmps34
  go_upto_region 1 with fail
  have hX0 : (((w.alloc (r.blk (.slice A r.map.sp.length cap) J)).alloc (p.blk pj (.slice B p.map.sp.length bc))).alloc (zeroR.blk nilV nilV)).heap[w.heap.size]? = some (r.blk (.slice A r.map.sp.length cap) J) := (Below.heap_alloc _ _ _ (by simp; omega)).trans ((Below.heap_alloc _ _ _ (by simp)).trans (heap_alloc_new w _))
  have hR0 : (((w.alloc (r.blk (.slice A r.map.sp.length cap) J)).alloc (p.blk pj (.slice B p.map.sp.length bc))).alloc (zeroR.blk nilV nilV)).heap[w.heap.size + 1 + 1]? = some (zeroR.blk nilV nilV) := by simpa using heap_alloc_new ((w.alloc (r.blk (.slice A r.map.sp.length cap) J)).alloc (p.blk pj (.slice B p.map.sp.length bc))) (zeroR.blk nilV nilV)
  have hP0 : (((w.alloc (r.blk (.slice A r.map.sp.length cap) J)).alloc (p.blk pj (.slice B p.map.sp.length bc))).alloc (zeroR.blk nilV nilV)).heap[w.heap.size + 1]? = some (p.blk pj (.slice B p.map.sp.length bc)) := (Below.heap_alloc _ _ _ (by simp)).trans (heap_second _ _ _)
  have hB0 : Below w.heap.size w (((w.alloc (r.blk (.slice A r.map.sp.length cap) J)).alloc (p.blk pj (.slice B p.map.sp.length bc))).alloc (zeroR.blk nilV nilV)) := al3 _ _ _
  change Code.wp _ _ _ _ (((w.alloc (r.blk (.slice A r.map.sp.length cap) J)).alloc (p.blk pj (.slice B p.map.sp.length bc))).alloc (zeroR.blk nilV nilV))
  generalize (((w.alloc (r.blk (.slice A r.map.sp.length cap) J)).alloc (p.blk pj (.slice B p.map.sp.length bc))).alloc (zeroR.blk nilV nilV)) = w0 at *
  have HX0 := Lib.hid hX0; have HP0 := Lib.hid hP0; have HR0 := Lib.hid hR0; have HB0 := Lib.hid hB0
  clear hX0 hP0 hR0 hB0
  refine wp_region_lit ?_
  refine wpList_load39 rfl (.tmp 2) rfl w.heap.size rfl HX0.out ?_
  simp only [Act.put, List.setIfInBounds_toArray, List.set_cons_zero, List.set_cons_succ]
  refine wpList_step (fun K hK => ?_)
  go_simp
  go_at_call 27
  refine (HC.out _ (HI.out.below HB0.out)).mono ?_
  rintro e w1 ⟨rfl, hb1⟩
  refine hK _ _ ?_
  clear hK K
  have HX1 := Lib.hid (blk_below hb1 (lt_of_some HX0.out) HX0.out); have HP1 := Lib.hid (blk_below hb1 (lt_of_some HP0.out) HP0.out); have HR1 := Lib.hid (blk_below hb1 (lt_of_some HR0.out) HR0.out)
  have HB1 := Lib.hid (HB0.out.trans (hb1.mono HB0.out.size))
  clear hb1
  obtain ⟨⟨c0, c1, c13, c14, c15, c16, clt⟩, ⟨c2, c3, c4, c5, c6, c7, c8, c9, c10, c11, c12⟩, c17, c18, c19⟩ := rte_cells HX1.out
  obtain ⟨⟨q0, q1, q2, q3, q4, qlt⟩, q5, q6, q7, q8, q9, q10, q11, q12, q13, q14, q15⟩ := rep_cells HP1.out
  have f2 := fz_blk HX1.out 2; have f3 := fz_blk HX1.out 3; have f4 := fz_blk HX1.out 4; have f5 := fz_blk HX1.out 5; have f6 := fz_blk HX1.out 6; have f7 := fz_blk HX1.out 7; have f8 := fz_blk HX1.out 8; have f9 := fz_blk HX1.out 9; have f10 := fz_blk HX1.out 10; have f11 := fz_blk HX1.out 11; have f12 := fz_blk HX1.out 12
  have f13 := fz_blk HX1.out 13; have f14 := fz_blk HX1.out 14; have f15 := fz_blk HX1.out 15; have f16 := fz_blk HX1.out 16; have f17 := fz_blk HX1.out 17; have f18 := fz_blk HX1.out 18; have f19 := fz_blk HX1.out 19
  rw [Hd.out] at c16
  go_upto_region 8 with fail
  clear c0 c1 c13 c14 c15 c16 clt c2 c3 c4 c5 c6 c7 c8 c9 c10 c11 c12 c17 c18 c19 q0 q1 q2 q3 q4 qlt q5 q6 q7 q8 q9 q10 q11 q12 q13 q14 q15 f2 f3 f4 f5 f6 f7 f8 f9 f10 f11 f12 f13 f14 f15 f16 f17 f18 f19
  have ht := turn_any w1 A B cap bc r p J pj hJ hv hn (HIB.out.below HB1.out)
  have hk := turned_kept r p
  obtain ⟨R, hR⟩ : ∃ R, turned r p = R := ⟨_, rfl⟩
  rw [hR] at ht hk
  have HT := Lib.hid ht; have HRt := Lib.hid hR
  obtain ⟨hl, _⟩ := hk
  have Hl := Lib.hid hl
  have hv5 := hv.2.2.2.2.1; have hv6 := hv.2.2.2.2.2.1; have hv7 := hv.2.2.2.2.2.2.1
  clear ht hl hR hv
  refine wp_region_lit ?_
  refine wpList_load39 rfl (.tmp 2) rfl w.heap.size rfl HX1.out ?_
  simp only [Act.put, List.setIfInBounds_toArray, List.set_cons_zero, List.set_cons_succ]
  refine wpList_load59 rfl (.tmp 3) rfl (w.heap.size + 1) rfl HP1.out ?_
  simp only [Act.put, List.setIfInBounds_toArray, List.set_cons_zero, List.set_cons_succ]
  refine wpList_step (fun K hK => ?_)
  go_simp
  go_at_call 59
  refine HT.out.mono ?_
  rintro e w2 ⟨A2, c2', rfl, hI2, hb2⟩
  refine hK _ _ ?_
  clear hK K
  have HX2 := Lib.hid (blk_below hb2 (lt_of_some HX1.out) HX1.out); have HP2 := Lib.hid (blk_below hb2 (lt_of_some HP1.out) HP1.out); have HR2 := Lib.hid (blk_below hb2 (lt_of_some HR1.out) HR1.out)
  have HB2 := Lib.hid (HB1.out.trans (hb2.mono HB1.out.size))
  have HI2 := Lib.hid hI2
  clear hb2 hI2
  refine wpList_store39 rfl (.tmp 2) (.tmp 44) rfl w.heap.size rfl (r := R) (v := .slice A2 R.map.sp.length c2') (j := J) rfl rfl hJ HX2.out ?_
  intro w3 hX3 ho3
  simp only [Act.put, List.setIfInBounds_toArray, List.set_cons_zero, List.set_cons_succ]
  have HX3 := Lib.hid hX3
  have HP3 := Lib.hid ((ho3.block _ (lt_of_some HP2.out) (by show ¬ w.heap.size + 1 = w.heap.size; omega)).trans HP2.out)
  have HR3 := Lib.hid ((ho3.block _ (lt_of_some HR2.out) (by show ¬ w.heap.size + 1 + 1 = w.heap.size; omega)).trans HR2.out)
  have HB3 := Lib.hid (ho3.below HB2.out (fun q hq => by have hq : q = w.heap.size := hq; omega) HB2.out.size)
  clear ho3 hX3
  obtain ⟨⟨c0, c1, c13, c14, c15, c16, clt⟩, ⟨c2, c3, c4, c5, c6, c7, c8, c9, c10, c11, c12⟩, c17, c18, c19⟩ := rte_cells HX3.out
  obtain ⟨⟨q0, q1, q2, q3, q4, qlt⟩, q5, q6, q7, q8, q9, q10, q11, q12, q13, q14, q15⟩ := rep_cells HP3.out
  have f2 := fz_blk HX3.out 2; have f3 := fz_blk HX3.out 3; have f4 := fz_blk HX3.out 4; have f5 := fz_blk HX3.out 5; have f6 := fz_blk HX3.out 6; have f7 := fz_blk HX3.out 7; have f8 := fz_blk HX3.out 8; have f9 := fz_blk HX3.out 9; have f10 := fz_blk HX3.out 10; have f11 := fz_blk HX3.out 11; have f12 := fz_blk HX3.out 12
  have f13 := fz_blk HX3.out 13; have f14 := fz_blk HX3.out 14; have f15 := fz_blk HX3.out 15; have f16 := fz_blk HX3.out 16; have f17 := fz_blk HX3.out 17; have f18 := fz_blk HX3.out 18; have f19 := fz_blk HX3.out 19
  have h1 : IntKind.i64.wrap (R.left - 1) = R.left - 1 := IntWalk.i64_in _ (by have := Hl.out; omega)
  have h3 : ¬ R.left - 1 = 0 := by have := Hl.out; omega
  have h2 : (R.left - 1 == 0) = false := by simpa using h3
  clear h3
  go_upto_region 9 with fail
  have HX4 := Lib.hid (rte_left HX3.out (R.left - 1))
  have hon : Only (· = w.heap.size) w3 (w3.setCell ⟨w.heap.size, 15, none⟩ (.int .i64 (R.left - 1))) := only_setCell w3 ⟨w.heap.size, 15, none⟩ (.int .i64 (R.left - 1))
  have HP4 := Lib.hid ((hon.block _ (lt_of_some HP3.out) (by show ¬ w.heap.size + 1 = w.heap.size; omega)).trans HP3.out)
  have HR4 := Lib.hid ((hon.block _ (lt_of_some HR3.out) (by show ¬ w.heap.size + 1 + 1 = w.heap.size; omega)).trans HR3.out)
  have HB4 := Lib.hid (hon.below HB3.out (fun q hq => by have hq : q = w.heap.size := hq; omega) HB3.out.size)
  clear hon
  go_upto_region 10 with fail
  change Code.wp _ _ _ _ (w3.setCell ⟨w.heap.size, 15, none⟩ (.int .i64 (R.left - 1)))
  generalize (w3.setCell ⟨w.heap.size, 15, none⟩ (.int .i64 (R.left - 1))) = w4 at *
  clear c0 c1 c13 c14 c15 c16 clt c2 c3 c4 c5 c6 c7 c8 c9 c10 c11 c12 c17 c18 c19 q0 q1 q2 q3 q4 qlt q5 q6 q7 q8 q9 q10 q11 q12 q13 q14 q15 f2 f3 f4 f5 f6 f7 f8 f9 f10 f11 f12 f13 f14 f15 f16 f17 f18 f19
  obtain ⟨⟨c0, c1, c13, c14, c15, c16, clt⟩, ⟨c2, c3, c4, c5, c6, c7, c8, c9, c10, c11, c12⟩, c17, c18, c19⟩ := rte_cells HX4.out
  obtain ⟨⟨q0, q1, q2, q3, q4, qlt⟩, q5, q6, q7, q8, q9, q10, q11, q12, q13, q14, q15⟩ := rep_cells HP4.out
  have f2 := fz_blk HX4.out 2; have f3 := fz_blk HX4.out 3; have f4 := fz_blk HX4.out 4; have f5 := fz_blk HX4.out 5; have f6 := fz_blk HX4.out 6; have f7 := fz_blk HX4.out 7; have f8 := fz_blk HX4.out 8; have f9 := fz_blk HX4.out 9; have f10 := fz_blk HX4.out 10; have f11 := fz_blk HX4.out 11; have f12 := fz_blk HX4.out 12
  have f13 := fz_blk HX4.out 13; have f14 := fz_blk HX4.out 14; have f15 := fz_blk HX4.out 15; have f16 := fz_blk HX4.out 16; have f17 := fz_blk HX4.out 17; have f18 := fz_blk HX4.out 18; have f19 := fz_blk HX4.out 19
  go_upto_region 14 with fail
  refine wp_region_lit ?_
  refine wpList_load39 rfl (.tmp 2) rfl w.heap.size rfl HX4.out ?_
  simp only [Act.put, List.setIfInBounds_toArray, List.set_cons_zero, List.set_cons_succ]
  refine wpList_store39 rfl (.tmp 4) (.tmp 56) rfl (w.heap.size + 1 + 1) rfl (r := { R with left := R.left - 1 }) (v := (.slice A2 R.map.sp.length c2')) (j := J) rfl rfl hJ HR4.out ?_
  intro w19 h19 ho19
  simp only [Act.put, List.setIfInBounds_toArray, List.set_cons_zero, List.set_cons_succ]
  go_wp2
  refine bodyPost_ret (results39_one rfl _ _ (w.heap.size + 1 + 1) rfl h19) rfl ?_
  rw [HRt.out]
  exact ⟨⟨A2, c2', by rw [Hl.out]; rfl, HI2.out⟩, ho19.below HB4.out (fun q hq => by omega) HB4.out.size⟩
set_option maxRecDepth 100000 in
set_option maxHeartbeats 1000000 in
theorem rheard_a_last (w : World) (A B : Option Addr) (cap bc : Nat) (r : Rte) (p : Rep) (J pj : Value) (hJ : J.oneCell' = true) (hpj : pj.oneCell' = true) (hn : r.name.size ≤ 9223372036854775807) (hA : MapIn w A cap r.map) (hB : MapIn w B bc p.map) (hv : RteOk r) (hd : r.done = false) (k1 : ¬ p.kind = 2) (k5 : r.left = 1) :
    Calls Try.prog 34 #[r.val (.slice A r.map.sp.length cap) J, p.val pj (.slice B p.map.sp.length bc)] w fun e w' => (∃ A' cap', e = .returned ({ turned r p with left := 0, done := true, fetch := false, err := 181, time := 0 }.val (.slice A' (turned r p).map.sp.length cap') nilV) ∧ (A' = A ∧ cap' = cap ∧ (turned r p).map = r.map ∨ A' = B ∧ cap' = bc ∧ (turned r p).map = p.map)) ∧ Below w.heap.size w w' := by
  have Hd := Lib.hid hd; clear hd
  have K5 := Lib.hid k5; clear k5
  have m1 : (p.kind == 2) = false := by simpa using k1
  clear k1
  have hC := fun w h => rRteCheck_any w A cap J r h hn
  rw [tr_true hv] at hC
  have HC := Lib.hid hC; have HI := Lib.hid hA; have HIB := Lib.hid hB
  clear hC hA hB
  go_enter Try.func34, Try.ntmps34
  go_upto_region 1 with fail
  have hX0 : (((w.alloc (r.blk (.slice A r.map.sp.length cap) J)).alloc (p.blk pj (.slice B p.map.sp.length bc))).alloc (zeroR.blk nilV nilV)).heap[w.heap.size]? = some (r.blk (.slice A r.map.sp.length cap) J) := (Below.heap_alloc _ _ _ (by simp; omega)).trans ((Below.heap_alloc _ _ _ (by simp)).trans (heap_alloc_new w _))
  have hR0 : (((w.alloc (r.blk (.slice A r.map.sp.length cap) J)).alloc (p.blk pj (.slice B p.map.sp.length bc))).alloc (zeroR.blk nilV nilV)).heap[w.heap.size + 1 + 1]? = some (zeroR.blk nilV nilV) := by simpa using heap_alloc_new ((w.alloc (r.blk (.slice A r.map.sp.length cap) J)).alloc (p.blk pj (.slice B p.map.sp.length bc))) (zeroR.blk nilV nilV)
  have hP0 : (((w.alloc (r.blk (.slice A r.map.sp.length cap) J)).alloc (p.blk pj (.slice B p.map.sp.length bc))).alloc (zeroR.blk nilV nilV)).heap[w.heap.size + 1]? = some (p.blk pj (.slice B p.map.sp.length bc)) := (Below.heap_alloc _ _ _ (by simp)).trans (heap_second _ _ _)
  have hB0 : Below w.heap.size w (((w.alloc (r.blk (.slice A r.map.sp.length cap) J)).alloc (p.blk pj (.slice B p.map.sp.length bc))).alloc (zeroR.blk nilV nilV)) := al3 _ _ _
  change Code.wp _ _ _ _ (((w.alloc (r.blk (.slice A r.map.sp.length cap) J)).alloc (p.blk pj (.slice B p.map.sp.length bc))).alloc (zeroR.blk nilV nilV))
  generalize (((w.alloc (r.blk (.slice A r.map.sp.length cap) J)).alloc (p.blk pj (.slice B p.map.sp.length bc))).alloc (zeroR.blk nilV nilV)) = w0 at *
  have HX0 := Lib.hid hX0; have HP0 := Lib.hid hP0; have HR0 := Lib.hid hR0; have HB0 := Lib.hid hB0
  clear hX0 hP0 hR0 hB0
  refine wp_region_lit ?_
  refine wpList_load39 rfl (.tmp 2) rfl w.heap.size rfl HX0.out ?_
  simp only [Act.put, List.setIfInBounds_toArray, List.set_cons_zero, List.set_cons_succ]
  refine wpList_step (fun K hK => ?_)
  go_simp
  go_at_call 27
  refine (HC.out _ (HI.out.below HB0.out)).mono ?_
  rintro e w1 ⟨rfl, hb1⟩
  refine hK _ _ ?_
  clear hK K
  have HX1 := Lib.hid (blk_below hb1 (lt_of_some HX0.out) HX0.out); have HP1 := Lib.hid (blk_below hb1 (lt_of_some HP0.out) HP0.out); have HR1 := Lib.hid (blk_below hb1 (lt_of_some HR0.out) HR0.out)
  have HB1 := Lib.hid (HB0.out.trans (hb1.mono HB0.out.size))
  clear hb1
  obtain ⟨⟨c0, c1, c13, c14, c15, c16, clt⟩, ⟨c2, c3, c4, c5, c6, c7, c8, c9, c10, c11, c12⟩, c17, c18, c19⟩ := rte_cells HX1.out
  obtain ⟨⟨q0, q1, q2, q3, q4, qlt⟩, q5, q6, q7, q8, q9, q10, q11, q12, q13, q14, q15⟩ := rep_cells HP1.out
  have f2 := fz_blk HX1.out 2; have f3 := fz_blk HX1.out 3; have f4 := fz_blk HX1.out 4; have f5 := fz_blk HX1.out 5; have f6 := fz_blk HX1.out 6; have f7 := fz_blk HX1.out 7; have f8 := fz_blk HX1.out 8; have f9 := fz_blk HX1.out 9; have f10 := fz_blk HX1.out 10; have f11 := fz_blk HX1.out 11; have f12 := fz_blk HX1.out 12
  have f13 := fz_blk HX1.out 13; have f14 := fz_blk HX1.out 14; have f15 := fz_blk HX1.out 15; have f16 := fz_blk HX1.out 16; have f17 := fz_blk HX1.out 17; have f18 := fz_blk HX1.out 18; have f19 := fz_blk HX1.out 19
  rw [Hd.out] at c16
  go_upto_region 8 with fail
  clear c0 c1 c13 c14 c15 c16 clt c2 c3 c4 c5 c6 c7 c8 c9 c10 c11 c12 c17 c18 c19 q0 q1 q2 q3 q4 qlt q5 q6 q7 q8 q9 q10 q11 q12 q13 q14 q15 f2 f3 f4 f5 f6 f7 f8 f9 f10 f11 f12 f13 f14 f15 f16 f17 f18 f19
  have ht := turn_any w1 A B cap bc r p J pj hJ hv hn (HIB.out.below HB1.out)
  have hk := turned_kept r p
  obtain ⟨R, hR⟩ : ∃ R, turned r p = R := ⟨_, rfl⟩
  rw [hR] at ht hk
  have HT := Lib.hid ht; have HRt := Lib.hid hR
  obtain ⟨hl, _⟩ := hk
  have Hl := Lib.hid hl
  have hv5 := hv.2.2.2.2.1; have hv6 := hv.2.2.2.2.2.1; have hv7 := hv.2.2.2.2.2.2.1
  clear ht hl hR hv
  refine wp_region_lit ?_
  refine wpList_load39 rfl (.tmp 2) rfl w.heap.size rfl HX1.out ?_
  simp only [Act.put, List.setIfInBounds_toArray, List.set_cons_zero, List.set_cons_succ]
  refine wpList_load59 rfl (.tmp 3) rfl (w.heap.size + 1) rfl HP1.out ?_
  simp only [Act.put, List.setIfInBounds_toArray, List.set_cons_zero, List.set_cons_succ]
  refine wpList_step (fun K hK => ?_)
  go_simp
  go_at_call 59
  refine HT.out.mono ?_
  rintro e w2 ⟨A2, c2', rfl, hI2, hb2⟩
  refine hK _ _ ?_
  clear hK K
  have HX2 := Lib.hid (blk_below hb2 (lt_of_some HX1.out) HX1.out); have HP2 := Lib.hid (blk_below hb2 (lt_of_some HP1.out) HP1.out); have HR2 := Lib.hid (blk_below hb2 (lt_of_some HR1.out) HR1.out)
  have HB2 := Lib.hid (HB1.out.trans (hb2.mono HB1.out.size))
  have HI2 := Lib.hid hI2
  clear hb2 hI2
  refine wpList_store39 rfl (.tmp 2) (.tmp 44) rfl w.heap.size rfl (r := R) (v := .slice A2 R.map.sp.length c2') (j := J) rfl rfl hJ HX2.out ?_
  intro w3 hX3 ho3
  simp only [Act.put, List.setIfInBounds_toArray, List.set_cons_zero, List.set_cons_succ]
  have HX3 := Lib.hid hX3
  have HP3 := Lib.hid ((ho3.block _ (lt_of_some HP2.out) (by show ¬ w.heap.size + 1 = w.heap.size; omega)).trans HP2.out)
  have HR3 := Lib.hid ((ho3.block _ (lt_of_some HR2.out) (by show ¬ w.heap.size + 1 + 1 = w.heap.size; omega)).trans HR2.out)
  have HB3 := Lib.hid (ho3.below HB2.out (fun q hq => by have hq : q = w.heap.size := hq; omega) HB2.out.size)
  clear ho3 hX3
  obtain ⟨⟨c0, c1, c13, c14, c15, c16, clt⟩, ⟨c2, c3, c4, c5, c6, c7, c8, c9, c10, c11, c12⟩, c17, c18, c19⟩ := rte_cells HX3.out
  obtain ⟨⟨q0, q1, q2, q3, q4, qlt⟩, q5, q6, q7, q8, q9, q10, q11, q12, q13, q14, q15⟩ := rep_cells HP3.out
  have f2 := fz_blk HX3.out 2; have f3 := fz_blk HX3.out 3; have f4 := fz_blk HX3.out 4; have f5 := fz_blk HX3.out 5; have f6 := fz_blk HX3.out 6; have f7 := fz_blk HX3.out 7; have f8 := fz_blk HX3.out 8; have f9 := fz_blk HX3.out 9; have f10 := fz_blk HX3.out 10; have f11 := fz_blk HX3.out 11; have f12 := fz_blk HX3.out 12
  have f13 := fz_blk HX3.out 13; have f14 := fz_blk HX3.out 14; have f15 := fz_blk HX3.out 15; have f16 := fz_blk HX3.out 16; have f17 := fz_blk HX3.out 17; have f18 := fz_blk HX3.out 18; have f19 := fz_blk HX3.out 19
  rw [Hl.out, K5.out] at c15
  go_upto_region 9 with fail
  have HX4 := Lib.hid (rte_left HX3.out 0)
  have hon : Only (· = w.heap.size) w3 (w3.setCell ⟨w.heap.size, 15, none⟩ (.int .i64 0)) := only_setCell w3 ⟨w.heap.size, 15, none⟩ (.int .i64 0)
  have HP4 := Lib.hid ((hon.block _ (lt_of_some HP3.out) (by show ¬ w.heap.size + 1 = w.heap.size; omega)).trans HP3.out)
  have HR4 := Lib.hid ((hon.block _ (lt_of_some HR3.out) (by show ¬ w.heap.size + 1 + 1 = w.heap.size; omega)).trans HR3.out)
  have HB4 := Lib.hid (hon.below HB3.out (fun q hq => by have hq : q = w.heap.size := hq; omega) HB3.out.size)
  clear hon
  go_upto_region 10 with fail
  change Code.wp _ _ _ _ (w3.setCell ⟨w.heap.size, 15, none⟩ (.int .i64 0))
  generalize (w3.setCell ⟨w.heap.size, 15, none⟩ (.int .i64 0)) = w4 at *
  clear c0 c1 c13 c14 c15 c16 clt c2 c3 c4 c5 c6 c7 c8 c9 c10 c11 c12 c17 c18 c19 q0 q1 q2 q3 q4 qlt q5 q6 q7 q8 q9 q10 q11 q12 q13 q14 q15 f2 f3 f4 f5 f6 f7 f8 f9 f10 f11 f12 f13 f14 f15 f16 f17 f18 f19
  obtain ⟨⟨c0, c1, c13, c14, c15, c16, clt⟩, ⟨c2, c3, c4, c5, c6, c7, c8, c9, c10, c11, c12⟩, c17, c18, c19⟩ := rte_cells HX4.out
  obtain ⟨⟨q0, q1, q2, q3, q4, qlt⟩, q5, q6, q7, q8, q9, q10, q11, q12, q13, q14, q15⟩ := rep_cells HP4.out
  have f2 := fz_blk HX4.out 2; have f3 := fz_blk HX4.out 3; have f4 := fz_blk HX4.out 4; have f5 := fz_blk HX4.out 5; have f6 := fz_blk HX4.out 6; have f7 := fz_blk HX4.out 7; have f8 := fz_blk HX4.out 8; have f9 := fz_blk HX4.out 9; have f10 := fz_blk HX4.out 10; have f11 := fz_blk HX4.out 11; have f12 := fz_blk HX4.out 12
  have f13 := fz_blk HX4.out 13; have f14 := fz_blk HX4.out 14; have f15 := fz_blk HX4.out 15; have f16 := fz_blk HX4.out 16; have f17 := fz_blk HX4.out 17; have f18 := fz_blk HX4.out 18; have f19 := fz_blk HX4.out 19
  dsimp only at c15
  go_upto_region 11 with fail
  have HX5 := Lib.hid (rte_done HX4.out true)
  have hon : Only (· = w.heap.size) w4 (w4.setCell ⟨w.heap.size, 16, none⟩ (.bool true)) := only_setCell w4 ⟨w.heap.size, 16, none⟩ (.bool true)
  have HP5 := Lib.hid ((hon.block _ (lt_of_some HP4.out) (by show ¬ w.heap.size + 1 = w.heap.size; omega)).trans HP4.out)
  have HR5 := Lib.hid ((hon.block _ (lt_of_some HR4.out) (by show ¬ w.heap.size + 1 + 1 = w.heap.size; omega)).trans HR4.out)
  have HB5 := Lib.hid (hon.below HB4.out (fun q hq => by have hq : q = w.heap.size := hq; omega) HB4.out.size)
  clear hon
  go_upto_region 12 with fail
  change Code.wp _ _ _ _ (w4.setCell ⟨w.heap.size, 16, none⟩ (.bool true))
  generalize (w4.setCell ⟨w.heap.size, 16, none⟩ (.bool true)) = w5 at *
  clear c0 c1 c13 c14 c15 c16 clt c2 c3 c4 c5 c6 c7 c8 c9 c10 c11 c12 c17 c18 c19 q0 q1 q2 q3 q4 qlt q5 q6 q7 q8 q9 q10 q11 q12 q13 q14 q15 f2 f3 f4 f5 f6 f7 f8 f9 f10 f11 f12 f13 f14 f15 f16 f17 f18 f19
  obtain ⟨⟨c0, c1, c13, c14, c15, c16, clt⟩, ⟨c2, c3, c4, c5, c6, c7, c8, c9, c10, c11, c12⟩, c17, c18, c19⟩ := rte_cells HX5.out
  obtain ⟨⟨q0, q1, q2, q3, q4, qlt⟩, q5, q6, q7, q8, q9, q10, q11, q12, q13, q14, q15⟩ := rep_cells HP5.out
  have f2 := fz_blk HX5.out 2; have f3 := fz_blk HX5.out 3; have f4 := fz_blk HX5.out 4; have f5 := fz_blk HX5.out 5; have f6 := fz_blk HX5.out 6; have f7 := fz_blk HX5.out 7; have f8 := fz_blk HX5.out 8; have f9 := fz_blk HX5.out 9; have f10 := fz_blk HX5.out 10; have f11 := fz_blk HX5.out 11; have f12 := fz_blk HX5.out 12
  have f13 := fz_blk HX5.out 13; have f14 := fz_blk HX5.out 14; have f15 := fz_blk HX5.out 15; have f16 := fz_blk HX5.out 16; have f17 := fz_blk HX5.out 17; have f18 := fz_blk HX5.out 18; have f19 := fz_blk HX5.out 19
  have HX6 := Lib.hid (rte_fetch HX5.out false)
  have hon : Only (· = w.heap.size) w5 (w5.setCell ⟨w.heap.size, 13, none⟩ (.bool false)) := only_setCell w5 ⟨w.heap.size, 13, none⟩ (.bool false)
  have HP6 := Lib.hid ((hon.block _ (lt_of_some HP5.out) (by show ¬ w.heap.size + 1 = w.heap.size; omega)).trans HP5.out)
  have HR6 := Lib.hid ((hon.block _ (lt_of_some HR5.out) (by show ¬ w.heap.size + 1 + 1 = w.heap.size; omega)).trans HR5.out)
  have HB6 := Lib.hid (hon.below HB5.out (fun q hq => by have hq : q = w.heap.size := hq; omega) HB5.out.size)
  clear hon
  go_upto_region 13 with fail
  change Code.wp _ _ _ _ (w5.setCell ⟨w.heap.size, 13, none⟩ (.bool false))
  generalize (w5.setCell ⟨w.heap.size, 13, none⟩ (.bool false)) = w6 at *
  clear c0 c1 c13 c14 c15 c16 clt c2 c3 c4 c5 c6 c7 c8 c9 c10 c11 c12 c17 c18 c19 q0 q1 q2 q3 q4 qlt q5 q6 q7 q8 q9 q10 q11 q12 q13 q14 q15 f2 f3 f4 f5 f6 f7 f8 f9 f10 f11 f12 f13 f14 f15 f16 f17 f18 f19
  obtain ⟨⟨c0, c1, c13, c14, c15, c16, clt⟩, ⟨c2, c3, c4, c5, c6, c7, c8, c9, c10, c11, c12⟩, c17, c18, c19⟩ := rte_cells HX6.out
  obtain ⟨⟨q0, q1, q2, q3, q4, qlt⟩, q5, q6, q7, q8, q9, q10, q11, q12, q13, q14, q15⟩ := rep_cells HP6.out
  have f2 := fz_blk HX6.out 2; have f3 := fz_blk HX6.out 3; have f4 := fz_blk HX6.out 4; have f5 := fz_blk HX6.out 5; have f6 := fz_blk HX6.out 6; have f7 := fz_blk HX6.out 7; have f8 := fz_blk HX6.out 8; have f9 := fz_blk HX6.out 9; have f10 := fz_blk HX6.out 10; have f11 := fz_blk HX6.out 11; have f12 := fz_blk HX6.out 12
  have f13 := fz_blk HX6.out 13; have f14 := fz_blk HX6.out 14; have f15 := fz_blk HX6.out 15; have f16 := fz_blk HX6.out 16; have f17 := fz_blk HX6.out 17; have f18 := fz_blk HX6.out 18; have f19 := fz_blk HX6.out 19
  have HX7 := Lib.hid (rte_res HX6.out 181 0 nilV)
  have hon : Only (· = w.heap.size) w6 (((w6.setCell ⟨w.heap.size, 17, none⟩ (.int .i64 181)).setCell ⟨w.heap.size, 18, none⟩ (.int .i64 0)).setCell ⟨w.heap.size, 19, none⟩ nilV) := res_only3 w6 w.heap.size _ _ _
  have HP7 := Lib.hid ((hon.block _ (lt_of_some HP6.out) (by show ¬ w.heap.size + 1 = w.heap.size; omega)).trans HP6.out)
  have HR7 := Lib.hid ((hon.block _ (lt_of_some HR6.out) (by show ¬ w.heap.size + 1 + 1 = w.heap.size; omega)).trans HR6.out)
  have HB7 := Lib.hid (hon.below HB6.out (fun q hq => by have hq : q = w.heap.size := hq; omega) HB6.out.size)
  clear hon
  go_upto_region 14 with fail
  change Code.wp _ _ _ _ (((w6.setCell ⟨w.heap.size, 17, none⟩ (.int .i64 181)).setCell ⟨w.heap.size, 18, none⟩ (.int .i64 0)).setCell ⟨w.heap.size, 19, none⟩ nilV)
  generalize (((w6.setCell ⟨w.heap.size, 17, none⟩ (.int .i64 181)).setCell ⟨w.heap.size, 18, none⟩ (.int .i64 0)).setCell ⟨w.heap.size, 19, none⟩ nilV) = w7 at *
  clear c0 c1 c13 c14 c15 c16 clt c2 c3 c4 c5 c6 c7 c8 c9 c10 c11 c12 c17 c18 c19 q0 q1 q2 q3 q4 qlt q5 q6 q7 q8 q9 q10 q11 q12 q13 q14 q15 f2 f3 f4 f5 f6 f7 f8 f9 f10 f11 f12 f13 f14 f15 f16 f17 f18 f19
  obtain ⟨⟨c0, c1, c13, c14, c15, c16, clt⟩, ⟨c2, c3, c4, c5, c6, c7, c8, c9, c10, c11, c12⟩, c17, c18, c19⟩ := rte_cells HX7.out
  obtain ⟨⟨q0, q1, q2, q3, q4, qlt⟩, q5, q6, q7, q8, q9, q10, q11, q12, q13, q14, q15⟩ := rep_cells HP7.out
  have f2 := fz_blk HX7.out 2; have f3 := fz_blk HX7.out 3; have f4 := fz_blk HX7.out 4; have f5 := fz_blk HX7.out 5; have f6 := fz_blk HX7.out 6; have f7 := fz_blk HX7.out 7; have f8 := fz_blk HX7.out 8; have f9 := fz_blk HX7.out 9; have f10 := fz_blk HX7.out 10; have f11 := fz_blk HX7.out 11; have f12 := fz_blk HX7.out 12
  have f13 := fz_blk HX7.out 13; have f14 := fz_blk HX7.out 14; have f15 := fz_blk HX7.out 15; have f16 := fz_blk HX7.out 16; have f17 := fz_blk HX7.out 17; have f18 := fz_blk HX7.out 18; have f19 := fz_blk HX7.out 19
  refine wp_region_lit ?_
  refine wpList_load39 rfl (.tmp 2) rfl w.heap.size rfl HX7.out ?_
  simp only [Act.put, List.setIfInBounds_toArray, List.set_cons_zero, List.set_cons_succ]
  refine wpList_store39 rfl (.tmp 4) (.tmp 56) rfl (w.heap.size + 1 + 1) rfl (r := { R with left := 0, done := true, fetch := false, err := 181, time := 0 }) (v := (.slice A2 R.map.sp.length c2')) (j := nilV) rfl rfl rfl HR7.out ?_
  intro w19 h19 ho19
  simp only [Act.put, List.setIfInBounds_toArray, List.set_cons_zero, List.set_cons_succ]
  go_wp2
  refine bodyPost_ret (results39_one rfl _ _ (w.heap.size + 1 + 1) rfl h19) rfl ?_
  rw [HRt.out]
  exact ⟨⟨A2, c2', rfl, HI2.out⟩, ho19.below HB7.out (fun q hq => by omega) HB7.out.size⟩
set_option maxRecDepth 100000 in
set_option maxHeartbeats 1000000 in
theorem rheard_b (w : World) (A B : Option Addr) (cap bc : Nat) (r : Rte) (p : Rep) (J pj : Value) (hJ : J.oneCell' = true) (hpj : pj.oneCell' = true) (hn : r.name.size ≤ 9223372036854775807) (hA : MapIn w A cap r.map) (hB : MapIn w B bc p.map) (hv : RteOk r) (hd : r.done = false) (k1 : p.kind = 2) (k2 : r.fetch = true) (k5 : ¬ r.left = 1) :
    Calls Try.prog 34 #[r.val (.slice A r.map.sp.length cap) J, p.val pj (.slice B p.map.sp.length bc)] w fun e w' => (∃ A' cap', e = .returned ({ turned r p with left := r.left - 1 }.val (.slice A' (turned r p).map.sp.length cap') J) ∧ (A' = A ∧ cap' = cap ∧ (turned r p).map = r.map ∨ A' = B ∧ cap' = bc ∧ (turned r p).map = p.map)) ∧ Below w.heap.size w w' := by
  have Hd := Lib.hid hd; clear hd
  have hl0 : ¬ r.left = 0 := fun h => by have := hv.2.2.2.2.2.2.1 h; rw [Hd.out] at this; cases this
  have K1 := Lib.hid k1; have K2 := Lib.hid k2; clear k1 k2
  have hC := fun w h => rRteCheck_any w A cap J r h hn
  rw [tr_true hv] at hC
  have HC := Lib.hid hC; have HI := Lib.hid hA; have HIB := Lib.hid hB
  clear hC hA hB
  go_enter Try.func34, Try.ntmps34
  go_upto_region 1 with fail
  have hX0 : (((w.alloc (r.blk (.slice A r.map.sp.length cap) J)).alloc (p.blk pj (.slice B p.map.sp.length bc))).alloc (zeroR.blk nilV nilV)).heap[w.heap.size]? = some (r.blk (.slice A r.map.sp.length cap) J) := (Below.heap_alloc _ _ _ (by simp; omega)).trans ((Below.heap_alloc _ _ _ (by simp)).trans (heap_alloc_new w _))
  have hR0 : (((w.alloc (r.blk (.slice A r.map.sp.length cap) J)).alloc (p.blk pj (.slice B p.map.sp.length bc))).alloc (zeroR.blk nilV nilV)).heap[w.heap.size + 1 + 1]? = some (zeroR.blk nilV nilV) := by simpa using heap_alloc_new ((w.alloc (r.blk (.slice A r.map.sp.length cap) J)).alloc (p.blk pj (.slice B p.map.sp.length bc))) (zeroR.blk nilV nilV)
  have hP0 : (((w.alloc (r.blk (.slice A r.map.sp.length cap) J)).alloc (p.blk pj (.slice B p.map.sp.length bc))).alloc (zeroR.blk nilV nilV)).heap[w.heap.size + 1]? = some (p.blk pj (.slice B p.map.sp.length bc)) := (Below.heap_alloc _ _ _ (by simp)).trans (heap_second _ _ _)
  have hB0 : Below w.heap.size w (((w.alloc (r.blk (.slice A r.map.sp.length cap) J)).alloc (p.blk pj (.slice B p.map.sp.length bc))).alloc (zeroR.blk nilV nilV)) := al3 _ _ _
  change Code.wp _ _ _ _ (((w.alloc (r.blk (.slice A r.map.sp.length cap) J)).alloc (p.blk pj (.slice B p.map.sp.length bc))).alloc (zeroR.blk nilV nilV))
  generalize (((w.alloc (r.blk (.slice A r.map.sp.length cap) J)).alloc (p.blk pj (.slice B p.map.sp.length bc))).alloc (zeroR.blk nilV nilV)) = w0 at *
  have HX0 := Lib.hid hX0; have HP0 := Lib.hid hP0; have HR0 := Lib.hid hR0; have HB0 := Lib.hid hB0
  clear hX0 hP0 hR0 hB0
  refine wp_region_lit ?_
  refine wpList_load39 rfl (.tmp 2) rfl w.heap.size rfl HX0.out ?_
  simp only [Act.put, List.setIfInBounds_toArray, List.set_cons_zero, List.set_cons_succ]
  refine wpList_step (fun K hK => ?_)
  go_simp
  go_at_call 27
  refine (HC.out _ (HI.out.below HB0.out)).mono ?_
  rintro e w1 ⟨rfl, hb1⟩
  refine hK _ _ ?_
  clear hK K
  have HX1 := Lib.hid (blk_below hb1 (lt_of_some HX0.out) HX0.out); have HP1 := Lib.hid (blk_below hb1 (lt_of_some HP0.out) HP0.out); have HR1 := Lib.hid (blk_below hb1 (lt_of_some HR0.out) HR0.out)
  have HB1 := Lib.hid (HB0.out.trans (hb1.mono HB0.out.size))
  clear hb1
  obtain ⟨⟨c0, c1, c13, c14, c15, c16, clt⟩, ⟨c2, c3, c4, c5, c6, c7, c8, c9, c10, c11, c12⟩, c17, c18, c19⟩ := rte_cells HX1.out
  obtain ⟨⟨q0, q1, q2, q3, q4, qlt⟩, q5, q6, q7, q8, q9, q10, q11, q12, q13, q14, q15⟩ := rep_cells HP1.out
  have f2 := fz_blk HX1.out 2; have f3 := fz_blk HX1.out 3; have f4 := fz_blk HX1.out 4; have f5 := fz_blk HX1.out 5; have f6 := fz_blk HX1.out 6; have f7 := fz_blk HX1.out 7; have f8 := fz_blk HX1.out 8; have f9 := fz_blk HX1.out 9; have f10 := fz_blk HX1.out 10; have f11 := fz_blk HX1.out 11; have f12 := fz_blk HX1.out 12
  have f13 := fz_blk HX1.out 13; have f14 := fz_blk HX1.out 14; have f15 := fz_blk HX1.out 15; have f16 := fz_blk HX1.out 16; have f17 := fz_blk HX1.out 17; have f18 := fz_blk HX1.out 18; have f19 := fz_blk HX1.out 19
  rw [Hd.out] at c16
  rw [K1.out] at q0
  rw [K2.out] at c13
  go_upto_region 8 with fail
  clear c0 c1 c13 c14 c15 c16 clt c2 c3 c4 c5 c6 c7 c8 c9 c10 c11 c12 c17 c18 c19 q0 q1 q2 q3 q4 qlt q5 q6 q7 q8 q9 q10 q11 q12 q13 q14 q15 f2 f3 f4 f5 f6 f7 f8 f9 f10 f11 f12 f13 f14 f15 f16 f17 f18 f19
  have ht := turn_any w1 A B cap bc r p J pj hJ hv hn (HIB.out.below HB1.out)
  have hk := turned_kept r p
  obtain ⟨R, hR⟩ : ∃ R, turned r p = R := ⟨_, rfl⟩
  rw [hR] at ht hk
  have HT := Lib.hid ht; have HRt := Lib.hid hR
  obtain ⟨hl, _⟩ := hk
  have Hl := Lib.hid hl
  have hv5 := hv.2.2.2.2.1; have hv6 := hv.2.2.2.2.2.1; have hv7 := hv.2.2.2.2.2.2.1
  clear ht hl hR hv
  refine wp_region_lit ?_
  refine wpList_load39 rfl (.tmp 2) rfl w.heap.size rfl HX1.out ?_
  simp only [Act.put, List.setIfInBounds_toArray, List.set_cons_zero, List.set_cons_succ]
  refine wpList_load59 rfl (.tmp 3) rfl (w.heap.size + 1) rfl HP1.out ?_
  simp only [Act.put, List.setIfInBounds_toArray, List.set_cons_zero, List.set_cons_succ]
  refine wpList_step (fun K hK => ?_)
  go_simp
  go_at_call 59
  refine HT.out.mono ?_
  rintro e w2 ⟨A2, c2', rfl, hI2, hb2⟩
  refine hK _ _ ?_
  clear hK K
  have HX2 := Lib.hid (blk_below hb2 (lt_of_some HX1.out) HX1.out); have HP2 := Lib.hid (blk_below hb2 (lt_of_some HP1.out) HP1.out); have HR2 := Lib.hid (blk_below hb2 (lt_of_some HR1.out) HR1.out)
  have HB2 := Lib.hid (HB1.out.trans (hb2.mono HB1.out.size))
  have HI2 := Lib.hid hI2
  clear hb2 hI2
  refine wpList_store39 rfl (.tmp 2) (.tmp 44) rfl w.heap.size rfl (r := R) (v := .slice A2 R.map.sp.length c2') (j := J) rfl rfl hJ HX2.out ?_
  intro w3 hX3 ho3
  simp only [Act.put, List.setIfInBounds_toArray, List.set_cons_zero, List.set_cons_succ]
  have HX3 := Lib.hid hX3
  have HP3 := Lib.hid ((ho3.block _ (lt_of_some HP2.out) (by show ¬ w.heap.size + 1 = w.heap.size; omega)).trans HP2.out)
  have HR3 := Lib.hid ((ho3.block _ (lt_of_some HR2.out) (by show ¬ w.heap.size + 1 + 1 = w.heap.size; omega)).trans HR2.out)
  have HB3 := Lib.hid (ho3.below HB2.out (fun q hq => by have hq : q = w.heap.size := hq; omega) HB2.out.size)
  clear ho3 hX3
  obtain ⟨⟨c0, c1, c13, c14, c15, c16, clt⟩, ⟨c2, c3, c4, c5, c6, c7, c8, c9, c10, c11, c12⟩, c17, c18, c19⟩ := rte_cells HX3.out
  obtain ⟨⟨q0, q1, q2, q3, q4, qlt⟩, q5, q6, q7, q8, q9, q10, q11, q12, q13, q14, q15⟩ := rep_cells HP3.out
  have f2 := fz_blk HX3.out 2; have f3 := fz_blk HX3.out 3; have f4 := fz_blk HX3.out 4; have f5 := fz_blk HX3.out 5; have f6 := fz_blk HX3.out 6; have f7 := fz_blk HX3.out 7; have f8 := fz_blk HX3.out 8; have f9 := fz_blk HX3.out 9; have f10 := fz_blk HX3.out 10; have f11 := fz_blk HX3.out 11; have f12 := fz_blk HX3.out 12
  have f13 := fz_blk HX3.out 13; have f14 := fz_blk HX3.out 14; have f15 := fz_blk HX3.out 15; have f16 := fz_blk HX3.out 16; have f17 := fz_blk HX3.out 17; have f18 := fz_blk HX3.out 18; have f19 := fz_blk HX3.out 19
  have h1 : IntKind.i64.wrap (R.left - 1) = R.left - 1 := IntWalk.i64_in _ (by have := Hl.out; omega)
  have h3 : ¬ R.left - 1 = 0 := by have := Hl.out; omega
  have h2 : (R.left - 1 == 0) = false := by simpa using h3
  clear h3
  go_upto_region 9 with fail
  have HX4 := Lib.hid (rte_left HX3.out (R.left - 1))
  have hon : Only (· = w.heap.size) w3 (w3.setCell ⟨w.heap.size, 15, none⟩ (.int .i64 (R.left - 1))) := only_setCell w3 ⟨w.heap.size, 15, none⟩ (.int .i64 (R.left - 1))
  have HP4 := Lib.hid ((hon.block _ (lt_of_some HP3.out) (by show ¬ w.heap.size + 1 = w.heap.size; omega)).trans HP3.out)
  have HR4 := Lib.hid ((hon.block _ (lt_of_some HR3.out) (by show ¬ w.heap.size + 1 + 1 = w.heap.size; omega)).trans HR3.out)
  have HB4 := Lib.hid (hon.below HB3.out (fun q hq => by have hq : q = w.heap.size := hq; omega) HB3.out.size)
  clear hon
  go_upto_region 10 with fail
  change Code.wp _ _ _ _ (w3.setCell ⟨w.heap.size, 15, none⟩ (.int .i64 (R.left - 1)))
  generalize (w3.setCell ⟨w.heap.size, 15, none⟩ (.int .i64 (R.left - 1))) = w4 at *
  clear c0 c1 c13 c14 c15 c16 clt c2 c3 c4 c5 c6 c7 c8 c9 c10 c11 c12 c17 c18 c19 q0 q1 q2 q3 q4 qlt q5 q6 q7 q8 q9 q10 q11 q12 q13 q14 q15 f2 f3 f4 f5 f6 f7 f8 f9 f10 f11 f12 f13 f14 f15 f16 f17 f18 f19
  obtain ⟨⟨c0, c1, c13, c14, c15, c16, clt⟩, ⟨c2, c3, c4, c5, c6, c7, c8, c9, c10, c11, c12⟩, c17, c18, c19⟩ := rte_cells HX4.out
  obtain ⟨⟨q0, q1, q2, q3, q4, qlt⟩, q5, q6, q7, q8, q9, q10, q11, q12, q13, q14, q15⟩ := rep_cells HP4.out
  have f2 := fz_blk HX4.out 2; have f3 := fz_blk HX4.out 3; have f4 := fz_blk HX4.out 4; have f5 := fz_blk HX4.out 5; have f6 := fz_blk HX4.out 6; have f7 := fz_blk HX4.out 7; have f8 := fz_blk HX4.out 8; have f9 := fz_blk HX4.out 9; have f10 := fz_blk HX4.out 10; have f11 := fz_blk HX4.out 11; have f12 := fz_blk HX4.out 12
  have f13 := fz_blk HX4.out 13; have f14 := fz_blk HX4.out 14; have f15 := fz_blk HX4.out 15; have f16 := fz_blk HX4.out 16; have f17 := fz_blk HX4.out 17; have f18 := fz_blk HX4.out 18; have f19 := fz_blk HX4.out 19
  go_upto_region 14 with fail
  refine wp_region_lit ?_
  refine wpList_load39 rfl (.tmp 2) rfl w.heap.size rfl HX4.out ?_
  simp only [Act.put, List.setIfInBounds_toArray, List.set_cons_zero, List.set_cons_succ]
  refine wpList_store39 rfl (.tmp 4) (.tmp 56) rfl (w.heap.size + 1 + 1) rfl (r := { R with left := R.left - 1 }) (v := (.slice A2 R.map.sp.length c2')) (j := J) rfl rfl hJ HR4.out ?_
  intro w19 h19 ho19
  simp only [Act.put, List.setIfInBounds_toArray, List.set_cons_zero, List.set_cons_succ]
  go_wp2
  refine bodyPost_ret (results39_one rfl _ _ (w.heap.size + 1 + 1) rfl h19) rfl ?_
  rw [HRt.out]
  exact ⟨⟨A2, c2', by rw [Hl.out]; rfl, HI2.out⟩, ho19.below HB4.out (fun q hq => by omega) HB4.out.size⟩
set_option maxRecDepth 100000 in
set_option maxHeartbeats 1000000 in
theorem rheard_b_last (w : World) (A B : Option Addr) (cap bc : Nat) (r : Rte) (p : Rep) (J pj : Value) (hJ : J.oneCell' = true) (hpj : pj.oneCell' = true) (hn : r.name.size ≤ 9223372036854775807) (hA : MapIn w A cap r.map) (hB : MapIn w B bc p.map) (hv : RteOk r) (hd : r.done = false) (k1 : p.kind = 2) (k2 : r.fetch = true) (k5 : r.left = 1) :
    Calls Try.prog 34 #[r.val (.slice A r.map.sp.length cap) J, p.val pj (.slice B p.map.sp.length bc)] w fun e w' => (∃ A' cap', e = .returned ({ turned r p with left := 0, done := true, fetch := false, err := 181, time := 0 }.val (.slice A' (turned r p).map.sp.length cap') nilV) ∧ (A' = A ∧ cap' = cap ∧ (turned r p).map = r.map ∨ A' = B ∧ cap' = bc ∧ (turned r p).map = p.map)) ∧ Below w.heap.size w w' := by
  have Hd := Lib.hid hd; clear hd
  have K5 := Lib.hid k5; clear k5
  have K1 := Lib.hid k1; have K2 := Lib.hid k2; clear k1 k2
  have hC := fun w h => rRteCheck_any w A cap J r h hn
  rw [tr_true hv] at hC
  have HC := Lib.hid hC; have HI := Lib.hid hA; have HIB := Lib.hid hB
  clear hC hA hB
  go_enter Try.func34, Try.ntmps34
  go_upto_region 1 with fail
  have hX0 : (((w.alloc (r.blk (.slice A r.map.sp.length cap) J)).alloc (p.blk pj (.slice B p.map.sp.length bc))).alloc (zeroR.blk nilV nilV)).heap[w.heap.size]? = some (r.blk (.slice A r.map.sp.length cap) J) := (Below.heap_alloc _ _ _ (by simp; omega)).trans ((Below.heap_alloc _ _ _ (by simp)).trans (heap_alloc_new w _))
  have hR0 : (((w.alloc (r.blk (.slice A r.map.sp.length cap) J)).alloc (p.blk pj (.slice B p.map.sp.length bc))).alloc (zeroR.blk nilV nilV)).heap[w.heap.size + 1 + 1]? = some (zeroR.blk nilV nilV) := by simpa using heap_alloc_new ((w.alloc (r.blk (.slice A r.map.sp.length cap) J)).alloc (p.blk pj (.slice B p.map.sp.length bc))) (zeroR.blk nilV nilV)
  have hP0 : (((w.alloc (r.blk (.slice A r.map.sp.length cap) J)).alloc (p.blk pj (.slice B p.map.sp.length bc))).alloc (zeroR.blk nilV nilV)).heap[w.heap.size + 1]? = some (p.blk pj (.slice B p.map.sp.length bc)) := (Below.heap_alloc _ _ _ (by simp)).trans (heap_second _ _ _)
  have hB0 : Below w.heap.size w (((w.alloc (r.blk (.slice A r.map.sp.length cap) J)).alloc (p.blk pj (.slice B p.map.sp.length bc))).alloc (zeroR.blk nilV nilV)) := al3 _ _ _
  change Code.wp _ _ _ _ (((w.alloc (r.blk (.slice A r.map.sp.length cap) J)).alloc (p.blk pj (.slice B p.map.sp.length bc))).alloc (zeroR.blk nilV nilV))
  generalize (((w.alloc (r.blk (.slice A r.map.sp.length cap) J)).alloc (p.blk pj (.slice B p.map.sp.length bc))).alloc (zeroR.blk nilV nilV)) = w0 at *
  have HX0 := Lib.hid hX0; have HP0 := Lib.hid hP0; have HR0 := Lib.hid hR0; have HB0 := Lib.hid hB0
  clear hX0 hP0 hR0 hB0
  refine wp_region_lit ?_
  refine wpList_load39 rfl (.tmp 2) rfl w.heap.size rfl HX0.out ?_
  simp only [Act.put, List.setIfInBounds_toArray, List.set_cons_zero, List.set_cons_succ]
  refine wpList_step (fun K hK => ?_)
  go_simp
  go_at_call 27
  refine (HC.out _ (HI.out.below HB0.out)).mono ?_
  rintro e w1 ⟨rfl, hb1⟩
  refine hK _ _ ?_
  clear hK K
  have HX1 := Lib.hid (blk_below hb1 (lt_of_some HX0.out) HX0.out); have HP1 := Lib.hid (blk_below hb1 (lt_of_some HP0.out) HP0.out); have HR1 := Lib.hid (blk_below hb1 (lt_of_some HR0.out) HR0.out)
  have HB1 := Lib.hid (HB0.out.trans (hb1.mono HB0.out.size))
  clear hb1
  obtain ⟨⟨c0, c1, c13, c14, c15, c16, clt⟩, ⟨c2, c3, c4, c5, c6, c7, c8, c9, c10, c11, c12⟩, c17, c18, c19⟩ := rte_cells HX1.out
  obtain ⟨⟨q0, q1, q2, q3, q4, qlt⟩, q5, q6, q7, q8, q9, q10, q11, q12, q13, q14, q15⟩ := rep_cells HP1.out
  have f2 := fz_blk HX1.out 2; have f3 := fz_blk HX1.out 3; have f4 := fz_blk HX1.out 4; have f5 := fz_blk HX1.out 5; have f6 := fz_blk HX1.out 6; have f7 := fz_blk HX1.out 7; have f8 := fz_blk HX1.out 8; have f9 := fz_blk HX1.out 9; have f10 := fz_blk HX1.out 10; have f11 := fz_blk HX1.out 11; have f12 := fz_blk HX1.out 12
  have f13 := fz_blk HX1.out 13; have f14 := fz_blk HX1.out 14; have f15 := fz_blk HX1.out 15; have f16 := fz_blk HX1.out 16; have f17 := fz_blk HX1.out 17; have f18 := fz_blk HX1.out 18; have f19 := fz_blk HX1.out 19
  rw [Hd.out] at c16
  rw [K1.out] at q0
  rw [K2.out] at c13
  go_upto_region 8 with fail
  clear c0 c1 c13 c14 c15 c16 clt c2 c3 c4 c5 c6 c7 c8 c9 c10 c11 c12 c17 c18 c19 q0 q1 q2 q3 q4 qlt q5 q6 q7 q8 q9 q10 q11 q12 q13 q14 q15 f2 f3 f4 f5 f6 f7 f8 f9 f10 f11 f12 f13 f14 f15 f16 f17 f18 f19
  have ht := turn_any w1 A B cap bc r p J pj hJ hv hn (HIB.out.below HB1.out)
  have hk := turned_kept r p
  obtain ⟨R, hR⟩ : ∃ R, turned r p = R := ⟨_, rfl⟩
  rw [hR] at ht hk
  have HT := Lib.hid ht; have HRt := Lib.hid hR
  obtain ⟨hl, _⟩ := hk
  have Hl := Lib.hid hl
  have hv5 := hv.2.2.2.2.1; have hv6 := hv.2.2.2.2.2.1; have hv7 := hv.2.2.2.2.2.2.1
  clear ht hl hR hv
  refine wp_region_lit ?_
  refine wpList_load39 rfl (.tmp 2) rfl w.heap.size rfl HX1.out ?_
  simp only [Act.put, List.setIfInBounds_toArray, List.set_cons_zero, List.set_cons_succ]
  refine wpList_load59 rfl (.tmp 3) rfl (w.heap.size + 1) rfl HP1.out ?_
  simp only [Act.put, List.setIfInBounds_toArray, List.set_cons_zero, List.set_cons_succ]
  refine wpList_step (fun K hK => ?_)
  go_simp
  go_at_call 59
  refine HT.out.mono ?_
  rintro e w2 ⟨A2, c2', rfl, hI2, hb2⟩
  refine hK _ _ ?_
  clear hK K
  have HX2 := Lib.hid (blk_below hb2 (lt_of_some HX1.out) HX1.out); have HP2 := Lib.hid (blk_below hb2 (lt_of_some HP1.out) HP1.out); have HR2 := Lib.hid (blk_below hb2 (lt_of_some HR1.out) HR1.out)
  have HB2 := Lib.hid (HB1.out.trans (hb2.mono HB1.out.size))
  have HI2 := Lib.hid hI2
  clear hb2 hI2
  refine wpList_store39 rfl (.tmp 2) (.tmp 44) rfl w.heap.size rfl (r := R) (v := .slice A2 R.map.sp.length c2') (j := J) rfl rfl hJ HX2.out ?_
  intro w3 hX3 ho3
  simp only [Act.put, List.setIfInBounds_toArray, List.set_cons_zero, List.set_cons_succ]
  have HX3 := Lib.hid hX3
  have HP3 := Lib.hid ((ho3.block _ (lt_of_some HP2.out) (by show ¬ w.heap.size + 1 = w.heap.size; omega)).trans HP2.out)
  have HR3 := Lib.hid ((ho3.block _ (lt_of_some HR2.out) (by show ¬ w.heap.size + 1 + 1 = w.heap.size; omega)).trans HR2.out)
  have HB3 := Lib.hid (ho3.below HB2.out (fun q hq => by have hq : q = w.heap.size := hq; omega) HB2.out.size)
  clear ho3 hX3
  obtain ⟨⟨c0, c1, c13, c14, c15, c16, clt⟩, ⟨c2, c3, c4, c5, c6, c7, c8, c9, c10, c11, c12⟩, c17, c18, c19⟩ := rte_cells HX3.out
  obtain ⟨⟨q0, q1, q2, q3, q4, qlt⟩, q5, q6, q7, q8, q9, q10, q11, q12, q13, q14, q15⟩ := rep_cells HP3.out
  have f2 := fz_blk HX3.out 2; have f3 := fz_blk HX3.out 3; have f4 := fz_blk HX3.out 4; have f5 := fz_blk HX3.out 5; have f6 := fz_blk HX3.out 6; have f7 := fz_blk HX3.out 7; have f8 := fz_blk HX3.out 8; have f9 := fz_blk HX3.out 9; have f10 := fz_blk HX3.out 10; have f11 := fz_blk HX3.out 11; have f12 := fz_blk HX3.out 12
  have f13 := fz_blk HX3.out 13; have f14 := fz_blk HX3.out 14; have f15 := fz_blk HX3.out 15; have f16 := fz_blk HX3.out 16; have f17 := fz_blk HX3.out 17; have f18 := fz_blk HX3.out 18; have f19 := fz_blk HX3.out 19
  rw [Hl.out, K5.out] at c15
  go_upto_region 9 with fail
  have HX4 := Lib.hid (rte_left HX3.out 0)
  have hon : Only (· = w.heap.size) w3 (w3.setCell ⟨w.heap.size, 15, none⟩ (.int .i64 0)) := only_setCell w3 ⟨w.heap.size, 15, none⟩ (.int .i64 0)
  have HP4 := Lib.hid ((hon.block _ (lt_of_some HP3.out) (by show ¬ w.heap.size + 1 = w.heap.size; omega)).trans HP3.out)
  have HR4 := Lib.hid ((hon.block _ (lt_of_some HR3.out) (by show ¬ w.heap.size + 1 + 1 = w.heap.size; omega)).trans HR3.out)
  have HB4 := Lib.hid (hon.below HB3.out (fun q hq => by have hq : q = w.heap.size := hq; omega) HB3.out.size)
  clear hon
  go_upto_region 10 with fail
  change Code.wp _ _ _ _ (w3.setCell ⟨w.heap.size, 15, none⟩ (.int .i64 0))
  generalize (w3.setCell ⟨w.heap.size, 15, none⟩ (.int .i64 0)) = w4 at *
  clear c0 c1 c13 c14 c15 c16 clt c2 c3 c4 c5 c6 c7 c8 c9 c10 c11 c12 c17 c18 c19 q0 q1 q2 q3 q4 qlt q5 q6 q7 q8 q9 q10 q11 q12 q13 q14 q15 f2 f3 f4 f5 f6 f7 f8 f9 f10 f11 f12 f13 f14 f15 f16 f17 f18 f19
  obtain ⟨⟨c0, c1, c13, c14, c15, c16, clt⟩, ⟨c2, c3, c4, c5, c6, c7, c8, c9, c10, c11, c12⟩, c17, c18, c19⟩ := rte_cells HX4.out
  obtain ⟨⟨q0, q1, q2, q3, q4, qlt⟩, q5, q6, q7, q8, q9, q10, q11, q12, q13, q14, q15⟩ := rep_cells HP4.out
  have f2 := fz_blk HX4.out 2; have f3 := fz_blk HX4.out 3; have f4 := fz_blk HX4.out 4; have f5 := fz_blk HX4.out 5; have f6 := fz_blk HX4.out 6; have f7 := fz_blk HX4.out 7; have f8 := fz_blk HX4.out 8; have f9 := fz_blk HX4.out 9; have f10 := fz_blk HX4.out 10; have f11 := fz_blk HX4.out 11; have f12 := fz_blk HX4.out 12
  have f13 := fz_blk HX4.out 13; have f14 := fz_blk HX4.out 14; have f15 := fz_blk HX4.out 15; have f16 := fz_blk HX4.out 16; have f17 := fz_blk HX4.out 17; have f18 := fz_blk HX4.out 18; have f19 := fz_blk HX4.out 19
  dsimp only at c15
  go_upto_region 11 with fail
  have HX5 := Lib.hid (rte_done HX4.out true)
  have hon : Only (· = w.heap.size) w4 (w4.setCell ⟨w.heap.size, 16, none⟩ (.bool true)) := only_setCell w4 ⟨w.heap.size, 16, none⟩ (.bool true)
  have HP5 := Lib.hid ((hon.block _ (lt_of_some HP4.out) (by show ¬ w.heap.size + 1 = w.heap.size; omega)).trans HP4.out)
  have HR5 := Lib.hid ((hon.block _ (lt_of_some HR4.out) (by show ¬ w.heap.size + 1 + 1 = w.heap.size; omega)).trans HR4.out)
  have HB5 := Lib.hid (hon.below HB4.out (fun q hq => by have hq : q = w.heap.size := hq; omega) HB4.out.size)
  clear hon
  go_upto_region 12 with fail
  change Code.wp _ _ _ _ (w4.setCell ⟨w.heap.size, 16, none⟩ (.bool true))
  generalize (w4.setCell ⟨w.heap.size, 16, none⟩ (.bool true)) = w5 at *
  clear c0 c1 c13 c14 c15 c16 clt c2 c3 c4 c5 c6 c7 c8 c9 c10 c11 c12 c17 c18 c19 q0 q1 q2 q3 q4 qlt q5 q6 q7 q8 q9 q10 q11 q12 q13 q14 q15 f2 f3 f4 f5 f6 f7 f8 f9 f10 f11 f12 f13 f14 f15 f16 f17 f18 f19
  obtain ⟨⟨c0, c1, c13, c14, c15, c16, clt⟩, ⟨c2, c3, c4, c5, c6, c7, c8, c9, c10, c11, c12⟩, c17, c18, c19⟩ := rte_cells HX5.out
  obtain ⟨⟨q0, q1, q2, q3, q4, qlt⟩, q5, q6, q7, q8, q9, q10, q11, q12, q13, q14, q15⟩ := rep_cells HP5.out
  have f2 := fz_blk HX5.out 2; have f3 := fz_blk HX5.out 3; have f4 := fz_blk HX5.out 4; have f5 := fz_blk HX5.out 5; have f6 := fz_blk HX5.out 6; have f7 := fz_blk HX5.out 7; have f8 := fz_blk HX5.out 8; have f9 := fz_blk HX5.out 9; have f10 := fz_blk HX5.out 10; have f11 := fz_blk HX5.out 11; have f12 := fz_blk HX5.out 12
  have f13 := fz_blk HX5.out 13; have f14 := fz_blk HX5.out 14; have f15 := fz_blk HX5.out 15; have f16 := fz_blk HX5.out 16; have f17 := fz_blk HX5.out 17; have f18 := fz_blk HX5.out 18; have f19 := fz_blk HX5.out 19
  have HX6 := Lib.hid (rte_fetch HX5.out false)
  have hon : Only (· = w.heap.size) w5 (w5.setCell ⟨w.heap.size, 13, none⟩ (.bool false)) := only_setCell w5 ⟨w.heap.size, 13, none⟩ (.bool false)
  have HP6 := Lib.hid ((hon.block _ (lt_of_some HP5.out) (by show ¬ w.heap.size + 1 = w.heap.size; omega)).trans HP5.out)
  have HR6 := Lib.hid ((hon.block _ (lt_of_some HR5.out) (by show ¬ w.heap.size + 1 + 1 = w.heap.size; omega)).trans HR5.out)
  have HB6 := Lib.hid (hon.below HB5.out (fun q hq => by have hq : q = w.heap.size := hq; omega) HB5.out.size)
  clear hon
  go_upto_region 13 with fail
  change Code.wp _ _ _ _ (w5.setCell ⟨w.heap.size, 13, none⟩ (.bool false))
  generalize (w5.setCell ⟨w.heap.size, 13, none⟩ (.bool false)) = w6 at *
  clear c0 c1 c13 c14 c15 c16 clt c2 c3 c4 c5 c6 c7 c8 c9 c10 c11 c12 c17 c18 c19 q0 q1 q2 q3 q4 qlt q5 q6 q7 q8 q9 q10 q11 q12 q13 q14 q15 f2 f3 f4 f5 f6 f7 f8 f9 f10 f11 f12 f13 f14 f15 f16 f17 f18 f19
  obtain ⟨⟨c0, c1, c13, c14, c15, c16, clt⟩, ⟨c2, c3, c4, c5, c6, c7, c8, c9, c10, c11, c12⟩, c17, c18, c19⟩ := rte_cells HX6.out
  obtain ⟨⟨q0, q1, q2, q3, q4, qlt⟩, q5, q6, q7, q8, q9, q10, q11, q12, q13, q14, q15⟩ := rep_cells HP6.out
  have f2 := fz_blk HX6.out 2; have f3 := fz_blk HX6.out 3; have f4 := fz_blk HX6.out 4; have f5 := fz_blk HX6.out 5; have f6 := fz_blk HX6.out 6; have f7 := fz_blk HX6.out 7; have f8 := fz_blk HX6.out 8; have f9 := fz_blk HX6.out 9; have f10 := fz_blk HX6.out 10; have f11 := fz_blk HX6.out 11; have f12 := fz_blk HX6.out 12
  have f13 := fz_blk HX6.out 13; have f14 := fz_blk HX6.out 14; have f15 := fz_blk HX6.out 15; have f16 := fz_blk HX6.out 16; have f17 := fz_blk HX6.out 17; have f18 := fz_blk HX6.out 18; have f19 := fz_blk HX6.out 19
  have HX7 := Lib.hid (rte_res HX6.out 181 0 nilV)
  have hon : Only (· = w.heap.size) w6 (((w6.setCell ⟨w.heap.size, 17, none⟩ (.int .i64 181)).setCell ⟨w.heap.size, 18, none⟩ (.int .i64 0)).setCell ⟨w.heap.size, 19, none⟩ nilV) := res_only3 w6 w.heap.size _ _ _
  have HP7 := Lib.hid ((hon.block _ (lt_of_some HP6.out) (by show ¬ w.heap.size + 1 = w.heap.size; omega)).trans HP6.out)
  have HR7 := Lib.hid ((hon.block _ (lt_of_some HR6.out) (by show ¬ w.heap.size + 1 + 1 = w.heap.size; omega)).trans HR6.out)
  have HB7 := Lib.hid (hon.below HB6.out (fun q hq => by have hq : q = w.heap.size := hq; omega) HB6.out.size)
  clear hon
  go_upto_region 14 with fail
  change Code.wp _ _ _ _ (((w6.setCell ⟨w.heap.size, 17, none⟩ (.int .i64 181)).setCell ⟨w.heap.size, 18, none⟩ (.int .i64 0)).setCell ⟨w.heap.size, 19, none⟩ nilV)
  generalize (((w6.setCell ⟨w.heap.size, 17, none⟩ (.int .i64 181)).setCell ⟨w.heap.size, 18, none⟩ (.int .i64 0)).setCell ⟨w.heap.size, 19, none⟩ nilV) = w7 at *
  clear c0 c1 c13 c14 c15 c16 clt c2 c3 c4 c5 c6 c7 c8 c9 c10 c11 c12 c17 c18 c19 q0 q1 q2 q3 q4 qlt q5 q6 q7 q8 q9 q10 q11 q12 q13 q14 q15 f2 f3 f4 f5 f6 f7 f8 f9 f10 f11 f12 f13 f14 f15 f16 f17 f18 f19
  obtain ⟨⟨c0, c1, c13, c14, c15, c16, clt⟩, ⟨c2, c3, c4, c5, c6, c7, c8, c9, c10, c11, c12⟩, c17, c18, c19⟩ := rte_cells HX7.out
  obtain ⟨⟨q0, q1, q2, q3, q4, qlt⟩, q5, q6, q7, q8, q9, q10, q11, q12, q13, q14, q15⟩ := rep_cells HP7.out
  have f2 := fz_blk HX7.out 2; have f3 := fz_blk HX7.out 3; have f4 := fz_blk HX7.out 4; have f5 := fz_blk HX7.out 5; have f6 := fz_blk HX7.out 6; have f7 := fz_blk HX7.out 7; have f8 := fz_blk HX7.out 8; have f9 := fz_blk HX7.out 9; have f10 := fz_blk HX7.out 10; have f11 := fz_blk HX7.out 11; have f12 := fz_blk HX7.out 12
  have f13 := fz_blk HX7.out 13; have f14 := fz_blk HX7.out 14; have f15 := fz_blk HX7.out 15; have f16 := fz_blk HX7.out 16; have f17 := fz_blk HX7.out 17; have f18 := fz_blk HX7.out 18; have f19 := fz_blk HX7.out 19
  refine wp_region_lit ?_
  refine wpList_load39 rfl (.tmp 2) rfl w.heap.size rfl HX7.out ?_
  simp only [Act.put, List.setIfInBounds_toArray, List.set_cons_zero, List.set_cons_succ]
  refine wpList_store39 rfl (.tmp 4) (.tmp 56) rfl (w.heap.size + 1 + 1) rfl (r := { R with left := 0, done := true, fetch := false, err := 181, time := 0 }) (v := (.slice A2 R.map.sp.length c2')) (j := nilV) rfl rfl rfl HR7.out ?_
  intro w19 h19 ho19
  simp only [Act.put, List.setIfInBounds_toArray, List.set_cons_zero, List.set_cons_succ]
  go_wp2
  refine bodyPost_ret (results39_one rfl _ _ (w.heap.size + 1 + 1) rfl h19) rfl ?_
  rw [HRt.out]
  exact ⟨⟨A2, c2', rfl, HI2.out⟩, ho19.below HB7.out (fun q hq => by omega) HB7.out.size⟩
set_option maxRecDepth 100000 in
set_option maxHeartbeats 1000000 in
theorem rheard_c (w : World) (A B : Option Addr) (cap bc : Nat) (r : Rte) (p : Rep) (J pj : Value) (hJ : J.oneCell' = true) (hpj : pj.oneCell' = true) (hn : r.name.size ≤ 9223372036854775807) (hA : MapIn w A cap r.map) (hB : MapIn w B bc p.map) (hv : RteOk r) (hd : r.done = false) (k1 : p.kind = 2) (k2 : r.fetch = false) (k3 : p.err = 171) (k5 : ¬ r.left = 1) :
    Calls Try.prog 34 #[r.val (.slice A r.map.sp.length cap) J, p.val pj (.slice B p.map.sp.length bc)] w fun e w' => (∃ A' cap', e = .returned ({ turned r p with left := r.left - 1 }.val (.slice A' (turned r p).map.sp.length cap') J) ∧ (A' = A ∧ cap' = cap ∧ (turned r p).map = r.map ∨ A' = B ∧ cap' = bc ∧ (turned r p).map = p.map)) ∧ Below w.heap.size w w' := by
  have Hd := Lib.hid hd; clear hd
  have hl0 : ¬ r.left = 0 := fun h => by have := hv.2.2.2.2.2.2.1 h; rw [Hd.out] at this; cases this
  have K1 := Lib.hid k1; have K2 := Lib.hid k2; have K3 := Lib.hid k3; clear k1 k2 k3
  have hC := fun w h => rRteCheck_any w A cap J r h hn
  rw [tr_true hv] at hC
  have HC := Lib.hid hC; have HI := Lib.hid hA; have HIB := Lib.hid hB
  clear hC hA hB
  go_enter Try.func34, Try.ntmps34
  go_upto_region 1 with fail
  have hX0 : (((w.alloc (r.blk (.slice A r.map.sp.length cap) J)).alloc (p.blk pj (.slice B p.map.sp.length bc))).alloc (zeroR.blk nilV nilV)).heap[w.heap.size]? = some (r.blk (.slice A r.map.sp.length cap) J) := (Below.heap_alloc _ _ _ (by simp; omega)).trans ((Below.heap_alloc _ _ _ (by simp)).trans (heap_alloc_new w _))
  have hR0 : (((w.alloc (r.blk (.slice A r.map.sp.length cap) J)).alloc (p.blk pj (.slice B p.map.sp.length bc))).alloc (zeroR.blk nilV nilV)).heap[w.heap.size + 1 + 1]? = some (zeroR.blk nilV nilV) := by simpa using heap_alloc_new ((w.alloc (r.blk (.slice A r.map.sp.length cap) J)).alloc (p.blk pj (.slice B p.map.sp.length bc))) (zeroR.blk nilV nilV)
  have hP0 : (((w.alloc (r.blk (.slice A r.map.sp.length cap) J)).alloc (p.blk pj (.slice B p.map.sp.length bc))).alloc (zeroR.blk nilV nilV)).heap[w.heap.size + 1]? = some (p.blk pj (.slice B p.map.sp.length bc)) := (Below.heap_alloc _ _ _ (by simp)).trans (heap_second _ _ _)
  have hB0 : Below w.heap.size w (((w.alloc (r.blk (.slice A r.map.sp.length cap) J)).alloc (p.blk pj (.slice B p.map.sp.length bc))).alloc (zeroR.blk nilV nilV)) := al3 _ _ _
  change Code.wp _ _ _ _ (((w.alloc (r.blk (.slice A r.map.sp.length cap) J)).alloc (p.blk pj (.slice B p.map.sp.length bc))).alloc (zeroR.blk nilV nilV))
  generalize (((w.alloc (r.blk (.slice A r.map.sp.length cap) J)).alloc (p.blk pj (.slice B p.map.sp.length bc))).alloc (zeroR.blk nilV nilV)) = w0 at *
  have HX0 := Lib.hid hX0; have HP0 := Lib.hid hP0; have HR0 := Lib.hid hR0; have HB0 := Lib.hid hB0
  clear hX0 hP0 hR0 hB0
  refine wp_region_lit ?_
  refine wpList_load39 rfl (.tmp 2) rfl w.heap.size rfl HX0.out ?_
  simp only [Act.put, List.setIfInBounds_toArray, List.set_cons_zero, List.set_cons_succ]
  refine wpList_step (fun K hK => ?_)
  go_simp
  go_at_call 27
  refine (HC.out _ (HI.out.below HB0.out)).mono ?_
  rintro e w1 ⟨rfl, hb1⟩
  refine hK _ _ ?_
  clear hK K
  have HX1 := Lib.hid (blk_below hb1 (lt_of_some HX0.out) HX0.out); have HP1 := Lib.hid (blk_below hb1 (lt_of_some HP0.out) HP0.out); have HR1 := Lib.hid (blk_below hb1 (lt_of_some HR0.out) HR0.out)
  have HB1 := Lib.hid (HB0.out.trans (hb1.mono HB0.out.size))
  clear hb1
  obtain ⟨⟨c0, c1, c13, c14, c15, c16, clt⟩, ⟨c2, c3, c4, c5, c6, c7, c8, c9, c10, c11, c12⟩, c17, c18, c19⟩ := rte_cells HX1.out
  obtain ⟨⟨q0, q1, q2, q3, q4, qlt⟩, q5, q6, q7, q8, q9, q10, q11, q12, q13, q14, q15⟩ := rep_cells HP1.out
  have f2 := fz_blk HX1.out 2; have f3 := fz_blk HX1.out 3; have f4 := fz_blk HX1.out 4; have f5 := fz_blk HX1.out 5; have f6 := fz_blk HX1.out 6; have f7 := fz_blk HX1.out 7; have f8 := fz_blk HX1.out 8; have f9 := fz_blk HX1.out 9; have f10 := fz_blk HX1.out 10; have f11 := fz_blk HX1.out 11; have f12 := fz_blk HX1.out 12
  have f13 := fz_blk HX1.out 13; have f14 := fz_blk HX1.out 14; have f15 := fz_blk HX1.out 15; have f16 := fz_blk HX1.out 16; have f17 := fz_blk HX1.out 17; have f18 := fz_blk HX1.out 18; have f19 := fz_blk HX1.out 19
  rw [Hd.out] at c16
  rw [K1.out] at q0
  rw [K2.out] at c13
  rw [K3.out] at q2
  go_upto_region 8 with fail
  clear c0 c1 c13 c14 c15 c16 clt c2 c3 c4 c5 c6 c7 c8 c9 c10 c11 c12 c17 c18 c19 q0 q1 q2 q3 q4 qlt q5 q6 q7 q8 q9 q10 q11 q12 q13 q14 q15 f2 f3 f4 f5 f6 f7 f8 f9 f10 f11 f12 f13 f14 f15 f16 f17 f18 f19
  have ht := turn_any w1 A B cap bc r p J pj hJ hv hn (HIB.out.below HB1.out)
  have hk := turned_kept r p
  obtain ⟨R, hR⟩ : ∃ R, turned r p = R := ⟨_, rfl⟩
  rw [hR] at ht hk
  have HT := Lib.hid ht; have HRt := Lib.hid hR
  obtain ⟨hl, _⟩ := hk
  have Hl := Lib.hid hl
  have hv5 := hv.2.2.2.2.1; have hv6 := hv.2.2.2.2.2.1; have hv7 := hv.2.2.2.2.2.2.1
  clear ht hl hR hv
  refine wp_region_lit ?_
  refine wpList_load39 rfl (.tmp 2) rfl w.heap.size rfl HX1.out ?_
  simp only [Act.put, List.setIfInBounds_toArray, List.set_cons_zero, List.set_cons_succ]
  refine wpList_load59 rfl (.tmp 3) rfl (w.heap.size + 1) rfl HP1.out ?_
  simp only [Act.put, List.setIfInBounds_toArray, List.set_cons_zero, List.set_cons_succ]
  refine wpList_step (fun K hK => ?_)
  go_simp
  go_at_call 59
  refine HT.out.mono ?_
  rintro e w2 ⟨A2, c2', rfl, hI2, hb2⟩
  refine hK _ _ ?_
  clear hK K
  have HX2 := Lib.hid (blk_below hb2 (lt_of_some HX1.out) HX1.out); have HP2 := Lib.hid (blk_below hb2 (lt_of_some HP1.out) HP1.out); have HR2 := Lib.hid (blk_below hb2 (lt_of_some HR1.out) HR1.out)
  have HB2 := Lib.hid (HB1.out.trans (hb2.mono HB1.out.size))
  have HI2 := Lib.hid hI2
  clear hb2 hI2
  refine wpList_store39 rfl (.tmp 2) (.tmp 44) rfl w.heap.size rfl (r := R) (v := .slice A2 R.map.sp.length c2') (j := J) rfl rfl hJ HX2.out ?_
  intro w3 hX3 ho3
  simp only [Act.put, List.setIfInBounds_toArray, List.set_cons_zero, List.set_cons_succ]
  have HX3 := Lib.hid hX3
  have HP3 := Lib.hid ((ho3.block _ (lt_of_some HP2.out) (by show ¬ w.heap.size + 1 = w.heap.size; omega)).trans HP2.out)
  have HR3 := Lib.hid ((ho3.block _ (lt_of_some HR2.out) (by show ¬ w.heap.size + 1 + 1 = w.heap.size; omega)).trans HR2.out)
  have HB3 := Lib.hid (ho3.below HB2.out (fun q hq => by have hq : q = w.heap.size := hq; omega) HB2.out.size)
  clear ho3 hX3
  obtain ⟨⟨c0, c1, c13, c14, c15, c16, clt⟩, ⟨c2, c3, c4, c5, c6, c7, c8, c9, c10, c11, c12⟩, c17, c18, c19⟩ := rte_cells HX3.out
  obtain ⟨⟨q0, q1, q2, q3, q4, qlt⟩, q5, q6, q7, q8, q9, q10, q11, q12, q13, q14, q15⟩ := rep_cells HP3.out
  have f2 := fz_blk HX3.out 2; have f3 := fz_blk HX3.out 3; have f4 := fz_blk HX3.out 4; have f5 := fz_blk HX3.out 5; have f6 := fz_blk HX3.out 6; have f7 := fz_blk HX3.out 7; have f8 := fz_blk HX3.out 8; have f9 := fz_blk HX3.out 9; have f10 := fz_blk HX3.out 10; have f11 := fz_blk HX3.out 11; have f12 := fz_blk HX3.out 12
  have f13 := fz_blk HX3.out 13; have f14 := fz_blk HX3.out 14; have f15 := fz_blk HX3.out 15; have f16 := fz_blk HX3.out 16; have f17 := fz_blk HX3.out 17; have f18 := fz_blk HX3.out 18; have f19 := fz_blk HX3.out 19
  have h1 : IntKind.i64.wrap (R.left - 1) = R.left - 1 := IntWalk.i64_in _ (by have := Hl.out; omega)
  have h3 : ¬ R.left - 1 = 0 := by have := Hl.out; omega
  have h2 : (R.left - 1 == 0) = false := by simpa using h3
  clear h3
  go_upto_region 9 with fail
  have HX4 := Lib.hid (rte_left HX3.out (R.left - 1))
  have hon : Only (· = w.heap.size) w3 (w3.setCell ⟨w.heap.size, 15, none⟩ (.int .i64 (R.left - 1))) := only_setCell w3 ⟨w.heap.size, 15, none⟩ (.int .i64 (R.left - 1))
  have HP4 := Lib.hid ((hon.block _ (lt_of_some HP3.out) (by show ¬ w.heap.size + 1 = w.heap.size; omega)).trans HP3.out)
  have HR4 := Lib.hid ((hon.block _ (lt_of_some HR3.out) (by show ¬ w.heap.size + 1 + 1 = w.heap.size; omega)).trans HR3.out)
  have HB4 := Lib.hid (hon.below HB3.out (fun q hq => by have hq : q = w.heap.size := hq; omega) HB3.out.size)
  clear hon
  go_upto_region 10 with fail
  change Code.wp _ _ _ _ (w3.setCell ⟨w.heap.size, 15, none⟩ (.int .i64 (R.left - 1)))
  generalize (w3.setCell ⟨w.heap.size, 15, none⟩ (.int .i64 (R.left - 1))) = w4 at *
  clear c0 c1 c13 c14 c15 c16 clt c2 c3 c4 c5 c6 c7 c8 c9 c10 c11 c12 c17 c18 c19 q0 q1 q2 q3 q4 qlt q5 q6 q7 q8 q9 q10 q11 q12 q13 q14 q15 f2 f3 f4 f5 f6 f7 f8 f9 f10 f11 f12 f13 f14 f15 f16 f17 f18 f19
  obtain ⟨⟨c0, c1, c13, c14, c15, c16, clt⟩, ⟨c2, c3, c4, c5, c6, c7, c8, c9, c10, c11, c12⟩, c17, c18, c19⟩ := rte_cells HX4.out
  obtain ⟨⟨q0, q1, q2, q3, q4, qlt⟩, q5, q6, q7, q8, q9, q10, q11, q12, q13, q14, q15⟩ := rep_cells HP4.out
  have f2 := fz_blk HX4.out 2; have f3 := fz_blk HX4.out 3; have f4 := fz_blk HX4.out 4; have f5 := fz_blk HX4.out 5; have f6 := fz_blk HX4.out 6; have f7 := fz_blk HX4.out 7; have f8 := fz_blk HX4.out 8; have f9 := fz_blk HX4.out 9; have f10 := fz_blk HX4.out 10; have f11 := fz_blk HX4.out 11; have f12 := fz_blk HX4.out 12
  have f13 := fz_blk HX4.out 13; have f14 := fz_blk HX4.out 14; have f15 := fz_blk HX4.out 15; have f16 := fz_blk HX4.out 16; have f17 := fz_blk HX4.out 17; have f18 := fz_blk HX4.out 18; have f19 := fz_blk HX4.out 19
  go_upto_region 14 with fail
  refine wp_region_lit ?_
  refine wpList_load39 rfl (.tmp 2) rfl w.heap.size rfl HX4.out ?_
  simp only [Act.put, List.setIfInBounds_toArray, List.set_cons_zero, List.set_cons_succ]
  refine wpList_store39 rfl (.tmp 4) (.tmp 56) rfl (w.heap.size + 1 + 1) rfl (r := { R with left := R.left - 1 }) (v := (.slice A2 R.map.sp.length c2')) (j := J) rfl rfl hJ HR4.out ?_
  intro w19 h19 ho19
  simp only [Act.put, List.setIfInBounds_toArray, List.set_cons_zero, List.set_cons_succ]
  go_wp2
  refine bodyPost_ret (results39_one rfl _ _ (w.heap.size + 1 + 1) rfl h19) rfl ?_
  rw [HRt.out]
  exact ⟨⟨A2, c2', by rw [Hl.out]; rfl, HI2.out⟩, ho19.below HB4.out (fun q hq => by omega) HB4.out.size⟩
set_option maxRecDepth 100000 in
set_option maxHeartbeats 1000000 in
theorem rheard_c_last (w : World) (A B : Option Addr) (cap bc : Nat) (r : Rte) (p : Rep) (J pj : Value) (hJ : J.oneCell' = true) (hpj : pj.oneCell' = true) (hn : r.name.size ≤ 9223372036854775807) (hA : MapIn w A cap r.map) (hB : MapIn w B bc p.map) (hv : RteOk r) (hd : r.done = false) (k1 : p.kind = 2) (k2 : r.fetch = false) (k3 : p.err = 171) (k5 : r.left = 1) :
    Calls Try.prog 34 #[r.val (.slice A r.map.sp.length cap) J, p.val pj (.slice B p.map.sp.length bc)] w fun e w' => (∃ A' cap', e = .returned ({ turned r p with left := 0, done := true, fetch := false, err := 181, time := 0 }.val (.slice A' (turned r p).map.sp.length cap') nilV) ∧ (A' = A ∧ cap' = cap ∧ (turned r p).map = r.map ∨ A' = B ∧ cap' = bc ∧ (turned r p).map = p.map)) ∧ Below w.heap.size w w' := by
  have Hd := Lib.hid hd; clear hd
  have K5 := Lib.hid k5; clear k5
  have K1 := Lib.hid k1; have K2 := Lib.hid k2; have K3 := Lib.hid k3; clear k1 k2 k3
  have hC := fun w h => rRteCheck_any w A cap J r h hn
  rw [tr_true hv] at hC
  have HC := Lib.hid hC; have HI := Lib.hid hA; have HIB := Lib.hid hB
  clear hC hA hB
  go_enter Try.func34, Try.ntmps34
  go_upto_region 1 with fail
  have hX0 : (((w.alloc (r.blk (.slice A r.map.sp.length cap) J)).alloc (p.blk pj (.slice B p.map.sp.length bc))).alloc (zeroR.blk nilV nilV)).heap[w.heap.size]? = some (r.blk (.slice A r.map.sp.length cap) J) := (Below.heap_alloc _ _ _ (by simp; omega)).trans ((Below.heap_alloc _ _ _ (by simp)).trans (heap_alloc_new w _))
  have hR0 : (((w.alloc (r.blk (.slice A r.map.sp.length cap) J)).alloc (p.blk pj (.slice B p.map.sp.length bc))).alloc (zeroR.blk nilV nilV)).heap[w.heap.size + 1 + 1]? = some (zeroR.blk nilV nilV) := by simpa using heap_alloc_new ((w.alloc (r.blk (.slice A r.map.sp.length cap) J)).alloc (p.blk pj (.slice B p.map.sp.length bc))) (zeroR.blk nilV nilV)
  have hP0 : (((w.alloc (r.blk (.slice A r.map.sp.length cap) J)).alloc (p.blk pj (.slice B p.map.sp.length bc))).alloc (zeroR.blk nilV nilV)).heap[w.heap.size + 1]? = some (p.blk pj (.slice B p.map.sp.length bc)) := (Below.heap_alloc _ _ _ (by simp)).trans (heap_second _ _ _)
  have hB0 : Below w.heap.size w (((w.alloc (r.blk (.slice A r.map.sp.length cap) J)).alloc (p.blk pj (.slice B p.map.sp.length bc))).alloc (zeroR.blk nilV nilV)) := al3 _ _ _
  change Code.wp _ _ _ _ (((w.alloc (r.blk (.slice A r.map.sp.length cap) J)).alloc (p.blk pj (.slice B p.map.sp.length bc))).alloc (zeroR.blk nilV nilV))
  generalize (((w.alloc (r.blk (.slice A r.map.sp.length cap) J)).alloc (p.blk pj (.slice B p.map.sp.length bc))).alloc (zeroR.blk nilV nilV)) = w0 at *
  have HX0 := Lib.hid hX0; have HP0 := Lib.hid hP0; have HR0 := Lib.hid hR0; have HB0 := Lib.hid hB0
  clear hX0 hP0 hR0 hB0
  refine wp_region_lit ?_
  refine wpList_load39 rfl (.tmp 2) rfl w.heap.size rfl HX0.out ?_
  simp only [Act.put, List.setIfInBounds_toArray, List.set_cons_zero, List.set_cons_succ]
  refine wpList_step (fun K hK => ?_)
  go_simp
  go_at_call 27
  refine (HC.out _ (HI.out.below HB0.out)).mono ?_
  rintro e w1 ⟨rfl, hb1⟩
  refine hK _ _ ?_
  clear hK K
  have HX1 := Lib.hid (blk_below hb1 (lt_of_some HX0.out) HX0.out); have HP1 := Lib.hid (blk_below hb1 (lt_of_some HP0.out) HP0.out); have HR1 := Lib.hid (blk_below hb1 (lt_of_some HR0.out) HR0.out)
  have HB1 := Lib.hid (HB0.out.trans (hb1.mono HB0.out.size))
  clear hb1
  obtain ⟨⟨c0, c1, c13, c14, c15, c16, clt⟩, ⟨c2, c3, c4, c5, c6, c7, c8, c9, c10, c11, c12⟩, c17, c18, c19⟩ := rte_cells HX1.out
  obtain ⟨⟨q0, q1, q2, q3, q4, qlt⟩, q5, q6, q7, q8, q9, q10, q11, q12, q13, q14, q15⟩ := rep_cells HP1.out
  have f2 := fz_blk HX1.out 2; have f3 := fz_blk HX1.out 3; have f4 := fz_blk HX1.out 4; have f5 := fz_blk HX1.out 5; have f6 := fz_blk HX1.out 6; have f7 := fz_blk HX1.out 7; have f8 := fz_blk HX1.out 8; have f9 := fz_blk HX1.out 9; have f10 := fz_blk HX1.out 10; have f11 := fz_blk HX1.out 11; have f12 := fz_blk HX1.out 12
  have f13 := fz_blk HX1.out 13; have f14 := fz_blk HX1.out 14; have f15 := fz_blk HX1.out 15; have f16 := fz_blk HX1.out 16; have f17 := fz_blk HX1.out 17; have f18 := fz_blk HX1.out 18; have f19 := fz_blk HX1.out 19
  rw [Hd.out] at c16
  rw [K1.out] at q0
  rw [K2.out] at c13
  rw [K3.out] at q2
  go_upto_region 8 with fail
  clear c0 c1 c13 c14 c15 c16 clt c2 c3 c4 c5 c6 c7 c8 c9 c10 c11 c12 c17 c18 c19 q0 q1 q2 q3 q4 qlt q5 q6 q7 q8 q9 q10 q11 q12 q13 q14 q15 f2 f3 f4 f5 f6 f7 f8 f9 f10 f11 f12 f13 f14 f15 f16 f17 f18 f19
  have ht := turn_any w1 A B cap bc r p J pj hJ hv hn (HIB.out.below HB1.out)
  have hk := turned_kept r p
  obtain ⟨R, hR⟩ : ∃ R, turned r p = R := ⟨_, rfl⟩
  rw [hR] at ht hk
  have HT := Lib.hid ht; have HRt := Lib.hid hR
  obtain ⟨hl, _⟩ := hk
  have Hl := Lib.hid hl
  have hv5 := hv.2.2.2.2.1; have hv6 := hv.2.2.2.2.2.1; have hv7 := hv.2.2.2.2.2.2.1
  clear ht hl hR hv
  refine wp_region_lit ?_
  refine wpList_load39 rfl (.tmp 2) rfl w.heap.size rfl HX1.out ?_
  simp only [Act.put, List.setIfInBounds_toArray, List.set_cons_zero, List.set_cons_succ]
  refine wpList_load59 rfl (.tmp 3) rfl (w.heap.size + 1) rfl HP1.out ?_
  simp only [Act.put, List.setIfInBounds_toArray, List.set_cons_zero, List.set_cons_succ]
  refine wpList_step (fun K hK => ?_)
  go_simp
  go_at_call 59
  refine HT.out.mono ?_
  rintro e w2 ⟨A2, c2', rfl, hI2, hb2⟩
  refine hK _ _ ?_
  clear hK K
  have HX2 := Lib.hid (blk_below hb2 (lt_of_some HX1.out) HX1.out); have HP2 := Lib.hid (blk_below hb2 (lt_of_some HP1.out) HP1.out); have HR2 := Lib.hid (blk_below hb2 (lt_of_some HR1.out) HR1.out)
  have HB2 := Lib.hid (HB1.out.trans (hb2.mono HB1.out.size))
  have HI2 := Lib.hid hI2
  clear hb2 hI2
  refine wpList_store39 rfl (.tmp 2) (.tmp 44) rfl w.heap.size rfl (r := R) (v := .slice A2 R.map.sp.length c2') (j := J) rfl rfl hJ HX2.out ?_
  intro w3 hX3 ho3
  simp only [Act.put, List.setIfInBounds_toArray, List.set_cons_zero, List.set_cons_succ]
  have HX3 := Lib.hid hX3
  have HP3 := Lib.hid ((ho3.block _ (lt_of_some HP2.out) (by show ¬ w.heap.size + 1 = w.heap.size; omega)).trans HP2.out)
  have HR3 := Lib.hid ((ho3.block _ (lt_of_some HR2.out) (by show ¬ w.heap.size + 1 + 1 = w.heap.size; omega)).trans HR2.out)
  have HB3 := Lib.hid (ho3.below HB2.out (fun q hq => by have hq : q = w.heap.size := hq; omega) HB2.out.size)
  clear ho3 hX3
  obtain ⟨⟨c0, c1, c13, c14, c15, c16, clt⟩, ⟨c2, c3, c4, c5, c6, c7, c8, c9, c10, c11, c12⟩, c17, c18, c19⟩ := rte_cells HX3.out
  obtain ⟨⟨q0, q1, q2, q3, q4, qlt⟩, q5, q6, q7, q8, q9, q10, q11, q12, q13, q14, q15⟩ := rep_cells HP3.out
  have f2 := fz_blk HX3.out 2; have f3 := fz_blk HX3.out 3; have f4 := fz_blk HX3.out 4; have f5 := fz_blk HX3.out 5; have f6 := fz_blk HX3.out 6; have f7 := fz_blk HX3.out 7; have f8 := fz_blk HX3.out 8; have f9 := fz_blk HX3.out 9; have f10 := fz_blk HX3.out 10; have f11 := fz_blk HX3.out 11; have f12 := fz_blk HX3.out 12
  have f13 := fz_blk HX3.out 13; have f14 := fz_blk HX3.out 14; have f15 := fz_blk HX3.out 15; have f16 := fz_blk HX3.out 16; have f17 := fz_blk HX3.out 17; have f18 := fz_blk HX3.out 18; have f19 := fz_blk HX3.out 19
  rw [Hl.out, K5.out] at c15
  go_upto_region 9 with fail
  have HX4 := Lib.hid (rte_left HX3.out 0)
  have hon : Only (· = w.heap.size) w3 (w3.setCell ⟨w.heap.size, 15, none⟩ (.int .i64 0)) := only_setCell w3 ⟨w.heap.size, 15, none⟩ (.int .i64 0)
  have HP4 := Lib.hid ((hon.block _ (lt_of_some HP3.out) (by show ¬ w.heap.size + 1 = w.heap.size; omega)).trans HP3.out)
  have HR4 := Lib.hid ((hon.block _ (lt_of_some HR3.out) (by show ¬ w.heap.size + 1 + 1 = w.heap.size; omega)).trans HR3.out)
  have HB4 := Lib.hid (hon.below HB3.out (fun q hq => by have hq : q = w.heap.size := hq; omega) HB3.out.size)
  clear hon
  go_upto_region 10 with fail
  change Code.wp _ _ _ _ (w3.setCell ⟨w.heap.size, 15, none⟩ (.int .i64 0))
  generalize (w3.setCell ⟨w.heap.size, 15, none⟩ (.int .i64 0)) = w4 at *
  clear c0 c1 c13 c14 c15 c16 clt c2 c3 c4 c5 c6 c7 c8 c9 c10 c11 c12 c17 c18 c19 q0 q1 q2 q3 q4 qlt q5 q6 q7 q8 q9 q10 q11 q12 q13 q14 q15 f2 f3 f4 f5 f6 f7 f8 f9 f10 f11 f12 f13 f14 f15 f16 f17 f18 f19
  obtain ⟨⟨c0, c1, c13, c14, c15, c16, clt⟩, ⟨c2, c3, c4, c5, c6, c7, c8, c9, c10, c11, c12⟩, c17, c18, c19⟩ := rte_cells HX4.out
  obtain ⟨⟨q0, q1, q2, q3, q4, qlt⟩, q5, q6, q7, q8, q9, q10, q11, q12, q13, q14, q15⟩ := rep_cells HP4.out
  have f2 := fz_blk HX4.out 2; have f3 := fz_blk HX4.out 3; have f4 := fz_blk HX4.out 4; have f5 := fz_blk HX4.out 5; have f6 := fz_blk HX4.out 6; have f7 := fz_blk HX4.out 7; have f8 := fz_blk HX4.out 8; have f9 := fz_blk HX4.out 9; have f10 := fz_blk HX4.out 10; have f11 := fz_blk HX4.out 11; have f12 := fz_blk HX4.out 12
  have f13 := fz_blk HX4.out 13; have f14 := fz_blk HX4.out 14; have f15 := fz_blk HX4.out 15; have f16 := fz_blk HX4.out 16; have f17 := fz_blk HX4.out 17; have f18 := fz_blk HX4.out 18; have f19 := fz_blk HX4.out 19
  dsimp only at c15
  go_upto_region 11 with fail
  have HX5 := Lib.hid (rte_done HX4.out true)
  have hon : Only (· = w.heap.size) w4 (w4.setCell ⟨w.heap.size, 16, none⟩ (.bool true)) := only_setCell w4 ⟨w.heap.size, 16, none⟩ (.bool true)
  have HP5 := Lib.hid ((hon.block _ (lt_of_some HP4.out) (by show ¬ w.heap.size + 1 = w.heap.size; omega)).trans HP4.out)
  have HR5 := Lib.hid ((hon.block _ (lt_of_some HR4.out) (by show ¬ w.heap.size + 1 + 1 = w.heap.size; omega)).trans HR4.out)
  have HB5 := Lib.hid (hon.below HB4.out (fun q hq => by have hq : q = w.heap.size := hq; omega) HB4.out.size)
  clear hon
  go_upto_region 12 with fail
  change Code.wp _ _ _ _ (w4.setCell ⟨w.heap.size, 16, none⟩ (.bool true))
  generalize (w4.setCell ⟨w.heap.size, 16, none⟩ (.bool true)) = w5 at *
  clear c0 c1 c13 c14 c15 c16 clt c2 c3 c4 c5 c6 c7 c8 c9 c10 c11 c12 c17 c18 c19 q0 q1 q2 q3 q4 qlt q5 q6 q7 q8 q9 q10 q11 q12 q13 q14 q15 f2 f3 f4 f5 f6 f7 f8 f9 f10 f11 f12 f13 f14 f15 f16 f17 f18 f19
  obtain ⟨⟨c0, c1, c13, c14, c15, c16, clt⟩, ⟨c2, c3, c4, c5, c6, c7, c8, c9, c10, c11, c12⟩, c17, c18, c19⟩ := rte_cells HX5.out
  obtain ⟨⟨q0, q1, q2, q3, q4, qlt⟩, q5, q6, q7, q8, q9, q10, q11, q12, q13, q14, q15⟩ := rep_cells HP5.out
  have f2 := fz_blk HX5.out 2; have f3 := fz_blk HX5.out 3; have f4 := fz_blk HX5.out 4; have f5 := fz_blk HX5.out 5; have f6 := fz_blk HX5.out 6; have f7 := fz_blk HX5.out 7; have f8 := fz_blk HX5.out 8; have f9 := fz_blk HX5.out 9; have f10 := fz_blk HX5.out 10; have f11 := fz_blk HX5.out 11; have f12 := fz_blk HX5.out 12
  have f13 := fz_blk HX5.out 13; have f14 := fz_blk HX5.out 14; have f15 := fz_blk HX5.out 15; have f16 := fz_blk HX5.out 16; have f17 := fz_blk HX5.out 17; have f18 := fz_blk HX5.out 18; have f19 := fz_blk HX5.out 19
  have HX6 := Lib.hid (rte_fetch HX5.out false)
  have hon : Only (· = w.heap.size) w5 (w5.setCell ⟨w.heap.size, 13, none⟩ (.bool false)) := only_setCell w5 ⟨w.heap.size, 13, none⟩ (.bool false)
  have HP6 := Lib.hid ((hon.block _ (lt_of_some HP5.out) (by show ¬ w.heap.size + 1 = w.heap.size; omega)).trans HP5.out)
  have HR6 := Lib.hid ((hon.block _ (lt_of_some HR5.out) (by show ¬ w.heap.size + 1 + 1 = w.heap.size; omega)).trans HR5.out)
  have HB6 := Lib.hid (hon.below HB5.out (fun q hq => by have hq : q = w.heap.size := hq; omega) HB5.out.size)
  clear hon
  go_upto_region 13 with fail
  change Code.wp _ _ _ _ (w5.setCell ⟨w.heap.size, 13, none⟩ (.bool false))
  generalize (w5.setCell ⟨w.heap.size, 13, none⟩ (.bool false)) = w6 at *
  clear c0 c1 c13 c14 c15 c16 clt c2 c3 c4 c5 c6 c7 c8 c9 c10 c11 c12 c17 c18 c19 q0 q1 q2 q3 q4 qlt q5 q6 q7 q8 q9 q10 q11 q12 q13 q14 q15 f2 f3 f4 f5 f6 f7 f8 f9 f10 f11 f12 f13 f14 f15 f16 f17 f18 f19
  obtain ⟨⟨c0, c1, c13, c14, c15, c16, clt⟩, ⟨c2, c3, c4, c5, c6, c7, c8, c9, c10, c11, c12⟩, c17, c18, c19⟩ := rte_cells HX6.out
  obtain ⟨⟨q0, q1, q2, q3, q4, qlt⟩, q5, q6, q7, q8, q9, q10, q11, q12, q13, q14, q15⟩ := rep_cells HP6.out
  have f2 := fz_blk HX6.out 2; have f3 := fz_blk HX6.out 3; have f4 := fz_blk HX6.out 4; have f5 := fz_blk HX6.out 5; have f6 := fz_blk HX6.out 6; have f7 := fz_blk HX6.out 7; have f8 := fz_blk HX6.out 8; have f9 := fz_blk HX6.out 9; have f10 := fz_blk HX6.out 10; have f11 := fz_blk HX6.out 11; have f12 := fz_blk HX6.out 12
  have f13 := fz_blk HX6.out 13; have f14 := fz_blk HX6.out 14; have f15 := fz_blk HX6.out 15; have f16 := fz_blk HX6.out 16; have f17 := fz_blk HX6.out 17; have f18 := fz_blk HX6.out 18; have f19 := fz_blk HX6.out 19
  have HX7 := Lib.hid (rte_res HX6.out 181 0 nilV)
  have hon : Only (· = w.heap.size) w6 (((w6.setCell ⟨w.heap.size, 17, none⟩ (.int .i64 181)).setCell ⟨w.heap.size, 18, none⟩ (.int .i64 0)).setCell ⟨w.heap.size, 19, none⟩ nilV) := res_only3 w6 w.heap.size _ _ _
  have HP7 := Lib.hid ((hon.block _ (lt_of_some HP6.out) (by show ¬ w.heap.size + 1 = w.heap.size; omega)).trans HP6.out)
  have HR7 := Lib.hid ((hon.block _ (lt_of_some HR6.out) (by show ¬ w.heap.size + 1 + 1 = w.heap.size; omega)).trans HR6.out)
  have HB7 := Lib.hid (hon.below HB6.out (fun q hq => by have hq : q = w.heap.size := hq; omega) HB6.out.size)
  clear hon
  go_upto_region 14 with fail
  change Code.wp _ _ _ _ (((w6.setCell ⟨w.heap.size, 17, none⟩ (.int .i64 181)).setCell ⟨w.heap.size, 18, none⟩ (.int .i64 0)).setCell ⟨w.heap.size, 19, none⟩ nilV)
  generalize (((w6.setCell ⟨w.heap.size, 17, none⟩ (.int .i64 181)).setCell ⟨w.heap.size, 18, none⟩ (.int .i64 0)).setCell ⟨w.heap.size, 19, none⟩ nilV) = w7 at *
  clear c0 c1 c13 c14 c15 c16 clt c2 c3 c4 c5 c6 c7 c8 c9 c10 c11 c12 c17 c18 c19 q0 q1 q2 q3 q4 qlt q5 q6 q7 q8 q9 q10 q11 q12 q13 q14 q15 f2 f3 f4 f5 f6 f7 f8 f9 f10 f11 f12 f13 f14 f15 f16 f17 f18 f19
  obtain ⟨⟨c0, c1, c13, c14, c15, c16, clt⟩, ⟨c2, c3, c4, c5, c6, c7, c8, c9, c10, c11, c12⟩, c17, c18, c19⟩ := rte_cells HX7.out
  obtain ⟨⟨q0, q1, q2, q3, q4, qlt⟩, q5, q6, q7, q8, q9, q10, q11, q12, q13, q14, q15⟩ := rep_cells HP7.out
  have f2 := fz_blk HX7.out 2; have f3 := fz_blk HX7.out 3; have f4 := fz_blk HX7.out 4; have f5 := fz_blk HX7.out 5; have f6 := fz_blk HX7.out 6; have f7 := fz_blk HX7.out 7; have f8 := fz_blk HX7.out 8; have f9 := fz_blk HX7.out 9; have f10 := fz_blk HX7.out 10; have f11 := fz_blk HX7.out 11; have f12 := fz_blk HX7.out 12
  have f13 := fz_blk HX7.out 13; have f14 := fz_blk HX7.out 14; have f15 := fz_blk HX7.out 15; have f16 := fz_blk HX7.out 16; have f17 := fz_blk HX7.out 17; have f18 := fz_blk HX7.out 18; have f19 := fz_blk HX7.out 19
  refine wp_region_lit ?_
  refine wpList_load39 rfl (.tmp 2) rfl w.heap.size rfl HX7.out ?_
  simp only [Act.put, List.setIfInBounds_toArray, List.set_cons_zero, List.set_cons_succ]
  refine wpList_store39 rfl (.tmp 4) (.tmp 56) rfl (w.heap.size + 1 + 1) rfl (r := { R with left := 0, done := true, fetch := false, err := 181, time := 0 }) (v := (.slice A2 R.map.sp.length c2')) (j := nilV) rfl rfl rfl HR7.out ?_
  intro w19 h19 ho19
  simp only [Act.put, List.setIfInBounds_toArray, List.set_cons_zero, List.set_cons_succ]
  go_wp2
  refine bodyPost_ret (results39_one rfl _ _ (w.heap.size + 1 + 1) rfl h19) rfl ?_
  rw [HRt.out]
  exact ⟨⟨A2, c2', rfl, HI2.out⟩, ho19.below HB7.out (fun q hq => by omega) HB7.out.size⟩
set_option maxRecDepth 100000 in
set_option maxHeartbeats 1000000 in
theorem rheard_d (w : World) (A B : Option Addr) (cap bc : Nat) (r : Rte) (p : Rep) (J pj : Value) (hJ : J.oneCell' = true) (hpj : pj.oneCell' = true) (hn : r.name.size ≤ 9223372036854775807) (hA : MapIn w A cap r.map) (hB : MapIn w B bc p.map) (hv : RteOk r) (hd : r.done = false) (k1 : p.kind = 2) (k2 : r.fetch = false) (k3 : p.err = 172) (k5 : ¬ r.left = 1) :
    Calls Try.prog 34 #[r.val (.slice A r.map.sp.length cap) J, p.val pj (.slice B p.map.sp.length bc)] w fun e w' => (∃ A' cap', e = .returned ({ turned r p with left := r.left - 1 }.val (.slice A' (turned r p).map.sp.length cap') J) ∧ (A' = A ∧ cap' = cap ∧ (turned r p).map = r.map ∨ A' = B ∧ cap' = bc ∧ (turned r p).map = p.map)) ∧ Below w.heap.size w w' := by
  have Hd := Lib.hid hd; clear hd
  have hl0 : ¬ r.left = 0 := fun h => by have := hv.2.2.2.2.2.2.1 h; rw [Hd.out] at this; cases this
  have K1 := Lib.hid k1; have K2 := Lib.hid k2; have K3 := Lib.hid k3; clear k1 k2 k3
  have hC := fun w h => rRteCheck_any w A cap J r h hn
  rw [tr_true hv] at hC
  have HC := Lib.hid hC; have HI := Lib.hid hA; have HIB := Lib.hid hB
  clear hC hA hB
  go_enter Try.func34, Try.ntmps34
  go_upto_region 1 with fail
  have hX0 : (((w.alloc (r.blk (.slice A r.map.sp.length cap) J)).alloc (p.blk pj (.slice B p.map.sp.length bc))).alloc (zeroR.blk nilV nilV)).heap[w.heap.size]? = some (r.blk (.slice A r.map.sp.length cap) J) := (Below.heap_alloc _ _ _ (by simp; omega)).trans ((Below.heap_alloc _ _ _ (by simp)).trans (heap_alloc_new w _))
  have hR0 : (((w.alloc (r.blk (.slice A r.map.sp.length cap) J)).alloc (p.blk pj (.slice B p.map.sp.length bc))).alloc (zeroR.blk nilV nilV)).heap[w.heap.size + 1 + 1]? = some (zeroR.blk nilV nilV) := by simpa using heap_alloc_new ((w.alloc (r.blk (.slice A r.map.sp.length cap) J)).alloc (p.blk pj (.slice B p.map.sp.length bc))) (zeroR.blk nilV nilV)
  have hP0 : (((w.alloc (r.blk (.slice A r.map.sp.length cap) J)).alloc (p.blk pj (.slice B p.map.sp.length bc))).alloc (zeroR.blk nilV nilV)).heap[w.heap.size + 1]? = some (p.blk pj (.slice B p.map.sp.length bc)) := (Below.heap_alloc _ _ _ (by simp)).trans (heap_second _ _ _)
  have hB0 : Below w.heap.size w (((w.alloc (r.blk (.slice A r.map.sp.length cap) J)).alloc (p.blk pj (.slice B p.map.sp.length bc))).alloc (zeroR.blk nilV nilV)) := al3 _ _ _
  change Code.wp _ _ _ _ (((w.alloc (r.blk (.slice A r.map.sp.length cap) J)).alloc (p.blk pj (.slice B p.map.sp.length bc))).alloc (zeroR.blk nilV nilV))
  generalize (((w.alloc (r.blk (.slice A r.map.sp.length cap) J)).alloc (p.blk pj (.slice B p.map.sp.length bc))).alloc (zeroR.blk nilV nilV)) = w0 at *
  have HX0 := Lib.hid hX0; have HP0 := Lib.hid hP0; have HR0 := Lib.hid hR0; have HB0 := Lib.hid hB0
  clear hX0 hP0 hR0 hB0
  refine wp_region_lit ?_
  refine wpList_load39 rfl (.tmp 2) rfl w.heap.size rfl HX0.out ?_
  simp only [Act.put, List.setIfInBounds_toArray, List.set_cons_zero, List.set_cons_succ]
  refine wpList_step (fun K hK => ?_)
  go_simp
  go_at_call 27
  refine (HC.out _ (HI.out.below HB0.out)).mono ?_
  rintro e w1 ⟨rfl, hb1⟩
  refine hK _ _ ?_
  clear hK K
  have HX1 := Lib.hid (blk_below hb1 (lt_of_some HX0.out) HX0.out); have HP1 := Lib.hid (blk_below hb1 (lt_of_some HP0.out) HP0.out); have HR1 := Lib.hid (blk_below hb1 (lt_of_some HR0.out) HR0.out)
  have HB1 := Lib.hid (HB0.out.trans (hb1.mono HB0.out.size))
  clear hb1
  obtain ⟨⟨c0, c1, c13, c14, c15, c16, clt⟩, ⟨c2, c3, c4, c5, c6, c7, c8, c9, c10, c11, c12⟩, c17, c18, c19⟩ := rte_cells HX1.out
  obtain ⟨⟨q0, q1, q2, q3, q4, qlt⟩, q5, q6, q7, q8, q9, q10, q11, q12, q13, q14, q15⟩ := rep_cells HP1.out
  have f2 := fz_blk HX1.out 2; have f3 := fz_blk HX1.out 3; have f4 := fz_blk HX1.out 4; have f5 := fz_blk HX1.out 5; have f6 := fz_blk HX1.out 6; have f7 := fz_blk HX1.out 7; have f8 := fz_blk HX1.out 8; have f9 := fz_blk HX1.out 9; have f10 := fz_blk HX1.out 10; have f11 := fz_blk HX1.out 11; have f12 := fz_blk HX1.out 12
  have f13 := fz_blk HX1.out 13; have f14 := fz_blk HX1.out 14; have f15 := fz_blk HX1.out 15; have f16 := fz_blk HX1.out 16; have f17 := fz_blk HX1.out 17; have f18 := fz_blk HX1.out 18; have f19 := fz_blk HX1.out 19
  rw [Hd.out] at c16
  rw [K1.out] at q0
  rw [K2.out] at c13
  rw [K3.out] at q2
  go_upto_region 8 with fail
  clear c0 c1 c13 c14 c15 c16 clt c2 c3 c4 c5 c6 c7 c8 c9 c10 c11 c12 c17 c18 c19 q0 q1 q2 q3 q4 qlt q5 q6 q7 q8 q9 q10 q11 q12 q13 q14 q15 f2 f3 f4 f5 f6 f7 f8 f9 f10 f11 f12 f13 f14 f15 f16 f17 f18 f19
  have ht := turn_any w1 A B cap bc r p J pj hJ hv hn (HIB.out.below HB1.out)
  have hk := turned_kept r p
  obtain ⟨R, hR⟩ : ∃ R, turned r p = R := ⟨_, rfl⟩
  rw [hR] at ht hk
  have HT := Lib.hid ht; have HRt := Lib.hid hR
  obtain ⟨hl, _⟩ := hk
  have Hl := Lib.hid hl
  have hv5 := hv.2.2.2.2.1; have hv6 := hv.2.2.2.2.2.1; have hv7 := hv.2.2.2.2.2.2.1
  clear ht hl hR hv
  refine wp_region_lit ?_
  refine wpList_load39 rfl (.tmp 2) rfl w.heap.size rfl HX1.out ?_
  simp only [Act.put, List.setIfInBounds_toArray, List.set_cons_zero, List.set_cons_succ]
  refine wpList_load59 rfl (.tmp 3) rfl (w.heap.size + 1) rfl HP1.out ?_
  simp only [Act.put, List.setIfInBounds_toArray, List.set_cons_zero, List.set_cons_succ]
  refine wpList_step (fun K hK => ?_)
  go_simp
  go_at_call 59
  refine HT.out.mono ?_
  rintro e w2 ⟨A2, c2', rfl, hI2, hb2⟩
  refine hK _ _ ?_
  clear hK K
  have HX2 := Lib.hid (blk_below hb2 (lt_of_some HX1.out) HX1.out); have HP2 := Lib.hid (blk_below hb2 (lt_of_some HP1.out) HP1.out); have HR2 := Lib.hid (blk_below hb2 (lt_of_some HR1.out) HR1.out)
  have HB2 := Lib.hid (HB1.out.trans (hb2.mono HB1.out.size))
  have HI2 := Lib.hid hI2
  clear hb2 hI2
  refine wpList_store39 rfl (.tmp 2) (.tmp 44) rfl w.heap.size rfl (r := R) (v := .slice A2 R.map.sp.length c2') (j := J) rfl rfl hJ HX2.out ?_
  intro w3 hX3 ho3
  simp only [Act.put, List.setIfInBounds_toArray, List.set_cons_zero, List.set_cons_succ]
  have HX3 := Lib.hid hX3
  have HP3 := Lib.hid ((ho3.block _ (lt_of_some HP2.out) (by show ¬ w.heap.size + 1 = w.heap.size; omega)).trans HP2.out)
  have HR3 := Lib.hid ((ho3.block _ (lt_of_some HR2.out) (by show ¬ w.heap.size + 1 + 1 = w.heap.size; omega)).trans HR2.out)
  have HB3 := Lib.hid (ho3.below HB2.out (fun q hq => by have hq : q = w.heap.size := hq; omega) HB2.out.size)
  clear ho3 hX3
  obtain ⟨⟨c0, c1, c13, c14, c15, c16, clt⟩, ⟨c2, c3, c4, c5, c6, c7, c8, c9, c10, c11, c12⟩, c17, c18, c19⟩ := rte_cells HX3.out
  obtain ⟨⟨q0, q1, q2, q3, q4, qlt⟩, q5, q6, q7, q8, q9, q10, q11, q12, q13, q14, q15⟩ := rep_cells HP3.out
  have f2 := fz_blk HX3.out 2; have f3 := fz_blk HX3.out 3; have f4 := fz_blk HX3.out 4; have f5 := fz_blk HX3.out 5; have f6 := fz_blk HX3.out 6; have f7 := fz_blk HX3.out 7; have f8 := fz_blk HX3.out 8; have f9 := fz_blk HX3.out 9; have f10 := fz_blk HX3.out 10; have f11 := fz_blk HX3.out 11; have f12 := fz_blk HX3.out 12
  have f13 := fz_blk HX3.out 13; have f14 := fz_blk HX3.out 14; have f15 := fz_blk HX3.out 15; have f16 := fz_blk HX3.out 16; have f17 := fz_blk HX3.out 17; have f18 := fz_blk HX3.out 18; have f19 := fz_blk HX3.out 19
  have h1 : IntKind.i64.wrap (R.left - 1) = R.left - 1 := IntWalk.i64_in _ (by have := Hl.out; omega)
  have h3 : ¬ R.left - 1 = 0 := by have := Hl.out; omega
  have h2 : (R.left - 1 == 0) = false := by simpa using h3
  clear h3
  go_upto_region 9 with fail
  have HX4 := Lib.hid (rte_left HX3.out (R.left - 1))
  have hon : Only (· = w.heap.size) w3 (w3.setCell ⟨w.heap.size, 15, none⟩ (.int .i64 (R.left - 1))) := only_setCell w3 ⟨w.heap.size, 15, none⟩ (.int .i64 (R.left - 1))
  have HP4 := Lib.hid ((hon.block _ (lt_of_some HP3.out) (by show ¬ w.heap.size + 1 = w.heap.size; omega)).trans HP3.out)
  have HR4 := Lib.hid ((hon.block _ (lt_of_some HR3.out) (by show ¬ w.heap.size + 1 + 1 = w.heap.size; omega)).trans HR3.out)
  have HB4 := Lib.hid (hon.below HB3.out (fun q hq => by have hq : q = w.heap.size := hq; omega) HB3.out.size)
  clear hon
  go_upto_region 10 with fail
  change Code.wp _ _ _ _ (w3.setCell ⟨w.heap.size, 15, none⟩ (.int .i64 (R.left - 1)))
  generalize (w3.setCell ⟨w.heap.size, 15, none⟩ (.int .i64 (R.left - 1))) = w4 at *
  clear c0 c1 c13 c14 c15 c16 clt c2 c3 c4 c5 c6 c7 c8 c9 c10 c11 c12 c17 c18 c19 q0 q1 q2 q3 q4 qlt q5 q6 q7 q8 q9 q10 q11 q12 q13 q14 q15 f2 f3 f4 f5 f6 f7 f8 f9 f10 f11 f12 f13 f14 f15 f16 f17 f18 f19
  obtain ⟨⟨c0, c1, c13, c14, c15, c16, clt⟩, ⟨c2, c3, c4, c5, c6, c7, c8, c9, c10, c11, c12⟩, c17, c18, c19⟩ := rte_cells HX4.out
  obtain ⟨⟨q0, q1, q2, q3, q4, qlt⟩, q5, q6, q7, q8, q9, q10, q11, q12, q13, q14, q15⟩ := rep_cells HP4.out
  have f2 := fz_blk HX4.out 2; have f3 := fz_blk HX4.out 3; have f4 := fz_blk HX4.out 4; have f5 := fz_blk HX4.out 5; have f6 := fz_blk HX4.out 6; have f7 := fz_blk HX4.out 7; have f8 := fz_blk HX4.out 8; have f9 := fz_blk HX4.out 9; have f10 := fz_blk HX4.out 10; have f11 := fz_blk HX4.out 11; have f12 := fz_blk HX4.out 12
  have f13 := fz_blk HX4.out 13; have f14 := fz_blk HX4.out 14; have f15 := fz_blk HX4.out 15; have f16 := fz_blk HX4.out 16; have f17 := fz_blk HX4.out 17; have f18 := fz_blk HX4.out 18; have f19 := fz_blk HX4.out 19
  go_upto_region 14 with fail
  refine wp_region_lit ?_
  refine wpList_load39 rfl (.tmp 2) rfl w.heap.size rfl HX4.out ?_
  simp only [Act.put, List.setIfInBounds_toArray, List.set_cons_zero, List.set_cons_succ]
  refine wpList_store39 rfl (.tmp 4) (.tmp 56) rfl (w.heap.size + 1 + 1) rfl (r := { R with left := R.left - 1 }) (v := (.slice A2 R.map.sp.length c2')) (j := J) rfl rfl hJ HR4.out ?_
  intro w19 h19 ho19
  simp only [Act.put, List.setIfInBounds_toArray, List.set_cons_zero, List.set_cons_succ]
  go_wp2
  refine bodyPost_ret (results39_one rfl _ _ (w.heap.size + 1 + 1) rfl h19) rfl ?_
  rw [HRt.out]
  exact ⟨⟨A2, c2', by rw [Hl.out]; rfl, HI2.out⟩, ho19.below HB4.out (fun q hq => by omega) HB4.out.size⟩
set_option maxRecDepth 100000 in
set_option maxHeartbeats 1000000 in
theorem rheard_d_last (w : World) (A B : Option Addr) (cap bc : Nat) (r : Rte) (p : Rep) (J pj : Value) (hJ : J.oneCell' = true) (hpj : pj.oneCell' = true) (hn : r.name.size ≤ 9223372036854775807) (hA : MapIn w A cap r.map) (hB : MapIn w B bc p.map) (hv : RteOk r) (hd : r.done = false) (k1 : p.kind = 2) (k2 : r.fetch = false) (k3 : p.err = 172) (k5 : r.left = 1) :
    Calls Try.prog 34 #[r.val (.slice A r.map.sp.length cap) J, p.val pj (.slice B p.map.sp.length bc)] w fun e w' => (∃ A' cap', e = .returned ({ turned r p with left := 0, done := true, fetch := false, err := 181, time := 0 }.val (.slice A' (turned r p).map.sp.length cap') nilV) ∧ (A' = A ∧ cap' = cap ∧ (turned r p).map = r.map ∨ A' = B ∧ cap' = bc ∧ (turned r p).map = p.map)) ∧ Below w.heap.size w w' := by
  have Hd := Lib.hid hd; clear hd
  have K5 := Lib.hid k5; clear k5
  have K1 := Lib.hid k1; have K2 := Lib.hid k2; have K3 := Lib.hid k3; clear k1 k2 k3
  have hC := fun w h => rRteCheck_any w A cap J r h hn
  rw [tr_true hv] at hC
  have HC := Lib.hid hC; have HI := Lib.hid hA; have HIB := Lib.hid hB
  clear hC hA hB
  go_enter Try.func34, Try.ntmps34
  go_upto_region 1 with fail
  have hX0 : (((w.alloc (r.blk (.slice A r.map.sp.length cap) J)).alloc (p.blk pj (.slice B p.map.sp.length bc))).alloc (zeroR.blk nilV nilV)).heap[w.heap.size]? = some (r.blk (.slice A r.map.sp.length cap) J) := (Below.heap_alloc _ _ _ (by simp; omega)).trans ((Below.heap_alloc _ _ _ (by simp)).trans (heap_alloc_new w _))
  have hR0 : (((w.alloc (r.blk (.slice A r.map.sp.length cap) J)).alloc (p.blk pj (.slice B p.map.sp.length bc))).alloc (zeroR.blk nilV nilV)).heap[w.heap.size + 1 + 1]? = some (zeroR.blk nilV nilV) := by simpa using heap_alloc_new ((w.alloc (r.blk (.slice A r.map.sp.length cap) J)).alloc (p.blk pj (.slice B p.map.sp.length bc))) (zeroR.blk nilV nilV)
  have hP0 : (((w.alloc (r.blk (.slice A r.map.sp.length cap) J)).alloc (p.blk pj (.slice B p.map.sp.length bc))).alloc (zeroR.blk nilV nilV)).heap[w.heap.size + 1]? = some (p.blk pj (.slice B p.map.sp.length bc)) := (Below.heap_alloc _ _ _ (by simp)).trans (heap_second _ _ _)
  have hB0 : Below w.heap.size w (((w.alloc (r.blk (.slice A r.map.sp.length cap) J)).alloc (p.blk pj (.slice B p.map.sp.length bc))).alloc (zeroR.blk nilV nilV)) := al3 _ _ _
  change Code.wp _ _ _ _ (((w.alloc (r.blk (.slice A r.map.sp.length cap) J)).alloc (p.blk pj (.slice B p.map.sp.length bc))).alloc (zeroR.blk nilV nilV))
  generalize (((w.alloc (r.blk (.slice A r.map.sp.length cap) J)).alloc (p.blk pj (.slice B p.map.sp.length bc))).alloc (zeroR.blk nilV nilV)) = w0 at *
  have HX0 := Lib.hid hX0; have HP0 := Lib.hid hP0; have HR0 := Lib.hid hR0; have HB0 := Lib.hid hB0
  clear hX0 hP0 hR0 hB0
  refine wp_region_lit ?_
  refine wpList_load39 rfl (.tmp 2) rfl w.heap.size rfl HX0.out ?_
  simp only [Act.put, List.setIfInBounds_toArray, List.set_cons_zero, List.set_cons_succ]
  refine wpList_step (fun K hK => ?_)
  go_simp
  go_at_call 27
  refine (HC.out _ (HI.out.below HB0.out)).mono ?_
  rintro e w1 ⟨rfl, hb1⟩
  refine hK _ _ ?_
  clear hK K
  have HX1 := Lib.hid (blk_below hb1 (lt_of_some HX0.out) HX0.out); have HP1 := Lib.hid (blk_below hb1 (lt_of_some HP0.out) HP0.out); have HR1 := Lib.hid (blk_below hb1 (lt_of_some HR0.out) HR0.out)
  have HB1 := Lib.hid (HB0.out.trans (hb1.mono HB0.out.size))
  clear hb1
  obtain ⟨⟨c0, c1, c13, c14, c15, c16, clt⟩, ⟨c2, c3, c4, c5, c6, c7, c8, c9, c10, c11, c12⟩, c17, c18, c19⟩ := rte_cells HX1.out
  obtain ⟨⟨q0, q1, q2, q3, q4, qlt⟩, q5, q6, q7, q8, q9, q10, q11, q12, q13, q14, q15⟩ := rep_cells HP1.out
  have f2 := fz_blk HX1.out 2; have f3 := fz_blk HX1.out 3; have f4 := fz_blk HX1.out 4; have f5 := fz_blk HX1.out 5; have f6 := fz_blk HX1.out 6; have f7 := fz_blk HX1.out 7; have f8 := fz_blk HX1.out 8; have f9 := fz_blk HX1.out 9; have f10 := fz_blk HX1.out 10; have f11 := fz_blk HX1.out 11; have f12 := fz_blk HX1.out 12
  have f13 := fz_blk HX1.out 13; have f14 := fz_blk HX1.out 14; have f15 := fz_blk HX1.out 15; have f16 := fz_blk HX1.out 16; have f17 := fz_blk HX1.out 17; have f18 := fz_blk HX1.out 18; have f19 := fz_blk HX1.out 19
  rw [Hd.out] at c16
  rw [K1.out] at q0
  rw [K2.out] at c13
  rw [K3.out] at q2
  go_upto_region 8 with fail
  clear c0 c1 c13 c14 c15 c16 clt c2 c3 c4 c5 c6 c7 c8 c9 c10 c11 c12 c17 c18 c19 q0 q1 q2 q3 q4 qlt q5 q6 q7 q8 q9 q10 q11 q12 q13 q14 q15 f2 f3 f4 f5 f6 f7 f8 f9 f10 f11 f12 f13 f14 f15 f16 f17 f18 f19
  have ht := turn_any w1 A B cap bc r p J pj hJ hv hn (HIB.out.below HB1.out)
  have hk := turned_kept r p
  obtain ⟨R, hR⟩ : ∃ R, turned r p = R := ⟨_, rfl⟩
  rw [hR] at ht hk
  have HT := Lib.hid ht; have HRt := Lib.hid hR
  obtain ⟨hl, _⟩ := hk
  have Hl := Lib.hid hl
  have hv5 := hv.2.2.2.2.1; have hv6 := hv.2.2.2.2.2.1; have hv7 := hv.2.2.2.2.2.2.1
  clear ht hl hR hv
  refine wp_region_lit ?_
  refine wpList_load39 rfl (.tmp 2) rfl w.heap.size rfl HX1.out ?_
  simp only [Act.put, List.setIfInBounds_toArray, List.set_cons_zero, List.set_cons_succ]
  refine wpList_load59 rfl (.tmp 3) rfl (w.heap.size + 1) rfl HP1.out ?_
  simp only [Act.put, List.setIfInBounds_toArray, List.set_cons_zero, List.set_cons_succ]
  refine wpList_step (fun K hK => ?_)
  go_simp
  go_at_call 59
  refine HT.out.mono ?_
  rintro e w2 ⟨A2, c2', rfl, hI2, hb2⟩
  refine hK _ _ ?_
  clear hK K
  have HX2 := Lib.hid (blk_below hb2 (lt_of_some HX1.out) HX1.out); have HP2 := Lib.hid (blk_below hb2 (lt_of_some HP1.out) HP1.out); have HR2 := Lib.hid (blk_below hb2 (lt_of_some HR1.out) HR1.out)
  have HB2 := Lib.hid (HB1.out.trans (hb2.mono HB1.out.size))
  have HI2 := Lib.hid hI2
  clear hb2 hI2
  refine wpList_store39 rfl (.tmp 2) (.tmp 44) rfl w.heap.size rfl (r := R) (v := .slice A2 R.map.sp.length c2') (j := J) rfl rfl hJ HX2.out ?_
  intro w3 hX3 ho3
  simp only [Act.put, List.setIfInBounds_toArray, List.set_cons_zero, List.set_cons_succ]
  have HX3 := Lib.hid hX3
  have HP3 := Lib.hid ((ho3.block _ (lt_of_some HP2.out) (by show ¬ w.heap.size + 1 = w.heap.size; omega)).trans HP2.out)
  have HR3 := Lib.hid ((ho3.block _ (lt_of_some HR2.out) (by show ¬ w.heap.size + 1 + 1 = w.heap.size; omega)).trans HR2.out)
  have HB3 := Lib.hid (ho3.below HB2.out (fun q hq => by have hq : q = w.heap.size := hq; omega) HB2.out.size)
  clear ho3 hX3
  obtain ⟨⟨c0, c1, c13, c14, c15, c16, clt⟩, ⟨c2, c3, c4, c5, c6, c7, c8, c9, c10, c11, c12⟩, c17, c18, c19⟩ := rte_cells HX3.out
  obtain ⟨⟨q0, q1, q2, q3, q4, qlt⟩, q5, q6, q7, q8, q9, q10, q11, q12, q13, q14, q15⟩ := rep_cells HP3.out
  have f2 := fz_blk HX3.out 2; have f3 := fz_blk HX3.out 3; have f4 := fz_blk HX3.out 4; have f5 := fz_blk HX3.out 5; have f6 := fz_blk HX3.out 6; have f7 := fz_blk HX3.out 7; have f8 := fz_blk HX3.out 8; have f9 := fz_blk HX3.out 9; have f10 := fz_blk HX3.out 10; have f11 := fz_blk HX3.out 11; have f12 := fz_blk HX3.out 12
  have f13 := fz_blk HX3.out 13; have f14 := fz_blk HX3.out 14; have f15 := fz_blk HX3.out 15; have f16 := fz_blk HX3.out 16; have f17 := fz_blk HX3.out 17; have f18 := fz_blk HX3.out 18; have f19 := fz_blk HX3.out 19
  rw [Hl.out, K5.out] at c15
  go_upto_region 9 with fail
  have HX4 := Lib.hid (rte_left HX3.out 0)
  have hon : Only (· = w.heap.size) w3 (w3.setCell ⟨w.heap.size, 15, none⟩ (.int .i64 0)) := only_setCell w3 ⟨w.heap.size, 15, none⟩ (.int .i64 0)
  have HP4 := Lib.hid ((hon.block _ (lt_of_some HP3.out) (by show ¬ w.heap.size + 1 = w.heap.size; omega)).trans HP3.out)
  have HR4 := Lib.hid ((hon.block _ (lt_of_some HR3.out) (by show ¬ w.heap.size + 1 + 1 = w.heap.size; omega)).trans HR3.out)
  have HB4 := Lib.hid (hon.below HB3.out (fun q hq => by have hq : q = w.heap.size := hq; omega) HB3.out.size)
  clear hon
  go_upto_region 10 with fail
  change Code.wp _ _ _ _ (w3.setCell ⟨w.heap.size, 15, none⟩ (.int .i64 0))
  generalize (w3.setCell ⟨w.heap.size, 15, none⟩ (.int .i64 0)) = w4 at *
  clear c0 c1 c13 c14 c15 c16 clt c2 c3 c4 c5 c6 c7 c8 c9 c10 c11 c12 c17 c18 c19 q0 q1 q2 q3 q4 qlt q5 q6 q7 q8 q9 q10 q11 q12 q13 q14 q15 f2 f3 f4 f5 f6 f7 f8 f9 f10 f11 f12 f13 f14 f15 f16 f17 f18 f19
  obtain ⟨⟨c0, c1, c13, c14, c15, c16, clt⟩, ⟨c2, c3, c4, c5, c6, c7, c8, c9, c10, c11, c12⟩, c17, c18, c19⟩ := rte_cells HX4.out
  obtain ⟨⟨q0, q1, q2, q3, q4, qlt⟩, q5, q6, q7, q8, q9, q10, q11, q12, q13, q14, q15⟩ := rep_cells HP4.out
  have f2 := fz_blk HX4.out 2; have f3 := fz_blk HX4.out 3; have f4 := fz_blk HX4.out 4; have f5 := fz_blk HX4.out 5; have f6 := fz_blk HX4.out 6; have f7 := fz_blk HX4.out 7; have f8 := fz_blk HX4.out 8; have f9 := fz_blk HX4.out 9; have f10 := fz_blk HX4.out 10; have f11 := fz_blk HX4.out 11; have f12 := fz_blk HX4.out 12
  have f13 := fz_blk HX4.out 13; have f14 := fz_blk HX4.out 14; have f15 := fz_blk HX4.out 15; have f16 := fz_blk HX4.out 16; have f17 := fz_blk HX4.out 17; have f18 := fz_blk HX4.out 18; have f19 := fz_blk HX4.out 19
  dsimp only at c15
  go_upto_region 11 with fail
  have HX5 := Lib.hid (rte_done HX4.out true)
  have hon : Only (· = w.heap.size) w4 (w4.setCell ⟨w.heap.size, 16, none⟩ (.bool true)) := only_setCell w4 ⟨w.heap.size, 16, none⟩ (.bool true)
  have HP5 := Lib.hid ((hon.block _ (lt_of_some HP4.out) (by show ¬ w.heap.size + 1 = w.heap.size; omega)).trans HP4.out)
  have HR5 := Lib.hid ((hon.block _ (lt_of_some HR4.out) (by show ¬ w.heap.size + 1 + 1 = w.heap.size; omega)).trans HR4.out)
  have HB5 := Lib.hid (hon.below HB4.out (fun q hq => by have hq : q = w.heap.size := hq; omega) HB4.out.size)
  clear hon
  go_upto_region 12 with fail
  change Code.wp _ _ _ _ (w4.setCell ⟨w.heap.size, 16, none⟩ (.bool true))
  generalize (w4.setCell ⟨w.heap.size, 16, none⟩ (.bool true)) = w5 at *
  clear c0 c1 c13 c14 c15 c16 clt c2 c3 c4 c5 c6 c7 c8 c9 c10 c11 c12 c17 c18 c19 q0 q1 q2 q3 q4 qlt q5 q6 q7 q8 q9 q10 q11 q12 q13 q14 q15 f2 f3 f4 f5 f6 f7 f8 f9 f10 f11 f12 f13 f14 f15 f16 f17 f18 f19
  obtain ⟨⟨c0, c1, c13, c14, c15, c16, clt⟩, ⟨c2, c3, c4, c5, c6, c7, c8, c9, c10, c11, c12⟩, c17, c18, c19⟩ := rte_cells HX5.out
  obtain ⟨⟨q0, q1, q2, q3, q4, qlt⟩, q5, q6, q7, q8, q9, q10, q11, q12, q13, q14, q15⟩ := rep_cells HP5.out
  have f2 := fz_blk HX5.out 2; have f3 := fz_blk HX5.out 3; have f4 := fz_blk HX5.out 4; have f5 := fz_blk HX5.out 5; have f6 := fz_blk HX5.out 6; have f7 := fz_blk HX5.out 7; have f8 := fz_blk HX5.out 8; have f9 := fz_blk HX5.out 9; have f10 := fz_blk HX5.out 10; have f11 := fz_blk HX5.out 11; have f12 := fz_blk HX5.out 12
  have f13 := fz_blk HX5.out 13; have f14 := fz_blk HX5.out 14; have f15 := fz_blk HX5.out 15; have f16 := fz_blk HX5.out 16; have f17 := fz_blk HX5.out 17; have f18 := fz_blk HX5.out 18; have f19 := fz_blk HX5.out 19
  have HX6 := Lib.hid (rte_fetch HX5.out false)
  have hon : Only (· = w.heap.size) w5 (w5.setCell ⟨w.heap.size, 13, none⟩ (.bool false)) := only_setCell w5 ⟨w.heap.size, 13, none⟩ (.bool false)
  have HP6 := Lib.hid ((hon.block _ (lt_of_some HP5.out) (by show ¬ w.heap.size + 1 = w.heap.size; omega)).trans HP5.out)
  have HR6 := Lib.hid ((hon.block _ (lt_of_some HR5.out) (by show ¬ w.heap.size + 1 + 1 = w.heap.size; omega)).trans HR5.out)
  have HB6 := Lib.hid (hon.below HB5.out (fun q hq => by have hq : q = w.heap.size := hq; omega) HB5.out.size)
  clear hon
  go_upto_region 13 with fail
  change Code.wp _ _ _ _ (w5.setCell ⟨w.heap.size, 13, none⟩ (.bool false))
  generalize (w5.setCell ⟨w.heap.size, 13, none⟩ (.bool false)) = w6 at *
  clear c0 c1 c13 c14 c15 c16 clt c2 c3 c4 c5 c6 c7 c8 c9 c10 c11 c12 c17 c18 c19 q0 q1 q2 q3 q4 qlt q5 q6 q7 q8 q9 q10 q11 q12 q13 q14 q15 f2 f3 f4 f5 f6 f7 f8 f9 f10 f11 f12 f13 f14 f15 f16 f17 f18 f19
  obtain ⟨⟨c0, c1, c13, c14, c15, c16, clt⟩, ⟨c2, c3, c4, c5, c6, c7, c8, c9, c10, c11, c12⟩, c17, c18, c19⟩ := rte_cells HX6.out
  obtain ⟨⟨q0, q1, q2, q3, q4, qlt⟩, q5, q6, q7, q8, q9, q10, q11, q12, q13, q14, q15⟩ := rep_cells HP6.out
  have f2 := fz_blk HX6.out 2; have f3 := fz_blk HX6.out 3; have f4 := fz_blk HX6.out 4; have f5 := fz_blk HX6.out 5; have f6 := fz_blk HX6.out 6; have f7 := fz_blk HX6.out 7; have f8 := fz_blk HX6.out 8; have f9 := fz_blk HX6.out 9; have f10 := fz_blk HX6.out 10; have f11 := fz_blk HX6.out 11; have f12 := fz_blk HX6.out 12
  have f13 := fz_blk HX6.out 13; have f14 := fz_blk HX6.out 14; have f15 := fz_blk HX6.out 15; have f16 := fz_blk HX6.out 16; have f17 := fz_blk HX6.out 17; have f18 := fz_blk HX6.out 18; have f19 := fz_blk HX6.out 19
  have HX7 := Lib.hid (rte_res HX6.out 181 0 nilV)
  have hon : Only (· = w.heap.size) w6 (((w6.setCell ⟨w.heap.size, 17, none⟩ (.int .i64 181)).setCell ⟨w.heap.size, 18, none⟩ (.int .i64 0)).setCell ⟨w.heap.size, 19, none⟩ nilV) := res_only3 w6 w.heap.size _ _ _
  have HP7 := Lib.hid ((hon.block _ (lt_of_some HP6.out) (by show ¬ w.heap.size + 1 = w.heap.size; omega)).trans HP6.out)
  have HR7 := Lib.hid ((hon.block _ (lt_of_some HR6.out) (by show ¬ w.heap.size + 1 + 1 = w.heap.size; omega)).trans HR6.out)
  have HB7 := Lib.hid (hon.below HB6.out (fun q hq => by have hq : q = w.heap.size := hq; omega) HB6.out.size)
  clear hon
  go_upto_region 14 with fail
  change Code.wp _ _ _ _ (((w6.setCell ⟨w.heap.size, 17, none⟩ (.int .i64 181)).setCell ⟨w.heap.size, 18, none⟩ (.int .i64 0)).setCell ⟨w.heap.size, 19, none⟩ nilV)
  generalize (((w6.setCell ⟨w.heap.size, 17, none⟩ (.int .i64 181)).setCell ⟨w.heap.size, 18, none⟩ (.int .i64 0)).setCell ⟨w.heap.size, 19, none⟩ nilV) = w7 at *
  clear c0 c1 c13 c14 c15 c16 clt c2 c3 c4 c5 c6 c7 c8 c9 c10 c11 c12 c17 c18 c19 q0 q1 q2 q3 q4 qlt q5 q6 q7 q8 q9 q10 q11 q12 q13 q14 q15 f2 f3 f4 f5 f6 f7 f8 f9 f10 f11 f12 f13 f14 f15 f16 f17 f18 f19
  obtain ⟨⟨c0, c1, c13, c14, c15, c16, clt⟩, ⟨c2, c3, c4, c5, c6, c7, c8, c9, c10, c11, c12⟩, c17, c18, c19⟩ := rte_cells HX7.out
  obtain ⟨⟨q0, q1, q2, q3, q4, qlt⟩, q5, q6, q7, q8, q9, q10, q11, q12, q13, q14, q15⟩ := rep_cells HP7.out
  have f2 := fz_blk HX7.out 2; have f3 := fz_blk HX7.out 3; have f4 := fz_blk HX7.out 4; have f5 := fz_blk HX7.out 5; have f6 := fz_blk HX7.out 6; have f7 := fz_blk HX7.out 7; have f8 := fz_blk HX7.out 8; have f9 := fz_blk HX7.out 9; have f10 := fz_blk HX7.out 10; have f11 := fz_blk HX7.out 11; have f12 := fz_blk HX7.out 12
  have f13 := fz_blk HX7.out 13; have f14 := fz_blk HX7.out 14; have f15 := fz_blk HX7.out 15; have f16 := fz_blk HX7.out 16; have f17 := fz_blk HX7.out 17; have f18 := fz_blk HX7.out 18; have f19 := fz_blk HX7.out 19
  refine wp_region_lit ?_
  refine wpList_load39 rfl (.tmp 2) rfl w.heap.size rfl HX7.out ?_
  simp only [Act.put, List.setIfInBounds_toArray, List.set_cons_zero, List.set_cons_succ]
  refine wpList_store39 rfl (.tmp 4) (.tmp 56) rfl (w.heap.size + 1 + 1) rfl (r := { R with left := 0, done := true, fetch := false, err := 181, time := 0 }) (v := (.slice A2 R.map.sp.length c2')) (j := nilV) rfl rfl rfl HR7.out ?_
  intro w19 h19 ho19
  simp only [Act.put, List.setIfInBounds_toArray, List.set_cons_zero, List.set_cons_succ]
  go_wp2
  refine bodyPost_ret (results39_one rfl _ _ (w.heap.size + 1 + 1) rfl h19) rfl ?_
  rw [HRt.out]
  exact ⟨⟨A2, c2', rfl, HI2.out⟩, ho19.below HB7.out (fun q hq => by omega) HB7.out.size⟩
set_option maxRecDepth 100000 in
set_option maxHeartbeats 1000000 in
theorem rheard_e (w : World) (A B : Option Addr) (cap bc : Nat) (r : Rte) (p : Rep) (J pj : Value) (hJ : J.oneCell' = true) (hpj : pj.oneCell' = true) (hn : r.name.size ≤ 9223372036854775807) (hA : MapIn w A cap r.map) (hB : MapIn w B bc p.map) (hv : RteOk r) (hd : r.done = false) (k1 : p.kind = 2) (k2 : r.fetch = false) (k3 : p.err = 173) (k5 : ¬ r.left = 1) :
    Calls Try.prog 34 #[r.val (.slice A r.map.sp.length cap) J, p.val pj (.slice B p.map.sp.length bc)] w fun e w' => (∃ A' cap', e = .returned ({ turned r p with left := r.left - 1 }.val (.slice A' (turned r p).map.sp.length cap') J) ∧ (A' = A ∧ cap' = cap ∧ (turned r p).map = r.map ∨ A' = B ∧ cap' = bc ∧ (turned r p).map = p.map)) ∧ Below w.heap.size w w' := by
  have Hd := Lib.hid hd; clear hd
  have hl0 : ¬ r.left = 0 := fun h => by have := hv.2.2.2.2.2.2.1 h; rw [Hd.out] at this; cases this
  have K1 := Lib.hid k1; have K2 := Lib.hid k2; have K3 := Lib.hid k3; clear k1 k2 k3
  have hC := fun w h => rRteCheck_any w A cap J r h hn
  rw [tr_true hv] at hC
  have HC := Lib.hid hC; have HI := Lib.hid hA; have HIB := Lib.hid hB
  clear hC hA hB
  go_enter Try.func34, Try.ntmps34
  go_upto_region 1 with fail
  have hX0 : (((w.alloc (r.blk (.slice A r.map.sp.length cap) J)).alloc (p.blk pj (.slice B p.map.sp.length bc))).alloc (zeroR.blk nilV nilV)).heap[w.heap.size]? = some (r.blk (.slice A r.map.sp.length cap) J) := (Below.heap_alloc _ _ _ (by simp; omega)).trans ((Below.heap_alloc _ _ _ (by simp)).trans (heap_alloc_new w _))
  have hR0 : (((w.alloc (r.blk (.slice A r.map.sp.length cap) J)).alloc (p.blk pj (.slice B p.map.sp.length bc))).alloc (zeroR.blk nilV nilV)).heap[w.heap.size + 1 + 1]? = some (zeroR.blk nilV nilV) := by simpa using heap_alloc_new ((w.alloc (r.blk (.slice A r.map.sp.length cap) J)).alloc (p.blk pj (.slice B p.map.sp.length bc))) (zeroR.blk nilV nilV)
  have hP0 : (((w.alloc (r.blk (.slice A r.map.sp.length cap) J)).alloc (p.blk pj (.slice B p.map.sp.length bc))).alloc (zeroR.blk nilV nilV)).heap[w.heap.size + 1]? = some (p.blk pj (.slice B p.map.sp.length bc)) := (Below.heap_alloc _ _ _ (by simp)).trans (heap_second _ _ _)
  have hB0 : Below w.heap.size w (((w.alloc (r.blk (.slice A r.map.sp.length cap) J)).alloc (p.blk pj (.slice B p.map.sp.length bc))).alloc (zeroR.blk nilV nilV)) := al3 _ _ _
  change Code.wp _ _ _ _ (((w.alloc (r.blk (.slice A r.map.sp.length cap) J)).alloc (p.blk pj (.slice B p.map.sp.length bc))).alloc (zeroR.blk nilV nilV))
  generalize (((w.alloc (r.blk (.slice A r.map.sp.length cap) J)).alloc (p.blk pj (.slice B p.map.sp.length bc))).alloc (zeroR.blk nilV nilV)) = w0 at *
  have HX0 := Lib.hid hX0; have HP0 := Lib.hid hP0; have HR0 := Lib.hid hR0; have HB0 := Lib.hid hB0
  clear hX0 hP0 hR0 hB0
  refine wp_region_lit ?_
  refine wpList_load39 rfl (.tmp 2) rfl w.heap.size rfl HX0.out ?_
  simp only [Act.put, List.setIfInBounds_toArray, List.set_cons_zero, List.set_cons_succ]
  refine wpList_step (fun K hK => ?_)
  go_simp
  go_at_call 27
  refine (HC.out _ (HI.out.below HB0.out)).mono ?_
  rintro e w1 ⟨rfl, hb1⟩
  refine hK _ _ ?_
  clear hK K
  have HX1 := Lib.hid (blk_below hb1 (lt_of_some HX0.out) HX0.out); have HP1 := Lib.hid (blk_below hb1 (lt_of_some HP0.out) HP0.out); have HR1 := Lib.hid (blk_below hb1 (lt_of_some HR0.out) HR0.out)
  have HB1 := Lib.hid (HB0.out.trans (hb1.mono HB0.out.size))
  clear hb1
  obtain ⟨⟨c0, c1, c13, c14, c15, c16, clt⟩, ⟨c2, c3, c4, c5, c6, c7, c8, c9, c10, c11, c12⟩, c17, c18, c19⟩ := rte_cells HX1.out
  obtain ⟨⟨q0, q1, q2, q3, q4, qlt⟩, q5, q6, q7, q8, q9, q10, q11, q12, q13, q14, q15⟩ := rep_cells HP1.out
  have f2 := fz_blk HX1.out 2; have f3 := fz_blk HX1.out 3; have f4 := fz_blk HX1.out 4; have f5 := fz_blk HX1.out 5; have f6 := fz_blk HX1.out 6; have f7 := fz_blk HX1.out 7; have f8 := fz_blk HX1.out 8; have f9 := fz_blk HX1.out 9; have f10 := fz_blk HX1.out 10; have f11 := fz_blk HX1.out 11; have f12 := fz_blk HX1.out 12
  have f13 := fz_blk HX1.out 13; have f14 := fz_blk HX1.out 14; have f15 := fz_blk HX1.out 15; have f16 := fz_blk HX1.out 16; have f17 := fz_blk HX1.out 17; have f18 := fz_blk HX1.out 18; have f19 := fz_blk HX1.out 19
  rw [Hd.out] at c16
  rw [K1.out] at q0
  rw [K2.out] at c13
  rw [K3.out] at q2
  go_upto_region 8 with fail
  clear c0 c1 c13 c14 c15 c16 clt c2 c3 c4 c5 c6 c7 c8 c9 c10 c11 c12 c17 c18 c19 q0 q1 q2 q3 q4 qlt q5 q6 q7 q8 q9 q10 q11 q12 q13 q14 q15 f2 f3 f4 f5 f6 f7 f8 f9 f10 f11 f12 f13 f14 f15 f16 f17 f18 f19
  have ht := turn_any w1 A B cap bc r p J pj hJ hv hn (HIB.out.below HB1.out)
  have hk := turned_kept r p
  obtain ⟨R, hR⟩ : ∃ R, turned r p = R := ⟨_, rfl⟩
  rw [hR] at ht hk
  have HT := Lib.hid ht; have HRt := Lib.hid hR
  obtain ⟨hl, _⟩ := hk
  have Hl := Lib.hid hl
  have hv5 := hv.2.2.2.2.1; have hv6 := hv.2.2.2.2.2.1; have hv7 := hv.2.2.2.2.2.2.1
  clear ht hl hR hv
  refine wp_region_lit ?_
  refine wpList_load39 rfl (.tmp 2) rfl w.heap.size rfl HX1.out ?_
  simp only [Act.put, List.setIfInBounds_toArray, List.set_cons_zero, List.set_cons_succ]
  refine wpList_load59 rfl (.tmp 3) rfl (w.heap.size + 1) rfl HP1.out ?_
  simp only [Act.put, List.setIfInBounds_toArray, List.set_cons_zero, List.set_cons_succ]
  refine wpList_step (fun K hK => ?_)
  go_simp
  go_at_call 59
  refine HT.out.mono ?_
  rintro e w2 ⟨A2, c2', rfl, hI2, hb2⟩
  refine hK _ _ ?_
  clear hK K
  have HX2 := Lib.hid (blk_below hb2 (lt_of_some HX1.out) HX1.out); have HP2 := Lib.hid (blk_below hb2 (lt_of_some HP1.out) HP1.out); have HR2 := Lib.hid (blk_below hb2 (lt_of_some HR1.out) HR1.out)
  have HB2 := Lib.hid (HB1.out.trans (hb2.mono HB1.out.size))
  have HI2 := Lib.hid hI2
  clear hb2 hI2
  refine wpList_store39 rfl (.tmp 2) (.tmp 44) rfl w.heap.size rfl (r := R) (v := .slice A2 R.map.sp.length c2') (j := J) rfl rfl hJ HX2.out ?_
  intro w3 hX3 ho3
  simp only [Act.put, List.setIfInBounds_toArray, List.set_cons_zero, List.set_cons_succ]
  have HX3 := Lib.hid hX3
  have HP3 := Lib.hid ((ho3.block _ (lt_of_some HP2.out) (by show ¬ w.heap.size + 1 = w.heap.size; omega)).trans HP2.out)
  have HR3 := Lib.hid ((ho3.block _ (lt_of_some HR2.out) (by show ¬ w.heap.size + 1 + 1 = w.heap.size; omega)).trans HR2.out)
  have HB3 := Lib.hid (ho3.below HB2.out (fun q hq => by have hq : q = w.heap.size := hq; omega) HB2.out.size)
  clear ho3 hX3
  obtain ⟨⟨c0, c1, c13, c14, c15, c16, clt⟩, ⟨c2, c3, c4, c5, c6, c7, c8, c9, c10, c11, c12⟩, c17, c18, c19⟩ := rte_cells HX3.out
  obtain ⟨⟨q0, q1, q2, q3, q4, qlt⟩, q5, q6, q7, q8, q9, q10, q11, q12, q13, q14, q15⟩ := rep_cells HP3.out
  have f2 := fz_blk HX3.out 2; have f3 := fz_blk HX3.out 3; have f4 := fz_blk HX3.out 4; have f5 := fz_blk HX3.out 5; have f6 := fz_blk HX3.out 6; have f7 := fz_blk HX3.out 7; have f8 := fz_blk HX3.out 8; have f9 := fz_blk HX3.out 9; have f10 := fz_blk HX3.out 10; have f11 := fz_blk HX3.out 11; have f12 := fz_blk HX3.out 12
  have f13 := fz_blk HX3.out 13; have f14 := fz_blk HX3.out 14; have f15 := fz_blk HX3.out 15; have f16 := fz_blk HX3.out 16; have f17 := fz_blk HX3.out 17; have f18 := fz_blk HX3.out 18; have f19 := fz_blk HX3.out 19
  have h1 : IntKind.i64.wrap (R.left - 1) = R.left - 1 := IntWalk.i64_in _ (by have := Hl.out; omega)
  have h3 : ¬ R.left - 1 = 0 := by have := Hl.out; omega
  have h2 : (R.left - 1 == 0) = false := by simpa using h3
  clear h3
  go_upto_region 9 with fail
  have HX4 := Lib.hid (rte_left HX3.out (R.left - 1))
  have hon : Only (· = w.heap.size) w3 (w3.setCell ⟨w.heap.size, 15, none⟩ (.int .i64 (R.left - 1))) := only_setCell w3 ⟨w.heap.size, 15, none⟩ (.int .i64 (R.left - 1))
  have HP4 := Lib.hid ((hon.block _ (lt_of_some HP3.out) (by show ¬ w.heap.size + 1 = w.heap.size; omega)).trans HP3.out)
  have HR4 := Lib.hid ((hon.block _ (lt_of_some HR3.out) (by show ¬ w.heap.size + 1 + 1 = w.heap.size; omega)).trans HR3.out)
  have HB4 := Lib.hid (hon.below HB3.out (fun q hq => by have hq : q = w.heap.size := hq; omega) HB3.out.size)
  clear hon
  go_upto_region 10 with fail
  change Code.wp _ _ _ _ (w3.setCell ⟨w.heap.size, 15, none⟩ (.int .i64 (R.left - 1)))
  generalize (w3.setCell ⟨w.heap.size, 15, none⟩ (.int .i64 (R.left - 1))) = w4 at *
  clear c0 c1 c13 c14 c15 c16 clt c2 c3 c4 c5 c6 c7 c8 c9 c10 c11 c12 c17 c18 c19 q0 q1 q2 q3 q4 qlt q5 q6 q7 q8 q9 q10 q11 q12 q13 q14 q15 f2 f3 f4 f5 f6 f7 f8 f9 f10 f11 f12 f13 f14 f15 f16 f17 f18 f19
  obtain ⟨⟨c0, c1, c13, c14, c15, c16, clt⟩, ⟨c2, c3, c4, c5, c6, c7, c8, c9, c10, c11, c12⟩, c17, c18, c19⟩ := rte_cells HX4.out
  obtain ⟨⟨q0, q1, q2, q3, q4, qlt⟩, q5, q6, q7, q8, q9, q10, q11, q12, q13, q14, q15⟩ := rep_cells HP4.out
  have f2 := fz_blk HX4.out 2; have f3 := fz_blk HX4.out 3; have f4 := fz_blk HX4.out 4; have f5 := fz_blk HX4.out 5; have f6 := fz_blk HX4.out 6; have f7 := fz_blk HX4.out 7; have f8 := fz_blk HX4.out 8; have f9 := fz_blk HX4.out 9; have f10 := fz_blk HX4.out 10; have f11 := fz_blk HX4.out 11; have f12 := fz_blk HX4.out 12
  have f13 := fz_blk HX4.out 13; have f14 := fz_blk HX4.out 14; have f15 := fz_blk HX4.out 15; have f16 := fz_blk HX4.out 16; have f17 := fz_blk HX4.out 17; have f18 := fz_blk HX4.out 18; have f19 := fz_blk HX4.out 19
  go_upto_region 14 with fail
  refine wp_region_lit ?_
  refine wpList_load39 rfl (.tmp 2) rfl w.heap.size rfl HX4.out ?_
  simp only [Act.put, List.setIfInBounds_toArray, List.set_cons_zero, List.set_cons_succ]
  refine wpList_store39 rfl (.tmp 4) (.tmp 56) rfl (w.heap.size + 1 + 1) rfl (r := { R with left := R.left - 1 }) (v := (.slice A2 R.map.sp.length c2')) (j := J) rfl rfl hJ HR4.out ?_
  intro w19 h19 ho19
  simp only [Act.put, List.setIfInBounds_toArray, List.set_cons_zero, List.set_cons_succ]
  go_wp2
  refine bodyPost_ret (results39_one rfl _ _ (w.heap.size + 1 + 1) rfl h19) rfl ?_
  rw [HRt.out]
  exact ⟨⟨A2, c2', by rw [Hl.out]; rfl, HI2.out⟩, ho19.below HB4.out (fun q hq => by omega) HB4.out.size⟩
set_option maxRecDepth 100000 in
set_option maxHeartbeats 1000000 in
theorem rheard_e_last (w : World) (A B : Option Addr) (cap bc : Nat) (r : Rte) (p : Rep) (J pj : Value) (hJ : J.oneCell' = true) (hpj : pj.oneCell' = true) (hn : r.name.size ≤ 9223372036854775807) (hA : MapIn w A cap r.map) (hB : MapIn w B bc p.map) (hv : RteOk r) (hd : r.done = false) (k1 : p.kind = 2) (k2 : r.fetch = false) (k3 : p.err = 173) (k5 : r.left = 1) :
    Calls Try.prog 34 #[r.val (.slice A r.map.sp.length cap) J, p.val pj (.slice B p.map.sp.length bc)] w fun e w' => (∃ A' cap', e = .returned ({ turned r p with left := 0, done := true, fetch := false, err := 181, time := 0 }.val (.slice A' (turned r p).map.sp.length cap') nilV) ∧ (A' = A ∧ cap' = cap ∧ (turned r p).map = r.map ∨ A' = B ∧ cap' = bc ∧ (turned r p).map = p.map)) ∧ Below w.heap.size w w' := by
  have Hd := Lib.hid hd; clear hd
  have K5 := Lib.hid k5; clear k5
  have K1 := Lib.hid k1; have K2 := Lib.hid k2; have K3 := Lib.hid k3; clear k1 k2 k3
  have hC := fun w h => rRteCheck_any w A cap J r h hn
  rw [tr_true hv] at hC
  have HC := Lib.hid hC; have HI := Lib.hid hA; have HIB := Lib.hid hB
  clear hC hA hB
  go_enter Try.func34, Try.ntmps34
  go_upto_region 1 with fail
  have hX0 : (((w.alloc (r.blk (.slice A r.map.sp.length cap) J)).alloc (p.blk pj (.slice B p.map.sp.length bc))).alloc (zeroR.blk nilV nilV)).heap[w.heap.size]? = some (r.blk (.slice A r.map.sp.length cap) J) := (Below.heap_alloc _ _ _ (by simp; omega)).trans ((Below.heap_alloc _ _ _ (by simp)).trans (heap_alloc_new w _))
  have hR0 : (((w.alloc (r.blk (.slice A r.map.sp.length cap) J)).alloc (p.blk pj (.slice B p.map.sp.length bc))).alloc (zeroR.blk nilV nilV)).heap[w.heap.size + 1 + 1]? = some (zeroR.blk nilV nilV) := by simpa using heap_alloc_new ((w.alloc (r.blk (.slice A r.map.sp.length cap) J)).alloc (p.blk pj (.slice B p.map.sp.length bc))) (zeroR.blk nilV nilV)
  have hP0 : (((w.alloc (r.blk (.slice A r.map.sp.length cap) J)).alloc (p.blk pj (.slice B p.map.sp.length bc))).alloc (zeroR.blk nilV nilV)).heap[w.heap.size + 1]? = some (p.blk pj (.slice B p.map.sp.length bc)) := (Below.heap_alloc _ _ _ (by simp)).trans (heap_second _ _ _)
  have hB0 : Below w.heap.size w (((w.alloc (r.blk (.slice A r.map.sp.length cap) J)).alloc (p.blk pj (.slice B p.map.sp.length bc))).alloc (zeroR.blk nilV nilV)) := al3 _ _ _
  change Code.wp _ _ _ _ (((w.alloc (r.blk (.slice A r.map.sp.length cap) J)).alloc (p.blk pj (.slice B p.map.sp.length bc))).alloc (zeroR.blk nilV nilV))
  generalize (((w.alloc (r.blk (.slice A r.map.sp.length cap) J)).alloc (p.blk pj (.slice B p.map.sp.length bc))).alloc (zeroR.blk nilV nilV)) = w0 at *
  have HX0 := Lib.hid hX0; have HP0 := Lib.hid hP0; have HR0 := Lib.hid hR0; have HB0 := Lib.hid hB0
  clear hX0 hP0 hR0 hB0
  refine wp_region_lit ?_
  refine wpList_load39 rfl (.tmp 2) rfl w.heap.size rfl HX0.out ?_
  simp only [Act.put, List.setIfInBounds_toArray, List.set_cons_zero, List.set_cons_succ]
  refine wpList_step (fun K hK => ?_)
  go_simp
  go_at_call 27
  refine (HC.out _ (HI.out.below HB0.out)).mono ?_
  rintro e w1 ⟨rfl, hb1⟩
  refine hK _ _ ?_
  clear hK K
  have HX1 := Lib.hid (blk_below hb1 (lt_of_some HX0.out) HX0.out); have HP1 := Lib.hid (blk_below hb1 (lt_of_some HP0.out) HP0.out); have HR1 := Lib.hid (blk_below hb1 (lt_of_some HR0.out) HR0.out)
  have HB1 := Lib.hid (HB0.out.trans (hb1.mono HB0.out.size))
  clear hb1
  obtain ⟨⟨c0, c1, c13, c14, c15, c16, clt⟩, ⟨c2, c3, c4, c5, c6, c7, c8, c9, c10, c11, c12⟩, c17, c18, c19⟩ := rte_cells HX1.out
  obtain ⟨⟨q0, q1, q2, q3, q4, qlt⟩, q5, q6, q7, q8, q9, q10, q11, q12, q13, q14, q15⟩ := rep_cells HP1.out
  have f2 := fz_blk HX1.out 2; have f3 := fz_blk HX1.out 3; have f4 := fz_blk HX1.out 4; have f5 := fz_blk HX1.out 5; have f6 := fz_blk HX1.out 6; have f7 := fz_blk HX1.out 7; have f8 := fz_blk HX1.out 8; have f9 := fz_blk HX1.out 9; have f10 := fz_blk HX1.out 10; have f11 := fz_blk HX1.out 11; have f12 := fz_blk HX1.out 12
  have f13 := fz_blk HX1.out 13; have f14 := fz_blk HX1.out 14; have f15 := fz_blk HX1.out 15; have f16 := fz_blk HX1.out 16; have f17 := fz_blk HX1.out 17; have f18 := fz_blk HX1.out 18; have f19 := fz_blk HX1.out 19
  rw [Hd.out] at c16
  rw [K1.out] at q0
  rw [K2.out] at c13
  rw [K3.out] at q2
  go_upto_region 8 with fail
  clear c0 c1 c13 c14 c15 c16 clt c2 c3 c4 c5 c6 c7 c8 c9 c10 c11 c12 c17 c18 c19 q0 q1 q2 q3 q4 qlt q5 q6 q7 q8 q9 q10 q11 q12 q13 q14 q15 f2 f3 f4 f5 f6 f7 f8 f9 f10 f11 f12 f13 f14 f15 f16 f17 f18 f19
  have ht := turn_any w1 A B cap bc r p J pj hJ hv hn (HIB.out.below HB1.out)
  have hk := turned_kept r p
  obtain ⟨R, hR⟩ : ∃ R, turned r p = R := ⟨_, rfl⟩
  rw [hR] at ht hk
  have HT := Lib.hid ht; have HRt := Lib.hid hR
  obtain ⟨hl, _⟩ := hk
  have Hl := Lib.hid hl
  have hv5 := hv.2.2.2.2.1; have hv6 := hv.2.2.2.2.2.1; have hv7 := hv.2.2.2.2.2.2.1
  clear ht hl hR hv
  refine wp_region_lit ?_
  refine wpList_load39 rfl (.tmp 2) rfl w.heap.size rfl HX1.out ?_
  simp only [Act.put, List.setIfInBounds_toArray, List.set_cons_zero, List.set_cons_succ]
  refine wpList_load59 rfl (.tmp 3) rfl (w.heap.size + 1) rfl HP1.out ?_
  simp only [Act.put, List.setIfInBounds_toArray, List.set_cons_zero, List.set_cons_succ]
  refine wpList_step (fun K hK => ?_)
  go_simp
  go_at_call 59
  refine HT.out.mono ?_
  rintro e w2 ⟨A2, c2', rfl, hI2, hb2⟩
  refine hK _ _ ?_
  clear hK K
  have HX2 := Lib.hid (blk_below hb2 (lt_of_some HX1.out) HX1.out); have HP2 := Lib.hid (blk_below hb2 (lt_of_some HP1.out) HP1.out); have HR2 := Lib.hid (blk_below hb2 (lt_of_some HR1.out) HR1.out)
  have HB2 := Lib.hid (HB1.out.trans (hb2.mono HB1.out.size))
  have HI2 := Lib.hid hI2
  clear hb2 hI2
  refine wpList_store39 rfl (.tmp 2) (.tmp 44) rfl w.heap.size rfl (r := R) (v := .slice A2 R.map.sp.length c2') (j := J) rfl rfl hJ HX2.out ?_
  intro w3 hX3 ho3
  simp only [Act.put, List.setIfInBounds_toArray, List.set_cons_zero, List.set_cons_succ]
  have HX3 := Lib.hid hX3
  have HP3 := Lib.hid ((ho3.block _ (lt_of_some HP2.out) (by show ¬ w.heap.size + 1 = w.heap.size; omega)).trans HP2.out)
  have HR3 := Lib.hid ((ho3.block _ (lt_of_some HR2.out) (by show ¬ w.heap.size + 1 + 1 = w.heap.size; omega)).trans HR2.out)
  have HB3 := Lib.hid (ho3.below HB2.out (fun q hq => by have hq : q = w.heap.size := hq; omega) HB2.out.size)
  clear ho3 hX3
  obtain ⟨⟨c0, c1, c13, c14, c15, c16, clt⟩, ⟨c2, c3, c4, c5, c6, c7, c8, c9, c10, c11, c12⟩, c17, c18, c19⟩ := rte_cells HX3.out
  obtain ⟨⟨q0, q1, q2, q3, q4, qlt⟩, q5, q6, q7, q8, q9, q10, q11, q12, q13, q14, q15⟩ := rep_cells HP3.out
  have f2 := fz_blk HX3.out 2; have f3 := fz_blk HX3.out 3; have f4 := fz_blk HX3.out 4; have f5 := fz_blk HX3.out 5; have f6 := fz_blk HX3.out 6; have f7 := fz_blk HX3.out 7; have f8 := fz_blk HX3.out 8; have f9 := fz_blk HX3.out 9; have f10 := fz_blk HX3.out 10; have f11 := fz_blk HX3.out 11; have f12 := fz_blk HX3.out 12
  have f13 := fz_blk HX3.out 13; have f14 := fz_blk HX3.out 14; have f15 := fz_blk HX3.out 15; have f16 := fz_blk HX3.out 16; have f17 := fz_blk HX3.out 17; have f18 := fz_blk HX3.out 18; have f19 := fz_blk HX3.out 19
  rw [Hl.out, K5.out] at c15
  go_upto_region 9 with fail
  have HX4 := Lib.hid (rte_left HX3.out 0)
  have hon : Only (· = w.heap.size) w3 (w3.setCell ⟨w.heap.size, 15, none⟩ (.int .i64 0)) := only_setCell w3 ⟨w.heap.size, 15, none⟩ (.int .i64 0)
  have HP4 := Lib.hid ((hon.block _ (lt_of_some HP3.out) (by show ¬ w.heap.size + 1 = w.heap.size; omega)).trans HP3.out)
  have HR4 := Lib.hid ((hon.block _ (lt_of_some HR3.out) (by show ¬ w.heap.size + 1 + 1 = w.heap.size; omega)).trans HR3.out)
  have HB4 := Lib.hid (hon.below HB3.out (fun q hq => by have hq : q = w.heap.size := hq; omega) HB3.out.size)
  clear hon
  go_upto_region 10 with fail
  change Code.wp _ _ _ _ (w3.setCell ⟨w.heap.size, 15, none⟩ (.int .i64 0))
  generalize (w3.setCell ⟨w.heap.size, 15, none⟩ (.int .i64 0)) = w4 at *
  clear c0 c1 c13 c14 c15 c16 clt c2 c3 c4 c5 c6 c7 c8 c9 c10 c11 c12 c17 c18 c19 q0 q1 q2 q3 q4 qlt q5 q6 q7 q8 q9 q10 q11 q12 q13 q14 q15 f2 f3 f4 f5 f6 f7 f8 f9 f10 f11 f12 f13 f14 f15 f16 f17 f18 f19
  obtain ⟨⟨c0, c1, c13, c14, c15, c16, clt⟩, ⟨c2, c3, c4, c5, c6, c7, c8, c9, c10, c11, c12⟩, c17, c18, c19⟩ := rte_cells HX4.out
  obtain ⟨⟨q0, q1, q2, q3, q4, qlt⟩, q5, q6, q7, q8, q9, q10, q11, q12, q13, q14, q15⟩ := rep_cells HP4.out
  have f2 := fz_blk HX4.out 2; have f3 := fz_blk HX4.out 3; have f4 := fz_blk HX4.out 4; have f5 := fz_blk HX4.out 5; have f6 := fz_blk HX4.out 6; have f7 := fz_blk HX4.out 7; have f8 := fz_blk HX4.out 8; have f9 := fz_blk HX4.out 9; have f10 := fz_blk HX4.out 10; have f11 := fz_blk HX4.out 11; have f12 := fz_blk HX4.out 12
  have f13 := fz_blk HX4.out 13; have f14 := fz_blk HX4.out 14; have f15 := fz_blk HX4.out 15; have f16 := fz_blk HX4.out 16; have f17 := fz_blk HX4.out 17; have f18 := fz_blk HX4.out 18; have f19 := fz_blk HX4.out 19
  dsimp only at c15
  go_upto_region 11 with fail
  have HX5 := Lib.hid (rte_done HX4.out true)
  have hon : Only (· = w.heap.size) w4 (w4.setCell ⟨w.heap.size, 16, none⟩ (.bool true)) := only_setCell w4 ⟨w.heap.size, 16, none⟩ (.bool true)
  have HP5 := Lib.hid ((hon.block _ (lt_of_some HP4.out) (by show ¬ w.heap.size + 1 = w.heap.size; omega)).trans HP4.out)
  have HR5 := Lib.hid ((hon.block _ (lt_of_some HR4.out) (by show ¬ w.heap.size + 1 + 1 = w.heap.size; omega)).trans HR4.out)
  have HB5 := Lib.hid (hon.below HB4.out (fun q hq => by have hq : q = w.heap.size := hq; omega) HB4.out.size)
  clear hon
  go_upto_region 12 with fail
  change Code.wp _ _ _ _ (w4.setCell ⟨w.heap.size, 16, none⟩ (.bool true))
  generalize (w4.setCell ⟨w.heap.size, 16, none⟩ (.bool true)) = w5 at *
  clear c0 c1 c13 c14 c15 c16 clt c2 c3 c4 c5 c6 c7 c8 c9 c10 c11 c12 c17 c18 c19 q0 q1 q2 q3 q4 qlt q5 q6 q7 q8 q9 q10 q11 q12 q13 q14 q15 f2 f3 f4 f5 f6 f7 f8 f9 f10 f11 f12 f13 f14 f15 f16 f17 f18 f19
  obtain ⟨⟨c0, c1, c13, c14, c15, c16, clt⟩, ⟨c2, c3, c4, c5, c6, c7, c8, c9, c10, c11, c12⟩, c17, c18, c19⟩ := rte_cells HX5.out
  obtain ⟨⟨q0, q1, q2, q3, q4, qlt⟩, q5, q6, q7, q8, q9, q10, q11, q12, q13, q14, q15⟩ := rep_cells HP5.out
  have f2 := fz_blk HX5.out 2; have f3 := fz_blk HX5.out 3; have f4 := fz_blk HX5.out 4; have f5 := fz_blk HX5.out 5; have f6 := fz_blk HX5.out 6; have f7 := fz_blk HX5.out 7; have f8 := fz_blk HX5.out 8; have f9 := fz_blk HX5.out 9; have f10 := fz_blk HX5.out 10; have f11 := fz_blk HX5.out 11; have f12 := fz_blk HX5.out 12
  have f13 := fz_blk HX5.out 13; have f14 := fz_blk HX5.out 14; have f15 := fz_blk HX5.out 15; have f16 := fz_blk HX5.out 16; have f17 := fz_blk HX5.out 17; have f18 := fz_blk HX5.out 18; have f19 := fz_blk HX5.out 19
  have HX6 := Lib.hid (rte_fetch HX5.out false)
  have hon : Only (· = w.heap.size) w5 (w5.setCell ⟨w.heap.size, 13, none⟩ (.bool false)) := only_setCell w5 ⟨w.heap.size, 13, none⟩ (.bool false)
  have HP6 := Lib.hid ((hon.block _ (lt_of_some HP5.out) (by show ¬ w.heap.size + 1 = w.heap.size; omega)).trans HP5.out)
  have HR6 := Lib.hid ((hon.block _ (lt_of_some HR5.out) (by show ¬ w.heap.size + 1 + 1 = w.heap.size; omega)).trans HR5.out)
  have HB6 := Lib.hid (hon.below HB5.out (fun q hq => by have hq : q = w.heap.size := hq; omega) HB5.out.size)
  clear hon
  go_upto_region 13 with fail
  change Code.wp _ _ _ _ (w5.setCell ⟨w.heap.size, 13, none⟩ (.bool false))
  generalize (w5.setCell ⟨w.heap.size, 13, none⟩ (.bool false)) = w6 at *
  clear c0 c1 c13 c14 c15 c16 clt c2 c3 c4 c5 c6 c7 c8 c9 c10 c11 c12 c17 c18 c19 q0 q1 q2 q3 q4 qlt q5 q6 q7 q8 q9 q10 q11 q12 q13 q14 q15 f2 f3 f4 f5 f6 f7 f8 f9 f10 f11 f12 f13 f14 f15 f16 f17 f18 f19
  obtain ⟨⟨c0, c1, c13, c14, c15, c16, clt⟩, ⟨c2, c3, c4, c5, c6, c7, c8, c9, c10, c11, c12⟩, c17, c18, c19⟩ := rte_cells HX6.out
  obtain ⟨⟨q0, q1, q2, q3, q4, qlt⟩, q5, q6, q7, q8, q9, q10, q11, q12, q13, q14, q15⟩ := rep_cells HP6.out
  have f2 := fz_blk HX6.out 2; have f3 := fz_blk HX6.out 3; have f4 := fz_blk HX6.out 4; have f5 := fz_blk HX6.out 5; have f6 := fz_blk HX6.out 6; have f7 := fz_blk HX6.out 7; have f8 := fz_blk HX6.out 8; have f9 := fz_blk HX6.out 9; have f10 := fz_blk HX6.out 10; have f11 := fz_blk HX6.out 11; have f12 := fz_blk HX6.out 12
  have f13 := fz_blk HX6.out 13; have f14 := fz_blk HX6.out 14; have f15 := fz_blk HX6.out 15; have f16 := fz_blk HX6.out 16; have f17 := fz_blk HX6.out 17; have f18 := fz_blk HX6.out 18; have f19 := fz_blk HX6.out 19
  have HX7 := Lib.hid (rte_res HX6.out 181 0 nilV)
  have hon : Only (· = w.heap.size) w6 (((w6.setCell ⟨w.heap.size, 17, none⟩ (.int .i64 181)).setCell ⟨w.heap.size, 18, none⟩ (.int .i64 0)).setCell ⟨w.heap.size, 19, none⟩ nilV) := res_only3 w6 w.heap.size _ _ _
  have HP7 := Lib.hid ((hon.block _ (lt_of_some HP6.out) (by show ¬ w.heap.size + 1 = w.heap.size; omega)).trans HP6.out)
  have HR7 := Lib.hid ((hon.block _ (lt_of_some HR6.out) (by show ¬ w.heap.size + 1 + 1 = w.heap.size; omega)).trans HR6.out)
  have HB7 := Lib.hid (hon.below HB6.out (fun q hq => by have hq : q = w.heap.size := hq; omega) HB6.out.size)
  clear hon
  go_upto_region 14 with fail
  change Code.wp _ _ _ _ (((w6.setCell ⟨w.heap.size, 17, none⟩ (.int .i64 181)).setCell ⟨w.heap.size, 18, none⟩ (.int .i64 0)).setCell ⟨w.heap.size, 19, none⟩ nilV)
  generalize (((w6.setCell ⟨w.heap.size, 17, none⟩ (.int .i64 181)).setCell ⟨w.heap.size, 18, none⟩ (.int .i64 0)).setCell ⟨w.heap.size, 19, none⟩ nilV) = w7 at *
  clear c0 c1 c13 c14 c15 c16 clt c2 c3 c4 c5 c6 c7 c8 c9 c10 c11 c12 c17 c18 c19 q0 q1 q2 q3 q4 qlt q5 q6 q7 q8 q9 q10 q11 q12 q13 q14 q15 f2 f3 f4 f5 f6 f7 f8 f9 f10 f11 f12 f13 f14 f15 f16 f17 f18 f19
  obtain ⟨⟨c0, c1, c13, c14, c15, c16, clt⟩, ⟨c2, c3, c4, c5, c6, c7, c8, c9, c10, c11, c12⟩, c17, c18, c19⟩ := rte_cells HX7.out
  obtain ⟨⟨q0, q1, q2, q3, q4, qlt⟩, q5, q6, q7, q8, q9, q10, q11, q12, q13, q14, q15⟩ := rep_cells HP7.out
  have f2 := fz_blk HX7.out 2; have f3 := fz_blk HX7.out 3; have f4 := fz_blk HX7.out 4; have f5 := fz_blk HX7.out 5; have f6 := fz_blk HX7.out 6; have f7 := fz_blk HX7.out 7; have f8 := fz_blk HX7.out 8; have f9 := fz_blk HX7.out 9; have f10 := fz_blk HX7.out 10; have f11 := fz_blk HX7.out 11; have f12 := fz_blk HX7.out 12
  have f13 := fz_blk HX7.out 13; have f14 := fz_blk HX7.out 14; have f15 := fz_blk HX7.out 15; have f16 := fz_blk HX7.out 16; have f17 := fz_blk HX7.out 17; have f18 := fz_blk HX7.out 18; have f19 := fz_blk HX7.out 19
  refine wp_region_lit ?_
  refine wpList_load39 rfl (.tmp 2) rfl w.heap.size rfl HX7.out ?_
  simp only [Act.put, List.setIfInBounds_toArray, List.set_cons_zero, List.set_cons_succ]
  refine wpList_store39 rfl (.tmp 4) (.tmp 56) rfl (w.heap.size + 1 + 1) rfl (r := { R with left := 0, done := true, fetch := false, err := 181, time := 0 }) (v := (.slice A2 R.map.sp.length c2')) (j := nilV) rfl rfl rfl HR7.out ?_
  intro w19 h19 ho19
  simp only [Act.put, List.setIfInBounds_toArray, List.set_cons_zero, List.set_cons_succ]
  go_wp2
  refine bodyPost_ret (results39_one rfl _ _ (w.heap.size + 1 + 1) rfl h19) rfl ?_
  rw [HRt.out]
  exact ⟨⟨A2, c2', rfl, HI2.out⟩, ho19.below HB7.out (fun q hq => by omega) HB7.out.size⟩
end Go.Proofs.Ytimondpollbdfaa
