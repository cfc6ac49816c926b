/- What is proved: what a reply that is no answer makes of a right way: the document's turn. -/
import Derived.Test.YtimondpollbdfaaHeardP
import Derived.Test.YtimondpollbdfaaRRte
set_option linter.unusedVariables false
set_option linter.unusedSimpArgs false
namespace Go.Proofs.Ytimondpollbdfaa
open Go.RowKit
attribute [local go_sem] Span.val Atl.val Plan.val Rte.val Rep.val

theorem rte_fetch {W : World} {g : Nat} {r : Rte} {V J : Value} (h : W.heap[g]? = some (r.blk V J)) (b : Bool) : (W.setCell ⟨g, 13, none⟩ (.bool b)).heap[g]? = some ({ r with fetch := b }.blk V J) := by
  have := heap_setCell_at (i := 13) h (.bool b)
  rw [this]
  simp only [Rte.blk, List.setIfInBounds_toArray, List.set_cons_zero, List.set_cons_succ]
theorem rte_node {W : World} {g : Nat} {r : Rte} {V J : Value} (h : W.heap[g]? = some (r.blk V J)) (n : Int) : (W.setCell ⟨g, 14, none⟩ (.int .i64 n)).heap[g]? = some ({ r with node := n }.blk V J) := by
  have := heap_setCell_at (i := 14) h (.int .i64 n)
  rw [this]
  simp only [Rte.blk, List.setIfInBounds_toArray, List.set_cons_zero, List.set_cons_succ]
theorem rte_left {W : World} {g : Nat} {r : Rte} {V J : Value} (h : W.heap[g]? = some (r.blk V J)) (n : Int) : (W.setCell ⟨g, 15, none⟩ (.int .i64 n)).heap[g]? = some ({ r with left := n }.blk V J) := by
  have := heap_setCell_at (i := 15) h (.int .i64 n)
  rw [this]
  simp only [Rte.blk, List.setIfInBounds_toArray, List.set_cons_zero, List.set_cons_succ]
theorem rte_done {W : World} {g : Nat} {r : Rte} {V J : Value} (h : W.heap[g]? = some (r.blk V J)) (b : Bool) : (W.setCell ⟨g, 16, none⟩ (.bool b)).heap[g]? = some ({ r with done := b }.blk V J) := by
  have := heap_setCell_at (i := 16) h (.bool b)
  rw [this]
  simp only [Rte.blk, List.setIfInBounds_toArray, List.set_cons_zero, List.set_cons_succ]
theorem rte_res {W : World} {g : Nat} {r : Rte} {V J : Value} (h : W.heap[g]? = some (r.blk V J)) (e t : Int) (J' : Value) : (((W.setCell ⟨g, 17, none⟩ (.int .i64 e)).setCell ⟨g, 18, none⟩ (.int .i64 t)).setCell ⟨g, 19, none⟩ J').heap[g]? = some ({ r with err := e, time := t }.blk V J') := by
  have := heap_setCell_at (i := 19) (heap_setCell_at (i := 18) (heap_setCell_at (i := 17) h (.int .i64 e)) (.int .i64 t)) J'
  rw [this]
  simp only [Rte.blk, List.setIfInBounds_toArray, List.set_cons_zero, List.set_cons_succ]
theorem res_only3 (w : World) (g : Nat) (x y z : Value) : Only (· = g) w (((w.setCell ⟨g, 17, none⟩ x).setCell ⟨g, 18, none⟩ y).setCell ⟨g, 19, none⟩ z) :=
  ((only_setCell w ⟨g, 17, none⟩ x).trans (only_setCell _ ⟨g, 18, none⟩ y) (fun _ _ h => h)).trans (only_setCell _ ⟨g, 19, none⟩ z) (fun _ _ h => h)
set_option maxRecDepth 100000 in
set_option maxHeartbeats 1000000 in
theorem turn_stale_n (w : World) (r : Rte) (p : Rep) (V J pj pv : Value) (hV : V.oneCell' = true) (hJ : J.oneCell' = true) (hv : RteOk r) (hx : r.node < r.nodes) (k1 : p.kind = 2) (k2 : r.fetch = false) :
    Calls Try.prog 59 #[r.val V J, p.val pj pv] w fun e w' => e = .returned ({ r with fetch := true, node := 1 }.val V J) ∧ Below w.heap.size w w' := by
  have g1 := hv.1; have g2 := hv.2.1; have g3 := hv.2.2.1; have g4 := hv.2.2.2.1
  have hw : IntKind.i64.wrap (r.node + 1) = r.node + 1 := IntWalk.i64_in _ (by omega)
  have n1 : ¬ r.nodes < r.node + 1 := by omega
  have n2 : decide (r.nodes < r.node + 1) = false := decide_eq_false n1
  have Hnx := Lib.hid (show r.node % r.nodes + 1 = r.node + 1 by rw [Int.emod_eq_of_lt (by omega) hx])
  clear hx hv
  have K1 := Lib.hid k1; clear k1
  have K2 := Lib.hid k2; clear k2
  go_enter Try.func59, Try.ntmps59
  go_upto_region 1 with fail
  have hX0 : (((w.alloc (r.blk V J)).alloc (p.blk pj pv)).alloc (zeroR.blk nilV nilV)).heap[w.heap.size]? = some (r.blk V J) := (Below.heap_alloc _ _ _ (by simp; omega)).trans ((Below.heap_alloc _ _ _ (by simp)).trans (heap_alloc_new w _))
  have hR0 : (((w.alloc (r.blk V J)).alloc (p.blk pj pv)).alloc (zeroR.blk nilV nilV)).heap[w.heap.size + 1 + 1]? = some (zeroR.blk nilV nilV) := by simpa using heap_alloc_new ((w.alloc (r.blk V J)).alloc (p.blk pj pv)) (zeroR.blk nilV nilV)
  have hP0 : (((w.alloc (r.blk V J)).alloc (p.blk pj pv)).alloc (zeroR.blk nilV nilV)).heap[w.heap.size + 1]? = some (p.blk pj pv) := (Below.heap_alloc _ _ _ (by simp)).trans (heap_second _ _ _)
  have hB0 : Below w.heap.size w (((w.alloc (r.blk V J)).alloc (p.blk pj pv)).alloc (zeroR.blk nilV nilV)) := al3 _ _ _
  change Code.wp _ _ _ _ (((w.alloc (r.blk V J)).alloc (p.blk pj pv)).alloc (zeroR.blk nilV nilV))
  generalize (((w.alloc (r.blk V J)).alloc (p.blk pj pv)).alloc (zeroR.blk nilV nilV)) = w0 at *
  have HX0 := Lib.hid hX0; have HP0 := Lib.hid hP0; have HR0 := Lib.hid hR0; have HB0 := Lib.hid hB0
  clear hX0 hP0 hR0 hB0
  obtain ⟨⟨c0, c1, c13, c14, c15, c16, clt⟩, ⟨c2, c3, c4, c5, c6, c7, c8, c9, c10, c11, c12⟩, c17, c18, c19⟩ := rte_cells HX0.out
  obtain ⟨⟨q0, q1, q2, q3, q4, qlt⟩, q5, q6, q7, q8, q9, q10, q11, q12, q13, q14, q15⟩ := rep_cells HP0.out
  have f2 := fz_blk HX0.out 2; have f3 := fz_blk HX0.out 3; have f4 := fz_blk HX0.out 4; have f5 := fz_blk HX0.out 5; have f6 := fz_blk HX0.out 6; have f7 := fz_blk HX0.out 7; have f8 := fz_blk HX0.out 8; have f9 := fz_blk HX0.out 9; have f10 := fz_blk HX0.out 10; have f11 := fz_blk HX0.out 11; have f12 := fz_blk HX0.out 12
  have f13 := fz_blk HX0.out 13; have f14 := fz_blk HX0.out 14; have f15 := fz_blk HX0.out 15; have f16 := fz_blk HX0.out 16; have f17 := fz_blk HX0.out 17; have f18 := fz_blk HX0.out 18; have f19 := fz_blk HX0.out 19
  rw [K1.out] at q0
  rw [K2.out] at c13
  go_upto_region 7 with fail
  have HX1 := Lib.hid (rte_fetch HX0.out true)
  have hon : Only (· = w.heap.size) w0 (w0.setCell ⟨w.heap.size, 13, none⟩ (.bool true)) := only_setCell w0 ⟨w.heap.size, 13, none⟩ (.bool true)
  have HP1 := Lib.hid ((hon.block _ (lt_of_some HP0.out) (by show ¬ w.heap.size + 1 = w.heap.size; omega)).trans HP0.out)
  have HR1 := Lib.hid ((hon.block _ (lt_of_some HR0.out) (by show ¬ w.heap.size + 1 + 1 = w.heap.size; omega)).trans HR0.out)
  have HB1 := Lib.hid (hon.below HB0.out (fun q hq => by have hq : q = w.heap.size := hq; omega) HB0.out.size)
  clear hon
  go_upto_region 8 with fail
  change Code.wp _ _ _ _ (w0.setCell ⟨w.heap.size, 13, none⟩ (.bool true))
  generalize (w0.setCell ⟨w.heap.size, 13, none⟩ (.bool true)) = w1 at *
  clear c0 c1 c13 c14 c15 c16 clt c2 c3 c4 c5 c6 c7 c8 c9 c10 c11 c12 c17 c18 c19 q0 q1 q2 q3 q4 qlt q5 q6 q7 q8 q9 q10 q11 q12 q13 q14 q15 f2 f3 f4 f5 f6 f7 f8 f9 f10 f11 f12 f13 f14 f15 f16 f17 f18 f19
  obtain ⟨⟨c0, c1, c13, c14, c15, c16, clt⟩, ⟨c2, c3, c4, c5, c6, c7, c8, c9, c10, c11, c12⟩, c17, c18, c19⟩ := rte_cells HX1.out
  obtain ⟨⟨q0, q1, q2, q3, q4, qlt⟩, q5, q6, q7, q8, q9, q10, q11, q12, q13, q14, q15⟩ := rep_cells HP1.out
  have f2 := fz_blk HX1.out 2; have f3 := fz_blk HX1.out 3; have f4 := fz_blk HX1.out 4; have f5 := fz_blk HX1.out 5; have f6 := fz_blk HX1.out 6; have f7 := fz_blk HX1.out 7; have f8 := fz_blk HX1.out 8; have f9 := fz_blk HX1.out 9; have f10 := fz_blk HX1.out 10; have f11 := fz_blk HX1.out 11; have f12 := fz_blk HX1.out 12
  have f13 := fz_blk HX1.out 13; have f14 := fz_blk HX1.out 14; have f15 := fz_blk HX1.out 15; have f16 := fz_blk HX1.out 16; have f17 := fz_blk HX1.out 17; have f18 := fz_blk HX1.out 18; have f19 := fz_blk HX1.out 19
  go_upto_region 17 with fail
  have HX2 := Lib.hid (rte_node HX1.out (1))
  have hon : Only (· = w.heap.size) w1 (w1.setCell ⟨w.heap.size, 14, none⟩ (.int .i64 (1))) := only_setCell w1 ⟨w.heap.size, 14, none⟩ (.int .i64 (1))
  have HP2 := Lib.hid ((hon.block _ (lt_of_some HP1.out) (by show ¬ w.heap.size + 1 = w.heap.size; omega)).trans HP1.out)
  have HR2 := Lib.hid ((hon.block _ (lt_of_some HR1.out) (by show ¬ w.heap.size + 1 + 1 = w.heap.size; omega)).trans HR1.out)
  have HB2 := Lib.hid (hon.below HB1.out (fun q hq => by have hq : q = w.heap.size := hq; omega) HB1.out.size)
  clear hon
  go_upto_region 18 with fail
  change Code.wp _ _ _ _ (w1.setCell ⟨w.heap.size, 14, none⟩ (.int .i64 (1)))
  generalize (w1.setCell ⟨w.heap.size, 14, none⟩ (.int .i64 (1))) = w2 at *
  clear c0 c1 c13 c14 c15 c16 clt c2 c3 c4 c5 c6 c7 c8 c9 c10 c11 c12 c17 c18 c19 q0 q1 q2 q3 q4 qlt q5 q6 q7 q8 q9 q10 q11 q12 q13 q14 q15 f2 f3 f4 f5 f6 f7 f8 f9 f10 f11 f12 f13 f14 f15 f16 f17 f18 f19
  obtain ⟨⟨c0, c1, c13, c14, c15, c16, clt⟩, ⟨c2, c3, c4, c5, c6, c7, c8, c9, c10, c11, c12⟩, c17, c18, c19⟩ := rte_cells HX2.out
  obtain ⟨⟨q0, q1, q2, q3, q4, qlt⟩, q5, q6, q7, q8, q9, q10, q11, q12, q13, q14, q15⟩ := rep_cells HP2.out
  have f2 := fz_blk HX2.out 2; have f3 := fz_blk HX2.out 3; have f4 := fz_blk HX2.out 4; have f5 := fz_blk HX2.out 5; have f6 := fz_blk HX2.out 6; have f7 := fz_blk HX2.out 7; have f8 := fz_blk HX2.out 8; have f9 := fz_blk HX2.out 9; have f10 := fz_blk HX2.out 10; have f11 := fz_blk HX2.out 11; have f12 := fz_blk HX2.out 12
  have f13 := fz_blk HX2.out 13; have f14 := fz_blk HX2.out 14; have f15 := fz_blk HX2.out 15; have f16 := fz_blk HX2.out 16; have f17 := fz_blk HX2.out 17; have f18 := fz_blk HX2.out 18; have f19 := fz_blk HX2.out 19
  refine wp_region_lit ?_
  refine wpList_load39 rfl (.tmp 2) rfl w.heap.size rfl HX2.out ?_
  simp only [Act.put, List.setIfInBounds_toArray, List.set_cons_zero, List.set_cons_succ]
  refine wpList_store39 rfl (.tmp 4) (.tmp 61) rfl (w.heap.size + 1 + 1) rfl (r := { r with fetch := true, node := 1 }) (v := V) (j := J) rfl hV hJ HR2.out ?_
  intro w19 h19 ho19
  simp only [Act.put, List.setIfInBounds_toArray, List.set_cons_zero, List.set_cons_succ]
  go_wp2
  refine bodyPost_ret (results39_one rfl _ _ (w.heap.size + 1 + 1) rfl h19) rfl ?_
  exact ⟨rfl, ho19.below HB2.out (fun q hq => by omega) HB2.out.size⟩
set_option maxRecDepth 100000 in
set_option maxHeartbeats 1000000 in
theorem turn_stale_l (w : World) (r : Rte) (p : Rep) (V J pj pv : Value) (hV : V.oneCell' = true) (hJ : J.oneCell' = true) (hv : RteOk r) (hx : r.node = r.nodes) (k1 : p.kind = 2) (k2 : r.fetch = false) :
    Calls Try.prog 59 #[r.val V J, p.val pj pv] w fun e w' => e = .returned ({ r with fetch := true, node := 1 }.val V J) ∧ Below w.heap.size w w' := by
  have g1 := hv.1; have g2 := hv.2.1; have g3 := hv.2.2.1; have g4 := hv.2.2.2.1
  have hw : IntKind.i64.wrap (r.node + 1) = r.node + 1 := IntWalk.i64_in _ (by omega)
  have n1 : r.nodes < r.node + 1 := by omega
  have n2 : decide (r.nodes < r.node + 1) = true := decide_eq_true n1
  have Hnx := Lib.hid (show r.node % r.nodes + 1 = 1 by rw [hx, Int.emod_self]; rfl)
  clear hx hv
  have K1 := Lib.hid k1; clear k1
  have K2 := Lib.hid k2; clear k2
  go_enter Try.func59, Try.ntmps59
  go_upto_region 1 with fail
  have hX0 : (((w.alloc (r.blk V J)).alloc (p.blk pj pv)).alloc (zeroR.blk nilV nilV)).heap[w.heap.size]? = some (r.blk V J) := (Below.heap_alloc _ _ _ (by simp; omega)).trans ((Below.heap_alloc _ _ _ (by simp)).trans (heap_alloc_new w _))
  have hR0 : (((w.alloc (r.blk V J)).alloc (p.blk pj pv)).alloc (zeroR.blk nilV nilV)).heap[w.heap.size + 1 + 1]? = some (zeroR.blk nilV nilV) := by simpa using heap_alloc_new ((w.alloc (r.blk V J)).alloc (p.blk pj pv)) (zeroR.blk nilV nilV)
  have hP0 : (((w.alloc (r.blk V J)).alloc (p.blk pj pv)).alloc (zeroR.blk nilV nilV)).heap[w.heap.size + 1]? = some (p.blk pj pv) := (Below.heap_alloc _ _ _ (by simp)).trans (heap_second _ _ _)
  have hB0 : Below w.heap.size w (((w.alloc (r.blk V J)).alloc (p.blk pj pv)).alloc (zeroR.blk nilV nilV)) := al3 _ _ _
  change Code.wp _ _ _ _ (((w.alloc (r.blk V J)).alloc (p.blk pj pv)).alloc (zeroR.blk nilV nilV))
  generalize (((w.alloc (r.blk V J)).alloc (p.blk pj pv)).alloc (zeroR.blk nilV nilV)) = w0 at *
  have HX0 := Lib.hid hX0; have HP0 := Lib.hid hP0; have HR0 := Lib.hid hR0; have HB0 := Lib.hid hB0
  clear hX0 hP0 hR0 hB0
  obtain ⟨⟨c0, c1, c13, c14, c15, c16, clt⟩, ⟨c2, c3, c4, c5, c6, c7, c8, c9, c10, c11, c12⟩, c17, c18, c19⟩ := rte_cells HX0.out
  obtain ⟨⟨q0, q1, q2, q3, q4, qlt⟩, q5, q6, q7, q8, q9, q10, q11, q12, q13, q14, q15⟩ := rep_cells HP0.out
  have f2 := fz_blk HX0.out 2; have f3 := fz_blk HX0.out 3; have f4 := fz_blk HX0.out 4; have f5 := fz_blk HX0.out 5; have f6 := fz_blk HX0.out 6; have f7 := fz_blk HX0.out 7; have f8 := fz_blk HX0.out 8; have f9 := fz_blk HX0.out 9; have f10 := fz_blk HX0.out 10; have f11 := fz_blk HX0.out 11; have f12 := fz_blk HX0.out 12
  have f13 := fz_blk HX0.out 13; have f14 := fz_blk HX0.out 14; have f15 := fz_blk HX0.out 15; have f16 := fz_blk HX0.out 16; have f17 := fz_blk HX0.out 17; have f18 := fz_blk HX0.out 18; have f19 := fz_blk HX0.out 19
  rw [K1.out] at q0
  rw [K2.out] at c13
  go_upto_region 7 with fail
  have HX1 := Lib.hid (rte_fetch HX0.out true)
  have hon : Only (· = w.heap.size) w0 (w0.setCell ⟨w.heap.size, 13, none⟩ (.bool true)) := only_setCell w0 ⟨w.heap.size, 13, none⟩ (.bool true)
  have HP1 := Lib.hid ((hon.block _ (lt_of_some HP0.out) (by show ¬ w.heap.size + 1 = w.heap.size; omega)).trans HP0.out)
  have HR1 := Lib.hid ((hon.block _ (lt_of_some HR0.out) (by show ¬ w.heap.size + 1 + 1 = w.heap.size; omega)).trans HR0.out)
  have HB1 := Lib.hid (hon.below HB0.out (fun q hq => by have hq : q = w.heap.size := hq; omega) HB0.out.size)
  clear hon
  go_upto_region 8 with fail
  change Code.wp _ _ _ _ (w0.setCell ⟨w.heap.size, 13, none⟩ (.bool true))
  generalize (w0.setCell ⟨w.heap.size, 13, none⟩ (.bool true)) = w1 at *
  clear c0 c1 c13 c14 c15 c16 clt c2 c3 c4 c5 c6 c7 c8 c9 c10 c11 c12 c17 c18 c19 q0 q1 q2 q3 q4 qlt q5 q6 q7 q8 q9 q10 q11 q12 q13 q14 q15 f2 f3 f4 f5 f6 f7 f8 f9 f10 f11 f12 f13 f14 f15 f16 f17 f18 f19
  obtain ⟨⟨c0, c1, c13, c14, c15, c16, clt⟩, ⟨c2, c3, c4, c5, c6, c7, c8, c9, c10, c11, c12⟩, c17, c18, c19⟩ := rte_cells HX1.out
  obtain ⟨⟨q0, q1, q2, q3, q4, qlt⟩, q5, q6, q7, q8, q9, q10, q11, q12, q13, q14, q15⟩ := rep_cells HP1.out
  have f2 := fz_blk HX1.out 2; have f3 := fz_blk HX1.out 3; have f4 := fz_blk HX1.out 4; have f5 := fz_blk HX1.out 5; have f6 := fz_blk HX1.out 6; have f7 := fz_blk HX1.out 7; have f8 := fz_blk HX1.out 8; have f9 := fz_blk HX1.out 9; have f10 := fz_blk HX1.out 10; have f11 := fz_blk HX1.out 11; have f12 := fz_blk HX1.out 12
  have f13 := fz_blk HX1.out 13; have f14 := fz_blk HX1.out 14; have f15 := fz_blk HX1.out 15; have f16 := fz_blk HX1.out 16; have f17 := fz_blk HX1.out 17; have f18 := fz_blk HX1.out 18; have f19 := fz_blk HX1.out 19
  go_upto_region 17 with fail
  have HX2 := Lib.hid (rte_node HX1.out (1))
  have hon : Only (· = w.heap.size) w1 (w1.setCell ⟨w.heap.size, 14, none⟩ (.int .i64 (1))) := only_setCell w1 ⟨w.heap.size, 14, none⟩ (.int .i64 (1))
  have HP2 := Lib.hid ((hon.block _ (lt_of_some HP1.out) (by show ¬ w.heap.size + 1 = w.heap.size; omega)).trans HP1.out)
  have HR2 := Lib.hid ((hon.block _ (lt_of_some HR1.out) (by show ¬ w.heap.size + 1 + 1 = w.heap.size; omega)).trans HR1.out)
  have HB2 := Lib.hid (hon.below HB1.out (fun q hq => by have hq : q = w.heap.size := hq; omega) HB1.out.size)
  clear hon
  go_upto_region 18 with fail
  change Code.wp _ _ _ _ (w1.setCell ⟨w.heap.size, 14, none⟩ (.int .i64 (1)))
  generalize (w1.setCell ⟨w.heap.size, 14, none⟩ (.int .i64 (1))) = w2 at *
  clear c0 c1 c13 c14 c15 c16 clt c2 c3 c4 c5 c6 c7 c8 c9 c10 c11 c12 c17 c18 c19 q0 q1 q2 q3 q4 qlt q5 q6 q7 q8 q9 q10 q11 q12 q13 q14 q15 f2 f3 f4 f5 f6 f7 f8 f9 f10 f11 f12 f13 f14 f15 f16 f17 f18 f19
  obtain ⟨⟨c0, c1, c13, c14, c15, c16, clt⟩, ⟨c2, c3, c4, c5, c6, c7, c8, c9, c10, c11, c12⟩, c17, c18, c19⟩ := rte_cells HX2.out
  obtain ⟨⟨q0, q1, q2, q3, q4, qlt⟩, q5, q6, q7, q8, q9, q10, q11, q12, q13, q14, q15⟩ := rep_cells HP2.out
  have f2 := fz_blk HX2.out 2; have f3 := fz_blk HX2.out 3; have f4 := fz_blk HX2.out 4; have f5 := fz_blk HX2.out 5; have f6 := fz_blk HX2.out 6; have f7 := fz_blk HX2.out 7; have f8 := fz_blk HX2.out 8; have f9 := fz_blk HX2.out 9; have f10 := fz_blk HX2.out 10; have f11 := fz_blk HX2.out 11; have f12 := fz_blk HX2.out 12
  have f13 := fz_blk HX2.out 13; have f14 := fz_blk HX2.out 14; have f15 := fz_blk HX2.out 15; have f16 := fz_blk HX2.out 16; have f17 := fz_blk HX2.out 17; have f18 := fz_blk HX2.out 18; have f19 := fz_blk HX2.out 19
  refine wp_region_lit ?_
  refine wpList_load39 rfl (.tmp 2) rfl w.heap.size rfl HX2.out ?_
  simp only [Act.put, List.setIfInBounds_toArray, List.set_cons_zero, List.set_cons_succ]
  refine wpList_store39 rfl (.tmp 4) (.tmp 61) rfl (w.heap.size + 1 + 1) rfl (r := { r with fetch := true, node := 1 }) (v := V) (j := J) rfl hV hJ HR2.out ?_
  intro w19 h19 ho19
  simp only [Act.put, List.setIfInBounds_toArray, List.set_cons_zero, List.set_cons_succ]
  go_wp2
  refine bodyPost_ret (results39_one rfl _ _ (w.heap.size + 1 + 1) rfl h19) rfl ?_
  exact ⟨rfl, ho19.below HB2.out (fun q hq => by omega) HB2.out.size⟩
set_option maxRecDepth 100000 in
set_option maxHeartbeats 1000000 in
theorem turn_two_n (w : World) (r : Rte) (p : Rep) (V J pj pv : Value) (hV : V.oneCell' = true) (hJ : J.oneCell' = true) (hv : RteOk r) (hx : r.node < r.nodes) (k1 : p.kind = 2) (k2 : r.fetch = true) :
    Calls Try.prog 59 #[r.val V J, p.val pj pv] w fun e w' => e = .returned ({ r with node := r.node % r.nodes + 1 }.val V J) ∧ Below w.heap.size w w' := by
  have g1 := hv.1; have g2 := hv.2.1; have g3 := hv.2.2.1; have g4 := hv.2.2.2.1
  have hw : IntKind.i64.wrap (r.node + 1) = r.node + 1 := IntWalk.i64_in _ (by omega)
  have n1 : ¬ r.nodes < r.node + 1 := by omega
  have n2 : decide (r.nodes < r.node + 1) = false := decide_eq_false n1
  have Hnx := Lib.hid (show r.node % r.nodes + 1 = r.node + 1 by rw [Int.emod_eq_of_lt (by omega) hx])
  clear hx hv
  have K1 := Lib.hid k1; clear k1
  have K2 := Lib.hid k2; clear k2
  go_enter Try.func59, Try.ntmps59
  go_upto_region 1 with fail
  have hX0 : (((w.alloc (r.blk V J)).alloc (p.blk pj pv)).alloc (zeroR.blk nilV nilV)).heap[w.heap.size]? = some (r.blk V J) := (Below.heap_alloc _ _ _ (by simp; omega)).trans ((Below.heap_alloc _ _ _ (by simp)).trans (heap_alloc_new w _))
  have hR0 : (((w.alloc (r.blk V J)).alloc (p.blk pj pv)).alloc (zeroR.blk nilV nilV)).heap[w.heap.size + 1 + 1]? = some (zeroR.blk nilV nilV) := by simpa using heap_alloc_new ((w.alloc (r.blk V J)).alloc (p.blk pj pv)) (zeroR.blk nilV nilV)
  have hP0 : (((w.alloc (r.blk V J)).alloc (p.blk pj pv)).alloc (zeroR.blk nilV nilV)).heap[w.heap.size + 1]? = some (p.blk pj pv) := (Below.heap_alloc _ _ _ (by simp)).trans (heap_second _ _ _)
  have hB0 : Below w.heap.size w (((w.alloc (r.blk V J)).alloc (p.blk pj pv)).alloc (zeroR.blk nilV nilV)) := al3 _ _ _
  change Code.wp _ _ _ _ (((w.alloc (r.blk V J)).alloc (p.blk pj pv)).alloc (zeroR.blk nilV nilV))
  generalize (((w.alloc (r.blk V J)).alloc (p.blk pj pv)).alloc (zeroR.blk nilV nilV)) = w0 at *
  have HX0 := Lib.hid hX0; have HP0 := Lib.hid hP0; have HR0 := Lib.hid hR0; have HB0 := Lib.hid hB0
  clear hX0 hP0 hR0 hB0
  obtain ⟨⟨c0, c1, c13, c14, c15, c16, clt⟩, ⟨c2, c3, c4, c5, c6, c7, c8, c9, c10, c11, c12⟩, c17, c18, c19⟩ := rte_cells HX0.out
  obtain ⟨⟨q0, q1, q2, q3, q4, qlt⟩, q5, q6, q7, q8, q9, q10, q11, q12, q13, q14, q15⟩ := rep_cells HP0.out
  have f2 := fz_blk HX0.out 2; have f3 := fz_blk HX0.out 3; have f4 := fz_blk HX0.out 4; have f5 := fz_blk HX0.out 5; have f6 := fz_blk HX0.out 6; have f7 := fz_blk HX0.out 7; have f8 := fz_blk HX0.out 8; have f9 := fz_blk HX0.out 9; have f10 := fz_blk HX0.out 10; have f11 := fz_blk HX0.out 11; have f12 := fz_blk HX0.out 12
  have f13 := fz_blk HX0.out 13; have f14 := fz_blk HX0.out 14; have f15 := fz_blk HX0.out 15; have f16 := fz_blk HX0.out 16; have f17 := fz_blk HX0.out 17; have f18 := fz_blk HX0.out 18; have f19 := fz_blk HX0.out 19
  rw [K1.out] at q0
  rw [K2.out] at c13
  go_upto_region 17 with fail
  have HX1 := Lib.hid (rte_node HX0.out (r.node + 1))
  have hon : Only (· = w.heap.size) w0 (w0.setCell ⟨w.heap.size, 14, none⟩ (.int .i64 (r.node + 1))) := only_setCell w0 ⟨w.heap.size, 14, none⟩ (.int .i64 (r.node + 1))
  have HP1 := Lib.hid ((hon.block _ (lt_of_some HP0.out) (by show ¬ w.heap.size + 1 = w.heap.size; omega)).trans HP0.out)
  have HR1 := Lib.hid ((hon.block _ (lt_of_some HR0.out) (by show ¬ w.heap.size + 1 + 1 = w.heap.size; omega)).trans HR0.out)
  have HB1 := Lib.hid (hon.below HB0.out (fun q hq => by have hq : q = w.heap.size := hq; omega) HB0.out.size)
  clear hon
  go_upto_region 18 with fail
  change Code.wp _ _ _ _ (w0.setCell ⟨w.heap.size, 14, none⟩ (.int .i64 (r.node + 1)))
  generalize (w0.setCell ⟨w.heap.size, 14, none⟩ (.int .i64 (r.node + 1))) = w1 at *
  clear c0 c1 c13 c14 c15 c16 clt c2 c3 c4 c5 c6 c7 c8 c9 c10 c11 c12 c17 c18 c19 q0 q1 q2 q3 q4 qlt q5 q6 q7 q8 q9 q10 q11 q12 q13 q14 q15 f2 f3 f4 f5 f6 f7 f8 f9 f10 f11 f12 f13 f14 f15 f16 f17 f18 f19
  obtain ⟨⟨c0, c1, c13, c14, c15, c16, clt⟩, ⟨c2, c3, c4, c5, c6, c7, c8, c9, c10, c11, c12⟩, c17, c18, c19⟩ := rte_cells HX1.out
  obtain ⟨⟨q0, q1, q2, q3, q4, qlt⟩, q5, q6, q7, q8, q9, q10, q11, q12, q13, q14, q15⟩ := rep_cells HP1.out
  have f2 := fz_blk HX1.out 2; have f3 := fz_blk HX1.out 3; have f4 := fz_blk HX1.out 4; have f5 := fz_blk HX1.out 5; have f6 := fz_blk HX1.out 6; have f7 := fz_blk HX1.out 7; have f8 := fz_blk HX1.out 8; have f9 := fz_blk HX1.out 9; have f10 := fz_blk HX1.out 10; have f11 := fz_blk HX1.out 11; have f12 := fz_blk HX1.out 12
  have f13 := fz_blk HX1.out 13; have f14 := fz_blk HX1.out 14; have f15 := fz_blk HX1.out 15; have f16 := fz_blk HX1.out 16; have f17 := fz_blk HX1.out 17; have f18 := fz_blk HX1.out 18; have f19 := fz_blk HX1.out 19
  refine wp_region_lit ?_
  refine wpList_load39 rfl (.tmp 2) rfl w.heap.size rfl HX1.out ?_
  simp only [Act.put, List.setIfInBounds_toArray, List.set_cons_zero, List.set_cons_succ]
  refine wpList_store39 rfl (.tmp 4) (.tmp 61) rfl (w.heap.size + 1 + 1) rfl (r := { r with node := r.node + 1 }) (v := V) (j := J) rfl hV hJ HR1.out ?_
  intro w19 h19 ho19
  simp only [Act.put, List.setIfInBounds_toArray, List.set_cons_zero, List.set_cons_succ]
  go_wp2
  refine bodyPost_ret (results39_one rfl _ _ (w.heap.size + 1 + 1) rfl h19) rfl ?_
  exact ⟨by rw [Hnx.out]; rfl, ho19.below HB1.out (fun q hq => by omega) HB1.out.size⟩
set_option maxRecDepth 100000 in
set_option maxHeartbeats 1000000 in
theorem turn_two_l (w : World) (r : Rte) (p : Rep) (V J pj pv : Value) (hV : V.oneCell' = true) (hJ : J.oneCell' = true) (hv : RteOk r) (hx : r.node = r.nodes) (k1 : p.kind = 2) (k2 : r.fetch = true) :
    Calls Try.prog 59 #[r.val V J, p.val pj pv] w fun e w' => e = .returned ({ r with node := r.node % r.nodes + 1 }.val V J) ∧ Below w.heap.size w w' := by
  have g1 := hv.1; have g2 := hv.2.1; have g3 := hv.2.2.1; have g4 := hv.2.2.2.1
  have hw : IntKind.i64.wrap (r.node + 1) = r.node + 1 := IntWalk.i64_in _ (by omega)
  have n1 : r.nodes < r.node + 1 := by omega
  have n2 : decide (r.nodes < r.node + 1) = true := decide_eq_true n1
  have Hnx := Lib.hid (show r.node % r.nodes + 1 = 1 by rw [hx, Int.emod_self]; rfl)
  clear hx hv
  have K1 := Lib.hid k1; clear k1
  have K2 := Lib.hid k2; clear k2
  go_enter Try.func59, Try.ntmps59
  go_upto_region 1 with fail
  have hX0 : (((w.alloc (r.blk V J)).alloc (p.blk pj pv)).alloc (zeroR.blk nilV nilV)).heap[w.heap.size]? = some (r.blk V J) := (Below.heap_alloc _ _ _ (by simp; omega)).trans ((Below.heap_alloc _ _ _ (by simp)).trans (heap_alloc_new w _))
  have hR0 : (((w.alloc (r.blk V J)).alloc (p.blk pj pv)).alloc (zeroR.blk nilV nilV)).heap[w.heap.size + 1 + 1]? = some (zeroR.blk nilV nilV) := by simpa using heap_alloc_new ((w.alloc (r.blk V J)).alloc (p.blk pj pv)) (zeroR.blk nilV nilV)
  have hP0 : (((w.alloc (r.blk V J)).alloc (p.blk pj pv)).alloc (zeroR.blk nilV nilV)).heap[w.heap.size + 1]? = some (p.blk pj pv) := (Below.heap_alloc _ _ _ (by simp)).trans (heap_second _ _ _)
  have hB0 : Below w.heap.size w (((w.alloc (r.blk V J)).alloc (p.blk pj pv)).alloc (zeroR.blk nilV nilV)) := al3 _ _ _
  change Code.wp _ _ _ _ (((w.alloc (r.blk V J)).alloc (p.blk pj pv)).alloc (zeroR.blk nilV nilV))
  generalize (((w.alloc (r.blk V J)).alloc (p.blk pj pv)).alloc (zeroR.blk nilV nilV)) = w0 at *
  have HX0 := Lib.hid hX0; have HP0 := Lib.hid hP0; have HR0 := Lib.hid hR0; have HB0 := Lib.hid hB0
  clear hX0 hP0 hR0 hB0
  obtain ⟨⟨c0, c1, c13, c14, c15, c16, clt⟩, ⟨c2, c3, c4, c5, c6, c7, c8, c9, c10, c11, c12⟩, c17, c18, c19⟩ := rte_cells HX0.out
  obtain ⟨⟨q0, q1, q2, q3, q4, qlt⟩, q5, q6, q7, q8, q9, q10, q11, q12, q13, q14, q15⟩ := rep_cells HP0.out
  have f2 := fz_blk HX0.out 2; have f3 := fz_blk HX0.out 3; have f4 := fz_blk HX0.out 4; have f5 := fz_blk HX0.out 5; have f6 := fz_blk HX0.out 6; have f7 := fz_blk HX0.out 7; have f8 := fz_blk HX0.out 8; have f9 := fz_blk HX0.out 9; have f10 := fz_blk HX0.out 10; have f11 := fz_blk HX0.out 11; have f12 := fz_blk HX0.out 12
  have f13 := fz_blk HX0.out 13; have f14 := fz_blk HX0.out 14; have f15 := fz_blk HX0.out 15; have f16 := fz_blk HX0.out 16; have f17 := fz_blk HX0.out 17; have f18 := fz_blk HX0.out 18; have f19 := fz_blk HX0.out 19
  rw [K1.out] at q0
  rw [K2.out] at c13
  go_upto_region 17 with fail
  have HX1 := Lib.hid (rte_node HX0.out (1))
  have hon : Only (· = w.heap.size) w0 (w0.setCell ⟨w.heap.size, 14, none⟩ (.int .i64 (1))) := only_setCell w0 ⟨w.heap.size, 14, none⟩ (.int .i64 (1))
  have HP1 := Lib.hid ((hon.block _ (lt_of_some HP0.out) (by show ¬ w.heap.size + 1 = w.heap.size; omega)).trans HP0.out)
  have HR1 := Lib.hid ((hon.block _ (lt_of_some HR0.out) (by show ¬ w.heap.size + 1 + 1 = w.heap.size; omega)).trans HR0.out)
  have HB1 := Lib.hid (hon.below HB0.out (fun q hq => by have hq : q = w.heap.size := hq; omega) HB0.out.size)
  clear hon
  go_upto_region 18 with fail
  change Code.wp _ _ _ _ (w0.setCell ⟨w.heap.size, 14, none⟩ (.int .i64 (1)))
  generalize (w0.setCell ⟨w.heap.size, 14, none⟩ (.int .i64 (1))) = w1 at *
  clear c0 c1 c13 c14 c15 c16 clt c2 c3 c4 c5 c6 c7 c8 c9 c10 c11 c12 c17 c18 c19 q0 q1 q2 q3 q4 qlt q5 q6 q7 q8 q9 q10 q11 q12 q13 q14 q15 f2 f3 f4 f5 f6 f7 f8 f9 f10 f11 f12 f13 f14 f15 f16 f17 f18 f19
  obtain ⟨⟨c0, c1, c13, c14, c15, c16, clt⟩, ⟨c2, c3, c4, c5, c6, c7, c8, c9, c10, c11, c12⟩, c17, c18, c19⟩ := rte_cells HX1.out
  obtain ⟨⟨q0, q1, q2, q3, q4, qlt⟩, q5, q6, q7, q8, q9, q10, q11, q12, q13, q14, q15⟩ := rep_cells HP1.out
  have f2 := fz_blk HX1.out 2; have f3 := fz_blk HX1.out 3; have f4 := fz_blk HX1.out 4; have f5 := fz_blk HX1.out 5; have f6 := fz_blk HX1.out 6; have f7 := fz_blk HX1.out 7; have f8 := fz_blk HX1.out 8; have f9 := fz_blk HX1.out 9; have f10 := fz_blk HX1.out 10; have f11 := fz_blk HX1.out 11; have f12 := fz_blk HX1.out 12
  have f13 := fz_blk HX1.out 13; have f14 := fz_blk HX1.out 14; have f15 := fz_blk HX1.out 15; have f16 := fz_blk HX1.out 16; have f17 := fz_blk HX1.out 17; have f18 := fz_blk HX1.out 18; have f19 := fz_blk HX1.out 19
  refine wp_region_lit ?_
  refine wpList_load39 rfl (.tmp 2) rfl w.heap.size rfl HX1.out ?_
  simp only [Act.put, List.setIfInBounds_toArray, List.set_cons_zero, List.set_cons_succ]
  refine wpList_store39 rfl (.tmp 4) (.tmp 61) rfl (w.heap.size + 1 + 1) rfl (r := { r with node := 1 }) (v := V) (j := J) rfl hV hJ HR1.out ?_
  intro w19 h19 ho19
  simp only [Act.put, List.setIfInBounds_toArray, List.set_cons_zero, List.set_cons_succ]
  go_wp2
  refine bodyPost_ret (results39_one rfl _ _ (w.heap.size + 1 + 1) rfl h19) rfl ?_
  exact ⟨by rw [Hnx.out]; rfl, ho19.below HB1.out (fun q hq => by omega) HB1.out.size⟩
set_option maxRecDepth 100000 in
set_option maxHeartbeats 1000000 in
theorem turn_three_n (w : World) (r : Rte) (p : Rep) (V J pj pv : Value) (hV : V.oneCell' = true) (hJ : J.oneCell' = true) (hv : RteOk r) (hx : r.node < r.nodes) (k1 : p.kind = 3) (k2 : r.fetch = false) :
    Calls Try.prog 59 #[r.val V J, p.val pj pv] w fun e w' => e = .returned ({ r with node := r.node % r.nodes + 1 }.val V J) ∧ Below w.heap.size w w' := by
  have g1 := hv.1; have g2 := hv.2.1; have g3 := hv.2.2.1; have g4 := hv.2.2.2.1
  have hw : IntKind.i64.wrap (r.node + 1) = r.node + 1 := IntWalk.i64_in _ (by omega)
  have n1 : ¬ r.nodes < r.node + 1 := by omega
  have n2 : decide (r.nodes < r.node + 1) = false := decide_eq_false n1
  have Hnx := Lib.hid (show r.node % r.nodes + 1 = r.node + 1 by rw [Int.emod_eq_of_lt (by omega) hx])
  clear hx hv
  have K1 := Lib.hid k1; clear k1
  have K2 := Lib.hid k2; clear k2
  go_enter Try.func59, Try.ntmps59
  go_upto_region 1 with fail
  have hX0 : (((w.alloc (r.blk V J)).alloc (p.blk pj pv)).alloc (zeroR.blk nilV nilV)).heap[w.heap.size]? = some (r.blk V J) := (Below.heap_alloc _ _ _ (by simp; omega)).trans ((Below.heap_alloc _ _ _ (by simp)).trans (heap_alloc_new w _))
  have hR0 : (((w.alloc (r.blk V J)).alloc (p.blk pj pv)).alloc (zeroR.blk nilV nilV)).heap[w.heap.size + 1 + 1]? = some (zeroR.blk nilV nilV) := by simpa using heap_alloc_new ((w.alloc (r.blk V J)).alloc (p.blk pj pv)) (zeroR.blk nilV nilV)
  have hP0 : (((w.alloc (r.blk V J)).alloc (p.blk pj pv)).alloc (zeroR.blk nilV nilV)).heap[w.heap.size + 1]? = some (p.blk pj pv) := (Below.heap_alloc _ _ _ (by simp)).trans (heap_second _ _ _)
  have hB0 : Below w.heap.size w (((w.alloc (r.blk V J)).alloc (p.blk pj pv)).alloc (zeroR.blk nilV nilV)) := al3 _ _ _
  change Code.wp _ _ _ _ (((w.alloc (r.blk V J)).alloc (p.blk pj pv)).alloc (zeroR.blk nilV nilV))
  generalize (((w.alloc (r.blk V J)).alloc (p.blk pj pv)).alloc (zeroR.blk nilV nilV)) = w0 at *
  have HX0 := Lib.hid hX0; have HP0 := Lib.hid hP0; have HR0 := Lib.hid hR0; have HB0 := Lib.hid hB0
  clear hX0 hP0 hR0 hB0
  obtain ⟨⟨c0, c1, c13, c14, c15, c16, clt⟩, ⟨c2, c3, c4, c5, c6, c7, c8, c9, c10, c11, c12⟩, c17, c18, c19⟩ := rte_cells HX0.out
  obtain ⟨⟨q0, q1, q2, q3, q4, qlt⟩, q5, q6, q7, q8, q9, q10, q11, q12, q13, q14, q15⟩ := rep_cells HP0.out
  have f2 := fz_blk HX0.out 2; have f3 := fz_blk HX0.out 3; have f4 := fz_blk HX0.out 4; have f5 := fz_blk HX0.out 5; have f6 := fz_blk HX0.out 6; have f7 := fz_blk HX0.out 7; have f8 := fz_blk HX0.out 8; have f9 := fz_blk HX0.out 9; have f10 := fz_blk HX0.out 10; have f11 := fz_blk HX0.out 11; have f12 := fz_blk HX0.out 12
  have f13 := fz_blk HX0.out 13; have f14 := fz_blk HX0.out 14; have f15 := fz_blk HX0.out 15; have f16 := fz_blk HX0.out 16; have f17 := fz_blk HX0.out 17; have f18 := fz_blk HX0.out 18; have f19 := fz_blk HX0.out 19
  rw [K1.out] at q0
  rw [K2.out] at c13
  go_upto_region 17 with fail
  have HX1 := Lib.hid (rte_node HX0.out (r.node + 1))
  have hon : Only (· = w.heap.size) w0 (w0.setCell ⟨w.heap.size, 14, none⟩ (.int .i64 (r.node + 1))) := only_setCell w0 ⟨w.heap.size, 14, none⟩ (.int .i64 (r.node + 1))
  have HP1 := Lib.hid ((hon.block _ (lt_of_some HP0.out) (by show ¬ w.heap.size + 1 = w.heap.size; omega)).trans HP0.out)
  have HR1 := Lib.hid ((hon.block _ (lt_of_some HR0.out) (by show ¬ w.heap.size + 1 + 1 = w.heap.size; omega)).trans HR0.out)
  have HB1 := Lib.hid (hon.below HB0.out (fun q hq => by have hq : q = w.heap.size := hq; omega) HB0.out.size)
  clear hon
  go_upto_region 18 with fail
  change Code.wp _ _ _ _ (w0.setCell ⟨w.heap.size, 14, none⟩ (.int .i64 (r.node + 1)))
  generalize (w0.setCell ⟨w.heap.size, 14, none⟩ (.int .i64 (r.node + 1))) = w1 at *
  clear c0 c1 c13 c14 c15 c16 clt c2 c3 c4 c5 c6 c7 c8 c9 c10 c11 c12 c17 c18 c19 q0 q1 q2 q3 q4 qlt q5 q6 q7 q8 q9 q10 q11 q12 q13 q14 q15 f2 f3 f4 f5 f6 f7 f8 f9 f10 f11 f12 f13 f14 f15 f16 f17 f18 f19
  obtain ⟨⟨c0, c1, c13, c14, c15, c16, clt⟩, ⟨c2, c3, c4, c5, c6, c7, c8, c9, c10, c11, c12⟩, c17, c18, c19⟩ := rte_cells HX1.out
  obtain ⟨⟨q0, q1, q2, q3, q4, qlt⟩, q5, q6, q7, q8, q9, q10, q11, q12, q13, q14, q15⟩ := rep_cells HP1.out
  have f2 := fz_blk HX1.out 2; have f3 := fz_blk HX1.out 3; have f4 := fz_blk HX1.out 4; have f5 := fz_blk HX1.out 5; have f6 := fz_blk HX1.out 6; have f7 := fz_blk HX1.out 7; have f8 := fz_blk HX1.out 8; have f9 := fz_blk HX1.out 9; have f10 := fz_blk HX1.out 10; have f11 := fz_blk HX1.out 11; have f12 := fz_blk HX1.out 12
  have f13 := fz_blk HX1.out 13; have f14 := fz_blk HX1.out 14; have f15 := fz_blk HX1.out 15; have f16 := fz_blk HX1.out 16; have f17 := fz_blk HX1.out 17; have f18 := fz_blk HX1.out 18; have f19 := fz_blk HX1.out 19
  refine wp_region_lit ?_
  refine wpList_load39 rfl (.tmp 2) rfl w.heap.size rfl HX1.out ?_
  simp only [Act.put, List.setIfInBounds_toArray, List.set_cons_zero, List.set_cons_succ]
  refine wpList_store39 rfl (.tmp 4) (.tmp 61) rfl (w.heap.size + 1 + 1) rfl (r := { r with node := r.node + 1 }) (v := V) (j := J) rfl hV hJ HR1.out ?_
  intro w19 h19 ho19
  simp only [Act.put, List.setIfInBounds_toArray, List.set_cons_zero, List.set_cons_succ]
  go_wp2
  refine bodyPost_ret (results39_one rfl _ _ (w.heap.size + 1 + 1) rfl h19) rfl ?_
  exact ⟨by rw [Hnx.out]; rfl, ho19.below HB1.out (fun q hq => by omega) HB1.out.size⟩
set_option maxRecDepth 100000 in
set_option maxHeartbeats 1000000 in
theorem turn_three_l (w : World) (r : Rte) (p : Rep) (V J pj pv : Value) (hV : V.oneCell' = true) (hJ : J.oneCell' = true) (hv : RteOk r) (hx : r.node = r.nodes) (k1 : p.kind = 3) (k2 : r.fetch = false) :
    Calls Try.prog 59 #[r.val V J, p.val pj pv] w fun e w' => e = .returned ({ r with node := r.node % r.nodes + 1 }.val V J) ∧ Below w.heap.size w w' := by
  have g1 := hv.1; have g2 := hv.2.1; have g3 := hv.2.2.1; have g4 := hv.2.2.2.1
  have hw : IntKind.i64.wrap (r.node + 1) = r.node + 1 := IntWalk.i64_in _ (by omega)
  have n1 : r.nodes < r.node + 1 := by omega
  have n2 : decide (r.nodes < r.node + 1) = true := decide_eq_true n1
  have Hnx := Lib.hid (show r.node % r.nodes + 1 = 1 by rw [hx, Int.emod_self]; rfl)
  clear hx hv
  have K1 := Lib.hid k1; clear k1
  have K2 := Lib.hid k2; clear k2
  go_enter Try.func59, Try.ntmps59
  go_upto_region 1 with fail
  have hX0 : (((w.alloc (r.blk V J)).alloc (p.blk pj pv)).alloc (zeroR.blk nilV nilV)).heap[w.heap.size]? = some (r.blk V J) := (Below.heap_alloc _ _ _ (by simp; omega)).trans ((Below.heap_alloc _ _ _ (by simp)).trans (heap_alloc_new w _))
  have hR0 : (((w.alloc (r.blk V J)).alloc (p.blk pj pv)).alloc (zeroR.blk nilV nilV)).heap[w.heap.size + 1 + 1]? = some (zeroR.blk nilV nilV) := by simpa using heap_alloc_new ((w.alloc (r.blk V J)).alloc (p.blk pj pv)) (zeroR.blk nilV nilV)
  have hP0 : (((w.alloc (r.blk V J)).alloc (p.blk pj pv)).alloc (zeroR.blk nilV nilV)).heap[w.heap.size + 1]? = some (p.blk pj pv) := (Below.heap_alloc _ _ _ (by simp)).trans (heap_second _ _ _)
  have hB0 : Below w.heap.size w (((w.alloc (r.blk V J)).alloc (p.blk pj pv)).alloc (zeroR.blk nilV nilV)) := al3 _ _ _
  change Code.wp _ _ _ _ (((w.alloc (r.blk V J)).alloc (p.blk pj pv)).alloc (zeroR.blk nilV nilV))
  generalize (((w.alloc (r.blk V J)).alloc (p.blk pj pv)).alloc (zeroR.blk nilV nilV)) = w0 at *
  have HX0 := Lib.hid hX0; have HP0 := Lib.hid hP0; have HR0 := Lib.hid hR0; have HB0 := Lib.hid hB0
  clear hX0 hP0 hR0 hB0
  obtain ⟨⟨c0, c1, c13, c14, c15, c16, clt⟩, ⟨c2, c3, c4, c5, c6, c7, c8, c9, c10, c11, c12⟩, c17, c18, c19⟩ := rte_cells HX0.out
  obtain ⟨⟨q0, q1, q2, q3, q4, qlt⟩, q5, q6, q7, q8, q9, q10, q11, q12, q13, q14, q15⟩ := rep_cells HP0.out
  have f2 := fz_blk HX0.out 2; have f3 := fz_blk HX0.out 3; have f4 := fz_blk HX0.out 4; have f5 := fz_blk HX0.out 5; have f6 := fz_blk HX0.out 6; have f7 := fz_blk HX0.out 7; have f8 := fz_blk HX0.out 8; have f9 := fz_blk HX0.out 9; have f10 := fz_blk HX0.out 10; have f11 := fz_blk HX0.out 11; have f12 := fz_blk HX0.out 12
  have f13 := fz_blk HX0.out 13; have f14 := fz_blk HX0.out 14; have f15 := fz_blk HX0.out 15; have f16 := fz_blk HX0.out 16; have f17 := fz_blk HX0.out 17; have f18 := fz_blk HX0.out 18; have f19 := fz_blk HX0.out 19
  rw [K1.out] at q0
  rw [K2.out] at c13
  go_upto_region 17 with fail
  have HX1 := Lib.hid (rte_node HX0.out (1))
  have hon : Only (· = w.heap.size) w0 (w0.setCell ⟨w.heap.size, 14, none⟩ (.int .i64 (1))) := only_setCell w0 ⟨w.heap.size, 14, none⟩ (.int .i64 (1))
  have HP1 := Lib.hid ((hon.block _ (lt_of_some HP0.out) (by show ¬ w.heap.size + 1 = w.heap.size; omega)).trans HP0.out)
  have HR1 := Lib.hid ((hon.block _ (lt_of_some HR0.out) (by show ¬ w.heap.size + 1 + 1 = w.heap.size; omega)).trans HR0.out)
  have HB1 := Lib.hid (hon.below HB0.out (fun q hq => by have hq : q = w.heap.size := hq; omega) HB0.out.size)
  clear hon
  go_upto_region 18 with fail
  change Code.wp _ _ _ _ (w0.setCell ⟨w.heap.size, 14, none⟩ (.int .i64 (1)))
  generalize (w0.setCell ⟨w.heap.size, 14, none⟩ (.int .i64 (1))) = w1 at *
  clear c0 c1 c13 c14 c15 c16 clt c2 c3 c4 c5 c6 c7 c8 c9 c10 c11 c12 c17 c18 c19 q0 q1 q2 q3 q4 qlt q5 q6 q7 q8 q9 q10 q11 q12 q13 q14 q15 f2 f3 f4 f5 f6 f7 f8 f9 f10 f11 f12 f13 f14 f15 f16 f17 f18 f19
  obtain ⟨⟨c0, c1, c13, c14, c15, c16, clt⟩, ⟨c2, c3, c4, c5, c6, c7, c8, c9, c10, c11, c12⟩, c17, c18, c19⟩ := rte_cells HX1.out
  obtain ⟨⟨q0, q1, q2, q3, q4, qlt⟩, q5, q6, q7, q8, q9, q10, q11, q12, q13, q14, q15⟩ := rep_cells HP1.out
  have f2 := fz_blk HX1.out 2; have f3 := fz_blk HX1.out 3; have f4 := fz_blk HX1.out 4; have f5 := fz_blk HX1.out 5; have f6 := fz_blk HX1.out 6; have f7 := fz_blk HX1.out 7; have f8 := fz_blk HX1.out 8; have f9 := fz_blk HX1.out 9; have f10 := fz_blk HX1.out 10; have f11 := fz_blk HX1.out 11; have f12 := fz_blk HX1.out 12
  have f13 := fz_blk HX1.out 13; have f14 := fz_blk HX1.out 14; have f15 := fz_blk HX1.out 15; have f16 := fz_blk HX1.out 16; have f17 := fz_blk HX1.out 17; have f18 := fz_blk HX1.out 18; have f19 := fz_blk HX1.out 19
  refine wp_region_lit ?_
  refine wpList_load39 rfl (.tmp 2) rfl w.heap.size rfl HX1.out ?_
  simp only [Act.put, List.setIfInBounds_toArray, List.set_cons_zero, List.set_cons_succ]
  refine wpList_store39 rfl (.tmp 4) (.tmp 61) rfl (w.heap.size + 1 + 1) rfl (r := { r with node := 1 }) (v := V) (j := J) rfl hV hJ HR1.out ?_
  intro w19 h19 ho19
  simp only [Act.put, List.setIfInBounds_toArray, List.set_cons_zero, List.set_cons_succ]
  go_wp2
  refine bodyPost_ret (results39_one rfl _ _ (w.heap.size + 1 + 1) rfl h19) rfl ?_
  exact ⟨by rw [Hnx.out]; rfl, ho19.below HB1.out (fun q hq => by omega) HB1.out.size⟩
set_option maxRecDepth 100000 in
set_option maxHeartbeats 1000000 in
theorem turn_wrong_n (w : World) (r : Rte) (p : Rep) (V J pj : Value) (hV : V.oneCell' = true) (hJ : J.oneCell' = true) (hv : RteOk r) (hx : r.node < r.nodes) (k1 : p.kind = 3) (k2 : r.fetch = true) {B : Option Addr} {bc : Nat} (hB : MapIn w B bc p.map) (k3 : tr (MapOk p.map) = false) :
    Calls Try.prog 59 #[r.val V J, p.val pj (.slice B p.map.sp.length bc)] w fun e w' => e = .returned ({ r with node := r.node % r.nodes + 1 }.val V J) ∧ Below w.heap.size w w' := by
  have g1 := hv.1; have g2 := hv.2.1; have g3 := hv.2.2.1; have g4 := hv.2.2.2.1
  have hw : IntKind.i64.wrap (r.node + 1) = r.node + 1 := IntWalk.i64_in _ (by omega)
  have n1 : ¬ r.nodes < r.node + 1 := by omega
  have n2 : decide (r.nodes < r.node + 1) = false := decide_eq_false n1
  have Hnx := Lib.hid (show r.node % r.nodes + 1 = r.node + 1 by rw [Int.emod_eq_of_lt (by omega) hx])
  clear hx hv
  have K1 := Lib.hid k1; clear k1
  have K2 := Lib.hid k2; clear k2
  have hC := fun w h => rCheck_any w B bc p.map h
  rw [k3] at hC
  have HC := Lib.hid hC; have HI := Lib.hid hB
  clear hC hB k3
  go_enter Try.func59, Try.ntmps59
  go_upto_region 1 with fail
  have hX0 : (((w.alloc (r.blk V J)).alloc (p.blk pj (.slice B p.map.sp.length bc))).alloc (zeroR.blk nilV nilV)).heap[w.heap.size]? = some (r.blk V J) := (Below.heap_alloc _ _ _ (by simp; omega)).trans ((Below.heap_alloc _ _ _ (by simp)).trans (heap_alloc_new w _))
  have hR0 : (((w.alloc (r.blk V J)).alloc (p.blk pj (.slice B p.map.sp.length bc))).alloc (zeroR.blk nilV nilV)).heap[w.heap.size + 1 + 1]? = some (zeroR.blk nilV nilV) := by simpa using heap_alloc_new ((w.alloc (r.blk V J)).alloc (p.blk pj (.slice B p.map.sp.length bc))) (zeroR.blk nilV nilV)
  have hP0 : (((w.alloc (r.blk V J)).alloc (p.blk pj (.slice B p.map.sp.length bc))).alloc (zeroR.blk nilV nilV)).heap[w.heap.size + 1]? = some (p.blk pj (.slice B p.map.sp.length bc)) := (Below.heap_alloc _ _ _ (by simp)).trans (heap_second _ _ _)
  have hB0 : Below w.heap.size w (((w.alloc (r.blk V J)).alloc (p.blk pj (.slice B p.map.sp.length bc))).alloc (zeroR.blk nilV nilV)) := al3 _ _ _
  change Code.wp _ _ _ _ (((w.alloc (r.blk V J)).alloc (p.blk pj (.slice B p.map.sp.length bc))).alloc (zeroR.blk nilV nilV))
  generalize (((w.alloc (r.blk V J)).alloc (p.blk pj (.slice B p.map.sp.length bc))).alloc (zeroR.blk nilV nilV)) = w0 at *
  have HX0 := Lib.hid hX0; have HP0 := Lib.hid hP0; have HR0 := Lib.hid hR0; have HB0 := Lib.hid hB0
  clear hX0 hP0 hR0 hB0
  obtain ⟨⟨c0, c1, c13, c14, c15, c16, clt⟩, ⟨c2, c3, c4, c5, c6, c7, c8, c9, c10, c11, c12⟩, c17, c18, c19⟩ := rte_cells HX0.out
  obtain ⟨⟨q0, q1, q2, q3, q4, qlt⟩, q5, q6, q7, q8, q9, q10, q11, q12, q13, q14, q15⟩ := rep_cells HP0.out
  have f2 := fz_blk HX0.out 2; have f3 := fz_blk HX0.out 3; have f4 := fz_blk HX0.out 4; have f5 := fz_blk HX0.out 5; have f6 := fz_blk HX0.out 6; have f7 := fz_blk HX0.out 7; have f8 := fz_blk HX0.out 8; have f9 := fz_blk HX0.out 9; have f10 := fz_blk HX0.out 10; have f11 := fz_blk HX0.out 11; have f12 := fz_blk HX0.out 12
  have f13 := fz_blk HX0.out 13; have f14 := fz_blk HX0.out 14; have f15 := fz_blk HX0.out 15; have f16 := fz_blk HX0.out 16; have f17 := fz_blk HX0.out 17; have f18 := fz_blk HX0.out 18; have f19 := fz_blk HX0.out 19
  rw [K1.out] at q0
  rw [K2.out] at c13
  go_upto_region 17 with (go_at_call 39
                          refine (HC.out _ (HI.out.below HB0.out)).mono ?_
                          rintro e w1 ⟨rfl, hb1⟩
                          have HX1 := Lib.hid (blk_below hb1 (lt_of_some HX0.out) HX0.out); have HP1 := Lib.hid (blk_below hb1 (lt_of_some HP0.out) HP0.out); have HR1 := Lib.hid (blk_below hb1 (lt_of_some HR0.out) HR0.out)
                          have HB1 := Lib.hid (HB0.out.trans (hb1.mono HB0.out.size))
                          clear hb1)
  clear c0 c1 c13 c14 c15 c16 clt c2 c3 c4 c5 c6 c7 c8 c9 c10 c11 c12 c17 c18 c19 q0 q1 q2 q3 q4 qlt q5 q6 q7 q8 q9 q10 q11 q12 q13 q14 q15 f2 f3 f4 f5 f6 f7 f8 f9 f10 f11 f12 f13 f14 f15 f16 f17 f18 f19
  obtain ⟨⟨c0, c1, c13, c14, c15, c16, clt⟩, ⟨c2, c3, c4, c5, c6, c7, c8, c9, c10, c11, c12⟩, c17, c18, c19⟩ := rte_cells HX1.out
  obtain ⟨⟨q0, q1, q2, q3, q4, qlt⟩, q5, q6, q7, q8, q9, q10, q11, q12, q13, q14, q15⟩ := rep_cells HP1.out
  have f2 := fz_blk HX1.out 2; have f3 := fz_blk HX1.out 3; have f4 := fz_blk HX1.out 4; have f5 := fz_blk HX1.out 5; have f6 := fz_blk HX1.out 6; have f7 := fz_blk HX1.out 7; have f8 := fz_blk HX1.out 8; have f9 := fz_blk HX1.out 9; have f10 := fz_blk HX1.out 10; have f11 := fz_blk HX1.out 11; have f12 := fz_blk HX1.out 12
  have f13 := fz_blk HX1.out 13; have f14 := fz_blk HX1.out 14; have f15 := fz_blk HX1.out 15; have f16 := fz_blk HX1.out 16; have f17 := fz_blk HX1.out 17; have f18 := fz_blk HX1.out 18; have f19 := fz_blk HX1.out 19
  have HX2 := Lib.hid (rte_node HX1.out (r.node + 1))
  have hon : Only (· = w.heap.size) w1 (w1.setCell ⟨w.heap.size, 14, none⟩ (.int .i64 (r.node + 1))) := only_setCell w1 ⟨w.heap.size, 14, none⟩ (.int .i64 (r.node + 1))
  have HP2 := Lib.hid ((hon.block _ (lt_of_some HP1.out) (by show ¬ w.heap.size + 1 = w.heap.size; omega)).trans HP1.out)
  have HR2 := Lib.hid ((hon.block _ (lt_of_some HR1.out) (by show ¬ w.heap.size + 1 + 1 = w.heap.size; omega)).trans HR1.out)
  have HB2 := Lib.hid (hon.below HB1.out (fun q hq => by have hq : q = w.heap.size := hq; omega) HB1.out.size)
  clear hon
  go_upto_region 18 with fail
  change Code.wp _ _ _ _ (w1.setCell ⟨w.heap.size, 14, none⟩ (.int .i64 (r.node + 1)))
  generalize (w1.setCell ⟨w.heap.size, 14, none⟩ (.int .i64 (r.node + 1))) = w2 at *
  clear c0 c1 c13 c14 c15 c16 clt c2 c3 c4 c5 c6 c7 c8 c9 c10 c11 c12 c17 c18 c19 q0 q1 q2 q3 q4 qlt q5 q6 q7 q8 q9 q10 q11 q12 q13 q14 q15 f2 f3 f4 f5 f6 f7 f8 f9 f10 f11 f12 f13 f14 f15 f16 f17 f18 f19
  obtain ⟨⟨c0, c1, c13, c14, c15, c16, clt⟩, ⟨c2, c3, c4, c5, c6, c7, c8, c9, c10, c11, c12⟩, c17, c18, c19⟩ := rte_cells HX2.out
  obtain ⟨⟨q0, q1, q2, q3, q4, qlt⟩, q5, q6, q7, q8, q9, q10, q11, q12, q13, q14, q15⟩ := rep_cells HP2.out
  have f2 := fz_blk HX2.out 2; have f3 := fz_blk HX2.out 3; have f4 := fz_blk HX2.out 4; have f5 := fz_blk HX2.out 5; have f6 := fz_blk HX2.out 6; have f7 := fz_blk HX2.out 7; have f8 := fz_blk HX2.out 8; have f9 := fz_blk HX2.out 9; have f10 := fz_blk HX2.out 10; have f11 := fz_blk HX2.out 11; have f12 := fz_blk HX2.out 12
  have f13 := fz_blk HX2.out 13; have f14 := fz_blk HX2.out 14; have f15 := fz_blk HX2.out 15; have f16 := fz_blk HX2.out 16; have f17 := fz_blk HX2.out 17; have f18 := fz_blk HX2.out 18; have f19 := fz_blk HX2.out 19
  refine wp_region_lit ?_
  refine wpList_load39 rfl (.tmp 2) rfl w.heap.size rfl HX2.out ?_
  simp only [Act.put, List.setIfInBounds_toArray, List.set_cons_zero, List.set_cons_succ]
  refine wpList_store39 rfl (.tmp 4) (.tmp 61) rfl (w.heap.size + 1 + 1) rfl (r := { r with node := r.node + 1 }) (v := V) (j := J) rfl hV hJ HR2.out ?_
  intro w19 h19 ho19
  simp only [Act.put, List.setIfInBounds_toArray, List.set_cons_zero, List.set_cons_succ]
  go_wp2
  refine bodyPost_ret (results39_one rfl _ _ (w.heap.size + 1 + 1) rfl h19) rfl ?_
  exact ⟨by rw [Hnx.out]; rfl, ho19.below HB2.out (fun q hq => by omega) HB2.out.size⟩
set_option maxRecDepth 100000 in
set_option maxHeartbeats 1000000 in
theorem turn_wrong_l (w : World) (r : Rte) (p : Rep) (V J pj : Value) (hV : V.oneCell' = true) (hJ : J.oneCell' = true) (hv : RteOk r) (hx : r.node = r.nodes) (k1 : p.kind = 3) (k2 : r.fetch = true) {B : Option Addr} {bc : Nat} (hB : MapIn w B bc p.map) (k3 : tr (MapOk p.map) = false) :
    Calls Try.prog 59 #[r.val V J, p.val pj (.slice B p.map.sp.length bc)] w fun e w' => e = .returned ({ r with node := r.node % r.nodes + 1 }.val V J) ∧ Below w.heap.size w w' := by
  have g1 := hv.1; have g2 := hv.2.1; have g3 := hv.2.2.1; have g4 := hv.2.2.2.1
  have hw : IntKind.i64.wrap (r.node + 1) = r.node + 1 := IntWalk.i64_in _ (by omega)
  have n1 : r.nodes < r.node + 1 := by omega
  have n2 : decide (r.nodes < r.node + 1) = true := decide_eq_true n1
  have Hnx := Lib.hid (show r.node % r.nodes + 1 = 1 by rw [hx, Int.emod_self]; rfl)
  clear hx hv
  have K1 := Lib.hid k1; clear k1
  have K2 := Lib.hid k2; clear k2
  have hC := fun w h => rCheck_any w B bc p.map h
  rw [k3] at hC
  have HC := Lib.hid hC; have HI := Lib.hid hB
  clear hC hB k3
  go_enter Try.func59, Try.ntmps59
  go_upto_region 1 with fail
  have hX0 : (((w.alloc (r.blk V J)).alloc (p.blk pj (.slice B p.map.sp.length bc))).alloc (zeroR.blk nilV nilV)).heap[w.heap.size]? = some (r.blk V J) := (Below.heap_alloc _ _ _ (by simp; omega)).trans ((Below.heap_alloc _ _ _ (by simp)).trans (heap_alloc_new w _))
  have hR0 : (((w.alloc (r.blk V J)).alloc (p.blk pj (.slice B p.map.sp.length bc))).alloc (zeroR.blk nilV nilV)).heap[w.heap.size + 1 + 1]? = some (zeroR.blk nilV nilV) := by simpa using heap_alloc_new ((w.alloc (r.blk V J)).alloc (p.blk pj (.slice B p.map.sp.length bc))) (zeroR.blk nilV nilV)
  have hP0 : (((w.alloc (r.blk V J)).alloc (p.blk pj (.slice B p.map.sp.length bc))).alloc (zeroR.blk nilV nilV)).heap[w.heap.size + 1]? = some (p.blk pj (.slice B p.map.sp.length bc)) := (Below.heap_alloc _ _ _ (by simp)).trans (heap_second _ _ _)
  have hB0 : Below w.heap.size w (((w.alloc (r.blk V J)).alloc (p.blk pj (.slice B p.map.sp.length bc))).alloc (zeroR.blk nilV nilV)) := al3 _ _ _
  change Code.wp _ _ _ _ (((w.alloc (r.blk V J)).alloc (p.blk pj (.slice B p.map.sp.length bc))).alloc (zeroR.blk nilV nilV))
  generalize (((w.alloc (r.blk V J)).alloc (p.blk pj (.slice B p.map.sp.length bc))).alloc (zeroR.blk nilV nilV)) = w0 at *
  have HX0 := Lib.hid hX0; have HP0 := Lib.hid hP0; have HR0 := Lib.hid hR0; have HB0 := Lib.hid hB0
  clear hX0 hP0 hR0 hB0
  obtain ⟨⟨c0, c1, c13, c14, c15, c16, clt⟩, ⟨c2, c3, c4, c5, c6, c7, c8, c9, c10, c11, c12⟩, c17, c18, c19⟩ := rte_cells HX0.out
  obtain ⟨⟨q0, q1, q2, q3, q4, qlt⟩, q5, q6, q7, q8, q9, q10, q11, q12, q13, q14, q15⟩ := rep_cells HP0.out
  have f2 := fz_blk HX0.out 2; have f3 := fz_blk HX0.out 3; have f4 := fz_blk HX0.out 4; have f5 := fz_blk HX0.out 5; have f6 := fz_blk HX0.out 6; have f7 := fz_blk HX0.out 7; have f8 := fz_blk HX0.out 8; have f9 := fz_blk HX0.out 9; have f10 := fz_blk HX0.out 10; have f11 := fz_blk HX0.out 11; have f12 := fz_blk HX0.out 12
  have f13 := fz_blk HX0.out 13; have f14 := fz_blk HX0.out 14; have f15 := fz_blk HX0.out 15; have f16 := fz_blk HX0.out 16; have f17 := fz_blk HX0.out 17; have f18 := fz_blk HX0.out 18; have f19 := fz_blk HX0.out 19
  rw [K1.out] at q0
  rw [K2.out] at c13
  go_upto_region 17 with (go_at_call 39
                          refine (HC.out _ (HI.out.below HB0.out)).mono ?_
                          rintro e w1 ⟨rfl, hb1⟩
                          have HX1 := Lib.hid (blk_below hb1 (lt_of_some HX0.out) HX0.out); have HP1 := Lib.hid (blk_below hb1 (lt_of_some HP0.out) HP0.out); have HR1 := Lib.hid (blk_below hb1 (lt_of_some HR0.out) HR0.out)
                          have HB1 := Lib.hid (HB0.out.trans (hb1.mono HB0.out.size))
                          clear hb1)
  clear c0 c1 c13 c14 c15 c16 clt c2 c3 c4 c5 c6 c7 c8 c9 c10 c11 c12 c17 c18 c19 q0 q1 q2 q3 q4 qlt q5 q6 q7 q8 q9 q10 q11 q12 q13 q14 q15 f2 f3 f4 f5 f6 f7 f8 f9 f10 f11 f12 f13 f14 f15 f16 f17 f18 f19
  obtain ⟨⟨c0, c1, c13, c14, c15, c16, clt⟩, ⟨c2, c3, c4, c5, c6, c7, c8, c9, c10, c11, c12⟩, c17, c18, c19⟩ := rte_cells HX1.out
  obtain ⟨⟨q0, q1, q2, q3, q4, qlt⟩, q5, q6, q7, q8, q9, q10, q11, q12, q13, q14, q15⟩ := rep_cells HP1.out
  have f2 := fz_blk HX1.out 2; have f3 := fz_blk HX1.out 3; have f4 := fz_blk HX1.out 4; have f5 := fz_blk HX1.out 5; have f6 := fz_blk HX1.out 6; have f7 := fz_blk HX1.out 7; have f8 := fz_blk HX1.out 8; have f9 := fz_blk HX1.out 9; have f10 := fz_blk HX1.out 10; have f11 := fz_blk HX1.out 11; have f12 := fz_blk HX1.out 12
  have f13 := fz_blk HX1.out 13; have f14 := fz_blk HX1.out 14; have f15 := fz_blk HX1.out 15; have f16 := fz_blk HX1.out 16; have f17 := fz_blk HX1.out 17; have f18 := fz_blk HX1.out 18; have f19 := fz_blk HX1.out 19
  have HX2 := Lib.hid (rte_node HX1.out (1))
  have hon : Only (· = w.heap.size) w1 (w1.setCell ⟨w.heap.size, 14, none⟩ (.int .i64 (1))) := only_setCell w1 ⟨w.heap.size, 14, none⟩ (.int .i64 (1))
  have HP2 := Lib.hid ((hon.block _ (lt_of_some HP1.out) (by show ¬ w.heap.size + 1 = w.heap.size; omega)).trans HP1.out)
  have HR2 := Lib.hid ((hon.block _ (lt_of_some HR1.out) (by show ¬ w.heap.size + 1 + 1 = w.heap.size; omega)).trans HR1.out)
  have HB2 := Lib.hid (hon.below HB1.out (fun q hq => by have hq : q = w.heap.size := hq; omega) HB1.out.size)
  clear hon
  go_upto_region 18 with fail
  change Code.wp _ _ _ _ (w1.setCell ⟨w.heap.size, 14, none⟩ (.int .i64 (1)))
  generalize (w1.setCell ⟨w.heap.size, 14, none⟩ (.int .i64 (1))) = w2 at *
  clear c0 c1 c13 c14 c15 c16 clt c2 c3 c4 c5 c6 c7 c8 c9 c10 c11 c12 c17 c18 c19 q0 q1 q2 q3 q4 qlt q5 q6 q7 q8 q9 q10 q11 q12 q13 q14 q15 f2 f3 f4 f5 f6 f7 f8 f9 f10 f11 f12 f13 f14 f15 f16 f17 f18 f19
  obtain ⟨⟨c0, c1, c13, c14, c15, c16, clt⟩, ⟨c2, c3, c4, c5, c6, c7, c8, c9, c10, c11, c12⟩, c17, c18, c19⟩ := rte_cells HX2.out
  obtain ⟨⟨q0, q1, q2, q3, q4, qlt⟩, q5, q6, q7, q8, q9, q10, q11, q12, q13, q14, q15⟩ := rep_cells HP2.out
  have f2 := fz_blk HX2.out 2; have f3 := fz_blk HX2.out 3; have f4 := fz_blk HX2.out 4; have f5 := fz_blk HX2.out 5; have f6 := fz_blk HX2.out 6; have f7 := fz_blk HX2.out 7; have f8 := fz_blk HX2.out 8; have f9 := fz_blk HX2.out 9; have f10 := fz_blk HX2.out 10; have f11 := fz_blk HX2.out 11; have f12 := fz_blk HX2.out 12
  have f13 := fz_blk HX2.out 13; have f14 := fz_blk HX2.out 14; have f15 := fz_blk HX2.out 15; have f16 := fz_blk HX2.out 16; have f17 := fz_blk HX2.out 17; have f18 := fz_blk HX2.out 18; have f19 := fz_blk HX2.out 19
  refine wp_region_lit ?_
  refine wpList_load39 rfl (.tmp 2) rfl w.heap.size rfl HX2.out ?_
  simp only [Act.put, List.setIfInBounds_toArray, List.set_cons_zero, List.set_cons_succ]
  refine wpList_store39 rfl (.tmp 4) (.tmp 61) rfl (w.heap.size + 1 + 1) rfl (r := { r with node := 1 }) (v := V) (j := J) rfl hV hJ HR2.out ?_
  intro w19 h19 ho19
  simp only [Act.put, List.setIfInBounds_toArray, List.set_cons_zero, List.set_cons_succ]
  go_wp2
  refine bodyPost_ret (results39_one rfl _ _ (w.heap.size + 1 + 1) rfl h19) rfl ?_
  exact ⟨by rw [Hnx.out]; rfl, ho19.below HB2.out (fun q hq => by omega) HB2.out.size⟩
set_option maxRecDepth 100000 in
set_option maxHeartbeats 1000000 in
theorem turn_mapped_n (w : World) (r : Rte) (p : Rep) (V J pj : Value) (hV : V.oneCell' = true) (hJ : J.oneCell' = true) (hv : RteOk r) (hx : r.node < r.nodes) (k1 : p.kind = 3) (k2 : r.fetch = true) (hn : r.name.size ≤ 9223372036854775807) {B : Option Addr} {bc : Nat} (hB : MapIn w B bc p.map) (k3 : tr (MapOk p.map) = true) :
    Calls Try.prog 59 #[r.val V J, p.val pj (.slice B p.map.sp.length bc)] w fun e w' => e = .returned ({ r with map := p.map, fetch := !named r.name, node := 1 }.val (.slice B p.map.sp.length bc) J) ∧ Below w.heap.size w w' := by
  have g1 := hv.1; have g2 := hv.2.1; have g3 := hv.2.2.1; have g4 := hv.2.2.2.1
  have hw : IntKind.i64.wrap (r.node + 1) = r.node + 1 := IntWalk.i64_in _ (by omega)
  have n1 : ¬ r.nodes < r.node + 1 := by omega
  have n2 : decide (r.nodes < r.node + 1) = false := decide_eq_false n1
  have Hnx := Lib.hid (show r.node % r.nodes + 1 = r.node + 1 by rw [Int.emod_eq_of_lt (by omega) hx])
  clear hx hv
  have K1 := Lib.hid k1; clear k1
  have K2 := Lib.hid k2; clear k2
  have hC := fun w h => rCheck_any w B bc p.map h
  rw [k3] at hC
  have HC := Lib.hid hC; have HI := Lib.hid hB
  clear hC hB k3
  go_enter Try.func59, Try.ntmps59
  go_upto_region 1 with fail
  have hX0 : (((w.alloc (r.blk V J)).alloc (p.blk pj (.slice B p.map.sp.length bc))).alloc (zeroR.blk nilV nilV)).heap[w.heap.size]? = some (r.blk V J) := (Below.heap_alloc _ _ _ (by simp; omega)).trans ((Below.heap_alloc _ _ _ (by simp)).trans (heap_alloc_new w _))
  have hR0 : (((w.alloc (r.blk V J)).alloc (p.blk pj (.slice B p.map.sp.length bc))).alloc (zeroR.blk nilV nilV)).heap[w.heap.size + 1 + 1]? = some (zeroR.blk nilV nilV) := by simpa using heap_alloc_new ((w.alloc (r.blk V J)).alloc (p.blk pj (.slice B p.map.sp.length bc))) (zeroR.blk nilV nilV)
  have hP0 : (((w.alloc (r.blk V J)).alloc (p.blk pj (.slice B p.map.sp.length bc))).alloc (zeroR.blk nilV nilV)).heap[w.heap.size + 1]? = some (p.blk pj (.slice B p.map.sp.length bc)) := (Below.heap_alloc _ _ _ (by simp)).trans (heap_second _ _ _)
  have hB0 : Below w.heap.size w (((w.alloc (r.blk V J)).alloc (p.blk pj (.slice B p.map.sp.length bc))).alloc (zeroR.blk nilV nilV)) := al3 _ _ _
  change Code.wp _ _ _ _ (((w.alloc (r.blk V J)).alloc (p.blk pj (.slice B p.map.sp.length bc))).alloc (zeroR.blk nilV nilV))
  generalize (((w.alloc (r.blk V J)).alloc (p.blk pj (.slice B p.map.sp.length bc))).alloc (zeroR.blk nilV nilV)) = w0 at *
  have HX0 := Lib.hid hX0; have HP0 := Lib.hid hP0; have HR0 := Lib.hid hR0; have HB0 := Lib.hid hB0
  clear hX0 hP0 hR0 hB0
  obtain ⟨⟨c0, c1, c13, c14, c15, c16, clt⟩, ⟨c2, c3, c4, c5, c6, c7, c8, c9, c10, c11, c12⟩, c17, c18, c19⟩ := rte_cells HX0.out
  obtain ⟨⟨q0, q1, q2, q3, q4, qlt⟩, q5, q6, q7, q8, q9, q10, q11, q12, q13, q14, q15⟩ := rep_cells HP0.out
  have f2 := fz_blk HX0.out 2; have f3 := fz_blk HX0.out 3; have f4 := fz_blk HX0.out 4; have f5 := fz_blk HX0.out 5; have f6 := fz_blk HX0.out 6; have f7 := fz_blk HX0.out 7; have f8 := fz_blk HX0.out 8; have f9 := fz_blk HX0.out 9; have f10 := fz_blk HX0.out 10; have f11 := fz_blk HX0.out 11; have f12 := fz_blk HX0.out 12
  have f13 := fz_blk HX0.out 13; have f14 := fz_blk HX0.out 14; have f15 := fz_blk HX0.out 15; have f16 := fz_blk HX0.out 16; have f17 := fz_blk HX0.out 17; have f18 := fz_blk HX0.out 18; have f19 := fz_blk HX0.out 19
  rw [K1.out] at q0
  rw [K2.out] at c13
  go_upto_region 11 with (go_at_call 39
                          refine (HC.out _ (HI.out.below HB0.out)).mono ?_
                          rintro e w1 ⟨rfl, hb1⟩
                          have HX1 := Lib.hid (blk_below hb1 (lt_of_some HX0.out) HX0.out); have HP1 := Lib.hid (blk_below hb1 (lt_of_some HP0.out) HP0.out); have HR1 := Lib.hid (blk_below hb1 (lt_of_some HR0.out) HR0.out)
                          have HB1 := Lib.hid (HB0.out.trans (hb1.mono HB0.out.size))
                          clear hb1)
  clear c0 c1 c13 c14 c15 c16 clt c2 c3 c4 c5 c6 c7 c8 c9 c10 c11 c12 c17 c18 c19 q0 q1 q2 q3 q4 qlt q5 q6 q7 q8 q9 q10 q11 q12 q13 q14 q15 f2 f3 f4 f5 f6 f7 f8 f9 f10 f11 f12 f13 f14 f15 f16 f17 f18 f19
  obtain ⟨⟨c0, c1, c13, c14, c15, c16, clt⟩, ⟨c2, c3, c4, c5, c6, c7, c8, c9, c10, c11, c12⟩, c17, c18, c19⟩ := rte_cells HX1.out
  obtain ⟨⟨q0, q1, q2, q3, q4, qlt⟩, q5, q6, q7, q8, q9, q10, q11, q12, q13, q14, q15⟩ := rep_cells HP1.out
  have f2 := fz_blk HX1.out 2; have f3 := fz_blk HX1.out 3; have f4 := fz_blk HX1.out 4; have f5 := fz_blk HX1.out 5; have f6 := fz_blk HX1.out 6; have f7 := fz_blk HX1.out 7; have f8 := fz_blk HX1.out 8; have f9 := fz_blk HX1.out 9; have f10 := fz_blk HX1.out 10; have f11 := fz_blk HX1.out 11; have f12 := fz_blk HX1.out 12
  have f13 := fz_blk HX1.out 13; have f14 := fz_blk HX1.out 14; have f15 := fz_blk HX1.out 15; have f16 := fz_blk HX1.out 16; have f17 := fz_blk HX1.out 17; have f18 := fz_blk HX1.out 18; have f19 := fz_blk HX1.out 19
  have HX2 := Lib.hid (rte_putmap p.map (.slice B p.map.sp.length bc) HX1.out)
  have hon : Only (· = w.heap.size) w1 (putMap w1 w.heap.size p.map (.slice B p.map.sp.length bc)) := putMap_only w1 w.heap.size p.map (.slice B p.map.sp.length bc)
  have HP2 := Lib.hid ((hon.block _ (lt_of_some HP1.out) (by show ¬ w.heap.size + 1 = w.heap.size; omega)).trans HP1.out)
  have HR2 := Lib.hid ((hon.block _ (lt_of_some HR1.out) (by show ¬ w.heap.size + 1 + 1 = w.heap.size; omega)).trans HR1.out)
  have HB2 := Lib.hid (hon.below HB1.out (fun q hq => by have hq : q = w.heap.size := hq; omega) HB1.out.size)
  clear hon
  go_upto_region 12 with fail
  change Code.wp _ _ _ _ (putMap w1 w.heap.size p.map (.slice B p.map.sp.length bc))
  generalize (putMap w1 w.heap.size p.map (.slice B p.map.sp.length bc)) = w2 at *
  clear c0 c1 c13 c14 c15 c16 clt c2 c3 c4 c5 c6 c7 c8 c9 c10 c11 c12 c17 c18 c19 q0 q1 q2 q3 q4 qlt q5 q6 q7 q8 q9 q10 q11 q12 q13 q14 q15 f2 f3 f4 f5 f6 f7 f8 f9 f10 f11 f12 f13 f14 f15 f16 f17 f18 f19
  obtain ⟨⟨c0, c1, c13, c14, c15, c16, clt⟩, ⟨c2, c3, c4, c5, c6, c7, c8, c9, c10, c11, c12⟩, c17, c18, c19⟩ := rte_cells HX2.out
  obtain ⟨⟨q0, q1, q2, q3, q4, qlt⟩, q5, q6, q7, q8, q9, q10, q11, q12, q13, q14, q15⟩ := rep_cells HP2.out
  have f2 := fz_blk HX2.out 2; have f3 := fz_blk HX2.out 3; have f4 := fz_blk HX2.out 4; have f5 := fz_blk HX2.out 5; have f6 := fz_blk HX2.out 6; have f7 := fz_blk HX2.out 7; have f8 := fz_blk HX2.out 8; have f9 := fz_blk HX2.out 9; have f10 := fz_blk HX2.out 10; have f11 := fz_blk HX2.out 11; have f12 := fz_blk HX2.out 12
  have f13 := fz_blk HX2.out 13; have f14 := fz_blk HX2.out 14; have f15 := fz_blk HX2.out 15; have f16 := fz_blk HX2.out 16; have f17 := fz_blk HX2.out 17; have f18 := fz_blk HX2.out 18; have f19 := fz_blk HX2.out 19
  have HX3' := Lib.hid (rte_fetch HX2.out (!named r.name))
  go_upto_region 13 with (go_at_call 49
                          refine (rNamed_any r.name hn _).mono ?_
                          rintro e w3 ⟨rfl, hb3⟩
                          have HX3 := Lib.hid (blk_below hb3 (lt_of_some HX2.out) HX2.out); have HP3 := Lib.hid (blk_below hb3 (lt_of_some HP2.out) HP2.out); have HR3 := Lib.hid (blk_below hb3 (lt_of_some HR2.out) HR2.out)
                          have HB3 := Lib.hid (HB2.out.trans (hb3.mono HB2.out.size))
                          have f13 := fz_blk HX3.out 13; have d13 := (rte_cells HX3.out).1.2.2.1
                          clear hb3 HX3')
  have HX4 := Lib.hid (rte_fetch HX3.out (!named r.name))
  have hon : Only (· = w.heap.size) w3 (w3.setCell ⟨w.heap.size, 13, none⟩ (.bool (!named r.name))) := only_setCell w3 ⟨w.heap.size, 13, none⟩ (.bool (!named r.name))
  have HP4 := Lib.hid ((hon.block _ (lt_of_some HP3.out) (by show ¬ w.heap.size + 1 = w.heap.size; omega)).trans HP3.out)
  have HR4 := Lib.hid ((hon.block _ (lt_of_some HR3.out) (by show ¬ w.heap.size + 1 + 1 = w.heap.size; omega)).trans HR3.out)
  have HB4 := Lib.hid (hon.below HB3.out (fun q hq => by have hq : q = w.heap.size := hq; omega) HB3.out.size)
  clear hon
  change Code.wp _ _ _ _ (w3.setCell ⟨w.heap.size, 13, none⟩ (.bool (!named r.name)))
  generalize (w3.setCell ⟨w.heap.size, 13, none⟩ (.bool (!named r.name))) = w4 at *
  clear c0 c1 c13 c14 c15 c16 clt c2 c3 c4 c5 c6 c7 c8 c9 c10 c11 c12 c17 c18 c19 q0 q1 q2 q3 q4 qlt q5 q6 q7 q8 q9 q10 q11 q12 q13 q14 q15 f2 f3 f4 f5 f6 f7 f8 f9 f10 f11 f12 f13 f14 f15 f16 f17 f18 f19
  obtain ⟨⟨c0, c1, c13, c14, c15, c16, clt⟩, ⟨c2, c3, c4, c5, c6, c7, c8, c9, c10, c11, c12⟩, c17, c18, c19⟩ := rte_cells HX4.out
  obtain ⟨⟨q0, q1, q2, q3, q4, qlt⟩, q5, q6, q7, q8, q9, q10, q11, q12, q13, q14, q15⟩ := rep_cells HP4.out
  have f2 := fz_blk HX4.out 2; have f3 := fz_blk HX4.out 3; have f4 := fz_blk HX4.out 4; have f5 := fz_blk HX4.out 5; have f6 := fz_blk HX4.out 6; have f7 := fz_blk HX4.out 7; have f8 := fz_blk HX4.out 8; have f9 := fz_blk HX4.out 9; have f10 := fz_blk HX4.out 10; have f11 := fz_blk HX4.out 11; have f12 := fz_blk HX4.out 12
  have f13 := fz_blk HX4.out 13; have f14 := fz_blk HX4.out 14; have f15 := fz_blk HX4.out 15; have f16 := fz_blk HX4.out 16; have f17 := fz_blk HX4.out 17; have f18 := fz_blk HX4.out 18; have f19 := fz_blk HX4.out 19
  go_upto_region 17 with fail
  have HX5 := Lib.hid (rte_node HX4.out (1))
  have hon : Only (· = w.heap.size) w4 (w4.setCell ⟨w.heap.size, 14, none⟩ (.int .i64 (1))) := only_setCell w4 ⟨w.heap.size, 14, none⟩ (.int .i64 (1))
  have HP5 := Lib.hid ((hon.block _ (lt_of_some HP4.out) (by show ¬ w.heap.size + 1 = w.heap.size; omega)).trans HP4.out)
  have HR5 := Lib.hid ((hon.block _ (lt_of_some HR4.out) (by show ¬ w.heap.size + 1 + 1 = w.heap.size; omega)).trans HR4.out)
  have HB5 := Lib.hid (hon.below HB4.out (fun q hq => by have hq : q = w.heap.size := hq; omega) HB4.out.size)
  clear hon
  go_upto_region 18 with fail
  change Code.wp _ _ _ _ (w4.setCell ⟨w.heap.size, 14, none⟩ (.int .i64 (1)))
  generalize (w4.setCell ⟨w.heap.size, 14, none⟩ (.int .i64 (1))) = w5 at *
  clear c0 c1 c13 c14 c15 c16 clt c2 c3 c4 c5 c6 c7 c8 c9 c10 c11 c12 c17 c18 c19 q0 q1 q2 q3 q4 qlt q5 q6 q7 q8 q9 q10 q11 q12 q13 q14 q15 f2 f3 f4 f5 f6 f7 f8 f9 f10 f11 f12 f13 f14 f15 f16 f17 f18 f19
  obtain ⟨⟨c0, c1, c13, c14, c15, c16, clt⟩, ⟨c2, c3, c4, c5, c6, c7, c8, c9, c10, c11, c12⟩, c17, c18, c19⟩ := rte_cells HX5.out
  obtain ⟨⟨q0, q1, q2, q3, q4, qlt⟩, q5, q6, q7, q8, q9, q10, q11, q12, q13, q14, q15⟩ := rep_cells HP5.out
  have f2 := fz_blk HX5.out 2; have f3 := fz_blk HX5.out 3; have f4 := fz_blk HX5.out 4; have f5 := fz_blk HX5.out 5; have f6 := fz_blk HX5.out 6; have f7 := fz_blk HX5.out 7; have f8 := fz_blk HX5.out 8; have f9 := fz_blk HX5.out 9; have f10 := fz_blk HX5.out 10; have f11 := fz_blk HX5.out 11; have f12 := fz_blk HX5.out 12
  have f13 := fz_blk HX5.out 13; have f14 := fz_blk HX5.out 14; have f15 := fz_blk HX5.out 15; have f16 := fz_blk HX5.out 16; have f17 := fz_blk HX5.out 17; have f18 := fz_blk HX5.out 18; have f19 := fz_blk HX5.out 19
  refine wp_region_lit ?_
  refine wpList_load39 rfl (.tmp 2) rfl w.heap.size rfl HX5.out ?_
  simp only [Act.put, List.setIfInBounds_toArray, List.set_cons_zero, List.set_cons_succ]
  refine wpList_store39 rfl (.tmp 4) (.tmp 61) rfl (w.heap.size + 1 + 1) rfl (r := { r with map := p.map, fetch := !named r.name, node := 1 }) (v := (.slice B p.map.sp.length bc)) (j := J) rfl rfl hJ HR5.out ?_
  intro w19 h19 ho19
  simp only [Act.put, List.setIfInBounds_toArray, List.set_cons_zero, List.set_cons_succ]
  go_wp2
  refine bodyPost_ret (results39_one rfl _ _ (w.heap.size + 1 + 1) rfl h19) rfl ?_
  exact ⟨rfl, ho19.below HB5.out (fun q hq => by omega) HB5.out.size⟩
set_option maxRecDepth 100000 in
set_option maxHeartbeats 1000000 in
theorem turn_mapped_l (w : World) (r : Rte) (p : Rep) (V J pj : Value) (hV : V.oneCell' = true) (hJ : J.oneCell' = true) (hv : RteOk r) (hx : r.node = r.nodes) (k1 : p.kind = 3) (k2 : r.fetch = true) (hn : r.name.size ≤ 9223372036854775807) {B : Option Addr} {bc : Nat} (hB : MapIn w B bc p.map) (k3 : tr (MapOk p.map) = true) :
    Calls Try.prog 59 #[r.val V J, p.val pj (.slice B p.map.sp.length bc)] w fun e w' => e = .returned ({ r with map := p.map, fetch := !named r.name, node := 1 }.val (.slice B p.map.sp.length bc) J) ∧ Below w.heap.size w w' := by
  have g1 := hv.1; have g2 := hv.2.1; have g3 := hv.2.2.1; have g4 := hv.2.2.2.1
  have hw : IntKind.i64.wrap (r.node + 1) = r.node + 1 := IntWalk.i64_in _ (by omega)
  have n1 : r.nodes < r.node + 1 := by omega
  have n2 : decide (r.nodes < r.node + 1) = true := decide_eq_true n1
  have Hnx := Lib.hid (show r.node % r.nodes + 1 = 1 by rw [hx, Int.emod_self]; rfl)
  clear hx hv
  have K1 := Lib.hid k1; clear k1
  have K2 := Lib.hid k2; clear k2
  have hC := fun w h => rCheck_any w B bc p.map h
  rw [k3] at hC
  have HC := Lib.hid hC; have HI := Lib.hid hB
  clear hC hB k3
  go_enter Try.func59, Try.ntmps59
  go_upto_region 1 with fail
  have hX0 : (((w.alloc (r.blk V J)).alloc (p.blk pj (.slice B p.map.sp.length bc))).alloc (zeroR.blk nilV nilV)).heap[w.heap.size]? = some (r.blk V J) := (Below.heap_alloc _ _ _ (by simp; omega)).trans ((Below.heap_alloc _ _ _ (by simp)).trans (heap_alloc_new w _))
  have hR0 : (((w.alloc (r.blk V J)).alloc (p.blk pj (.slice B p.map.sp.length bc))).alloc (zeroR.blk nilV nilV)).heap[w.heap.size + 1 + 1]? = some (zeroR.blk nilV nilV) := by simpa using heap_alloc_new ((w.alloc (r.blk V J)).alloc (p.blk pj (.slice B p.map.sp.length bc))) (zeroR.blk nilV nilV)
  have hP0 : (((w.alloc (r.blk V J)).alloc (p.blk pj (.slice B p.map.sp.length bc))).alloc (zeroR.blk nilV nilV)).heap[w.heap.size + 1]? = some (p.blk pj (.slice B p.map.sp.length bc)) := (Below.heap_alloc _ _ _ (by simp)).trans (heap_second _ _ _)
  have hB0 : Below w.heap.size w (((w.alloc (r.blk V J)).alloc (p.blk pj (.slice B p.map.sp.length bc))).alloc (zeroR.blk nilV nilV)) := al3 _ _ _
  change Code.wp _ _ _ _ (((w.alloc (r.blk V J)).alloc (p.blk pj (.slice B p.map.sp.length bc))).alloc (zeroR.blk nilV nilV))
  generalize (((w.alloc (r.blk V J)).alloc (p.blk pj (.slice B p.map.sp.length bc))).alloc (zeroR.blk nilV nilV)) = w0 at *
  have HX0 := Lib.hid hX0; have HP0 := Lib.hid hP0; have HR0 := Lib.hid hR0; have HB0 := Lib.hid hB0
  clear hX0 hP0 hR0 hB0
  obtain ⟨⟨c0, c1, c13, c14, c15, c16, clt⟩, ⟨c2, c3, c4, c5, c6, c7, c8, c9, c10, c11, c12⟩, c17, c18, c19⟩ := rte_cells HX0.out
  obtain ⟨⟨q0, q1, q2, q3, q4, qlt⟩, q5, q6, q7, q8, q9, q10, q11, q12, q13, q14, q15⟩ := rep_cells HP0.out
  have f2 := fz_blk HX0.out 2; have f3 := fz_blk HX0.out 3; have f4 := fz_blk HX0.out 4; have f5 := fz_blk HX0.out 5; have f6 := fz_blk HX0.out 6; have f7 := fz_blk HX0.out 7; have f8 := fz_blk HX0.out 8; have f9 := fz_blk HX0.out 9; have f10 := fz_blk HX0.out 10; have f11 := fz_blk HX0.out 11; have f12 := fz_blk HX0.out 12
  have f13 := fz_blk HX0.out 13; have f14 := fz_blk HX0.out 14; have f15 := fz_blk HX0.out 15; have f16 := fz_blk HX0.out 16; have f17 := fz_blk HX0.out 17; have f18 := fz_blk HX0.out 18; have f19 := fz_blk HX0.out 19
  rw [K1.out] at q0
  rw [K2.out] at c13
  go_upto_region 11 with (go_at_call 39
                          refine (HC.out _ (HI.out.below HB0.out)).mono ?_
                          rintro e w1 ⟨rfl, hb1⟩
                          have HX1 := Lib.hid (blk_below hb1 (lt_of_some HX0.out) HX0.out); have HP1 := Lib.hid (blk_below hb1 (lt_of_some HP0.out) HP0.out); have HR1 := Lib.hid (blk_below hb1 (lt_of_some HR0.out) HR0.out)
                          have HB1 := Lib.hid (HB0.out.trans (hb1.mono HB0.out.size))
                          clear hb1)
  clear c0 c1 c13 c14 c15 c16 clt c2 c3 c4 c5 c6 c7 c8 c9 c10 c11 c12 c17 c18 c19 q0 q1 q2 q3 q4 qlt q5 q6 q7 q8 q9 q10 q11 q12 q13 q14 q15 f2 f3 f4 f5 f6 f7 f8 f9 f10 f11 f12 f13 f14 f15 f16 f17 f18 f19
  obtain ⟨⟨c0, c1, c13, c14, c15, c16, clt⟩, ⟨c2, c3, c4, c5, c6, c7, c8, c9, c10, c11, c12⟩, c17, c18, c19⟩ := rte_cells HX1.out
  obtain ⟨⟨q0, q1, q2, q3, q4, qlt⟩, q5, q6, q7, q8, q9, q10, q11, q12, q13, q14, q15⟩ := rep_cells HP1.out
  have f2 := fz_blk HX1.out 2; have f3 := fz_blk HX1.out 3; have f4 := fz_blk HX1.out 4; have f5 := fz_blk HX1.out 5; have f6 := fz_blk HX1.out 6; have f7 := fz_blk HX1.out 7; have f8 := fz_blk HX1.out 8; have f9 := fz_blk HX1.out 9; have f10 := fz_blk HX1.out 10; have f11 := fz_blk HX1.out 11; have f12 := fz_blk HX1.out 12
  have f13 := fz_blk HX1.out 13; have f14 := fz_blk HX1.out 14; have f15 := fz_blk HX1.out 15; have f16 := fz_blk HX1.out 16; have f17 := fz_blk HX1.out 17; have f18 := fz_blk HX1.out 18; have f19 := fz_blk HX1.out 19
  have HX2 := Lib.hid (rte_putmap p.map (.slice B p.map.sp.length bc) HX1.out)
  have hon : Only (· = w.heap.size) w1 (putMap w1 w.heap.size p.map (.slice B p.map.sp.length bc)) := putMap_only w1 w.heap.size p.map (.slice B p.map.sp.length bc)
  have HP2 := Lib.hid ((hon.block _ (lt_of_some HP1.out) (by show ¬ w.heap.size + 1 = w.heap.size; omega)).trans HP1.out)
  have HR2 := Lib.hid ((hon.block _ (lt_of_some HR1.out) (by show ¬ w.heap.size + 1 + 1 = w.heap.size; omega)).trans HR1.out)
  have HB2 := Lib.hid (hon.below HB1.out (fun q hq => by have hq : q = w.heap.size := hq; omega) HB1.out.size)
  clear hon
  go_upto_region 12 with fail
  change Code.wp _ _ _ _ (putMap w1 w.heap.size p.map (.slice B p.map.sp.length bc))
  generalize (putMap w1 w.heap.size p.map (.slice B p.map.sp.length bc)) = w2 at *
  clear c0 c1 c13 c14 c15 c16 clt c2 c3 c4 c5 c6 c7 c8 c9 c10 c11 c12 c17 c18 c19 q0 q1 q2 q3 q4 qlt q5 q6 q7 q8 q9 q10 q11 q12 q13 q14 q15 f2 f3 f4 f5 f6 f7 f8 f9 f10 f11 f12 f13 f14 f15 f16 f17 f18 f19
  obtain ⟨⟨c0, c1, c13, c14, c15, c16, clt⟩, ⟨c2, c3, c4, c5, c6, c7, c8, c9, c10, c11, c12⟩, c17, c18, c19⟩ := rte_cells HX2.out
  obtain ⟨⟨q0, q1, q2, q3, q4, qlt⟩, q5, q6, q7, q8, q9, q10, q11, q12, q13, q14, q15⟩ := rep_cells HP2.out
  have f2 := fz_blk HX2.out 2; have f3 := fz_blk HX2.out 3; have f4 := fz_blk HX2.out 4; have f5 := fz_blk HX2.out 5; have f6 := fz_blk HX2.out 6; have f7 := fz_blk HX2.out 7; have f8 := fz_blk HX2.out 8; have f9 := fz_blk HX2.out 9; have f10 := fz_blk HX2.out 10; have f11 := fz_blk HX2.out 11; have f12 := fz_blk HX2.out 12
  have f13 := fz_blk HX2.out 13; have f14 := fz_blk HX2.out 14; have f15 := fz_blk HX2.out 15; have f16 := fz_blk HX2.out 16; have f17 := fz_blk HX2.out 17; have f18 := fz_blk HX2.out 18; have f19 := fz_blk HX2.out 19
  have HX3' := Lib.hid (rte_fetch HX2.out (!named r.name))
  go_upto_region 13 with (go_at_call 49
                          refine (rNamed_any r.name hn _).mono ?_
                          rintro e w3 ⟨rfl, hb3⟩
                          have HX3 := Lib.hid (blk_below hb3 (lt_of_some HX2.out) HX2.out); have HP3 := Lib.hid (blk_below hb3 (lt_of_some HP2.out) HP2.out); have HR3 := Lib.hid (blk_below hb3 (lt_of_some HR2.out) HR2.out)
                          have HB3 := Lib.hid (HB2.out.trans (hb3.mono HB2.out.size))
                          have f13 := fz_blk HX3.out 13; have d13 := (rte_cells HX3.out).1.2.2.1
                          clear hb3 HX3')
  have HX4 := Lib.hid (rte_fetch HX3.out (!named r.name))
  have hon : Only (· = w.heap.size) w3 (w3.setCell ⟨w.heap.size, 13, none⟩ (.bool (!named r.name))) := only_setCell w3 ⟨w.heap.size, 13, none⟩ (.bool (!named r.name))
  have HP4 := Lib.hid ((hon.block _ (lt_of_some HP3.out) (by show ¬ w.heap.size + 1 = w.heap.size; omega)).trans HP3.out)
  have HR4 := Lib.hid ((hon.block _ (lt_of_some HR3.out) (by show ¬ w.heap.size + 1 + 1 = w.heap.size; omega)).trans HR3.out)
  have HB4 := Lib.hid (hon.below HB3.out (fun q hq => by have hq : q = w.heap.size := hq; omega) HB3.out.size)
  clear hon
  change Code.wp _ _ _ _ (w3.setCell ⟨w.heap.size, 13, none⟩ (.bool (!named r.name)))
  generalize (w3.setCell ⟨w.heap.size, 13, none⟩ (.bool (!named r.name))) = w4 at *
  clear c0 c1 c13 c14 c15 c16 clt c2 c3 c4 c5 c6 c7 c8 c9 c10 c11 c12 c17 c18 c19 q0 q1 q2 q3 q4 qlt q5 q6 q7 q8 q9 q10 q11 q12 q13 q14 q15 f2 f3 f4 f5 f6 f7 f8 f9 f10 f11 f12 f13 f14 f15 f16 f17 f18 f19
  obtain ⟨⟨c0, c1, c13, c14, c15, c16, clt⟩, ⟨c2, c3, c4, c5, c6, c7, c8, c9, c10, c11, c12⟩, c17, c18, c19⟩ := rte_cells HX4.out
  obtain ⟨⟨q0, q1, q2, q3, q4, qlt⟩, q5, q6, q7, q8, q9, q10, q11, q12, q13, q14, q15⟩ := rep_cells HP4.out
  have f2 := fz_blk HX4.out 2; have f3 := fz_blk HX4.out 3; have f4 := fz_blk HX4.out 4; have f5 := fz_blk HX4.out 5; have f6 := fz_blk HX4.out 6; have f7 := fz_blk HX4.out 7; have f8 := fz_blk HX4.out 8; have f9 := fz_blk HX4.out 9; have f10 := fz_blk HX4.out 10; have f11 := fz_blk HX4.out 11; have f12 := fz_blk HX4.out 12
  have f13 := fz_blk HX4.out 13; have f14 := fz_blk HX4.out 14; have f15 := fz_blk HX4.out 15; have f16 := fz_blk HX4.out 16; have f17 := fz_blk HX4.out 17; have f18 := fz_blk HX4.out 18; have f19 := fz_blk HX4.out 19
  go_upto_region 17 with fail
  have HX5 := Lib.hid (rte_node HX4.out (1))
  have hon : Only (· = w.heap.size) w4 (w4.setCell ⟨w.heap.size, 14, none⟩ (.int .i64 (1))) := only_setCell w4 ⟨w.heap.size, 14, none⟩ (.int .i64 (1))
  have HP5 := Lib.hid ((hon.block _ (lt_of_some HP4.out) (by show ¬ w.heap.size + 1 = w.heap.size; omega)).trans HP4.out)
  have HR5 := Lib.hid ((hon.block _ (lt_of_some HR4.out) (by show ¬ w.heap.size + 1 + 1 = w.heap.size; omega)).trans HR4.out)
  have HB5 := Lib.hid (hon.below HB4.out (fun q hq => by have hq : q = w.heap.size := hq; omega) HB4.out.size)
  clear hon
  go_upto_region 18 with fail
  change Code.wp _ _ _ _ (w4.setCell ⟨w.heap.size, 14, none⟩ (.int .i64 (1)))
  generalize (w4.setCell ⟨w.heap.size, 14, none⟩ (.int .i64 (1))) = w5 at *
  clear c0 c1 c13 c14 c15 c16 clt c2 c3 c4 c5 c6 c7 c8 c9 c10 c11 c12 c17 c18 c19 q0 q1 q2 q3 q4 qlt q5 q6 q7 q8 q9 q10 q11 q12 q13 q14 q15 f2 f3 f4 f5 f6 f7 f8 f9 f10 f11 f12 f13 f14 f15 f16 f17 f18 f19
  obtain ⟨⟨c0, c1, c13, c14, c15, c16, clt⟩, ⟨c2, c3, c4, c5, c6, c7, c8, c9, c10, c11, c12⟩, c17, c18, c19⟩ := rte_cells HX5.out
  obtain ⟨⟨q0, q1, q2, q3, q4, qlt⟩, q5, q6, q7, q8, q9, q10, q11, q12, q13, q14, q15⟩ := rep_cells HP5.out
  have f2 := fz_blk HX5.out 2; have f3 := fz_blk HX5.out 3; have f4 := fz_blk HX5.out 4; have f5 := fz_blk HX5.out 5; have f6 := fz_blk HX5.out 6; have f7 := fz_blk HX5.out 7; have f8 := fz_blk HX5.out 8; have f9 := fz_blk HX5.out 9; have f10 := fz_blk HX5.out 10; have f11 := fz_blk HX5.out 11; have f12 := fz_blk HX5.out 12
  have f13 := fz_blk HX5.out 13; have f14 := fz_blk HX5.out 14; have f15 := fz_blk HX5.out 15; have f16 := fz_blk HX5.out 16; have f17 := fz_blk HX5.out 17; have f18 := fz_blk HX5.out 18; have f19 := fz_blk HX5.out 19
  refine wp_region_lit ?_
  refine wpList_load39 rfl (.tmp 2) rfl w.heap.size rfl HX5.out ?_
  simp only [Act.put, List.setIfInBounds_toArray, List.set_cons_zero, List.set_cons_succ]
  refine wpList_store39 rfl (.tmp 4) (.tmp 61) rfl (w.heap.size + 1 + 1) rfl (r := { r with map := p.map, fetch := !named r.name, node := 1 }) (v := (.slice B p.map.sp.length bc)) (j := J) rfl rfl hJ HR5.out ?_
  intro w19 h19 ho19
  simp only [Act.put, List.setIfInBounds_toArray, List.set_cons_zero, List.set_cons_succ]
  go_wp2
  refine bodyPost_ret (results39_one rfl _ _ (w.heap.size + 1 + 1) rfl h19) rfl ?_
  exact ⟨rfl, ho19.below HB5.out (fun q hq => by omega) HB5.out.size⟩
set_option maxRecDepth 100000 in
set_option maxHeartbeats 1000000 in
theorem turn_low_n (w : World) (r : Rte) (p : Rep) (V J pj pv : Value) (hV : V.oneCell' = true) (hJ : J.oneCell' = true) (hv : RteOk r) (hx : r.node < r.nodes) (k1 : p.kind = 1) (k2 : p.hint < 1) :
    Calls Try.prog 59 #[r.val V J, p.val pj pv] w fun e w' => e = .returned ({ r with node := r.node % r.nodes + 1 }.val V J) ∧ Below w.heap.size w w' := by
  have g1 := hv.1; have g2 := hv.2.1; have g3 := hv.2.2.1; have g4 := hv.2.2.2.1
  have hw : IntKind.i64.wrap (r.node + 1) = r.node + 1 := IntWalk.i64_in _ (by omega)
  have n1 : ¬ r.nodes < r.node + 1 := by omega
  have n2 : decide (r.nodes < r.node + 1) = false := decide_eq_false n1
  have Hnx := Lib.hid (show r.node % r.nodes + 1 = r.node + 1 by rw [Int.emod_eq_of_lt (by omega) hx])
  clear hx hv
  have K1 := Lib.hid k1; clear k1
  have k3 : ¬ 1 ≤ p.hint := by omega
  have k4 : decide (1 ≤ p.hint) = false := decide_eq_false k3
  go_enter Try.func59, Try.ntmps59
  go_upto_region 1 with fail
  have hX0 : (((w.alloc (r.blk V J)).alloc (p.blk pj pv)).alloc (zeroR.blk nilV nilV)).heap[w.heap.size]? = some (r.blk V J) := (Below.heap_alloc _ _ _ (by simp; omega)).trans ((Below.heap_alloc _ _ _ (by simp)).trans (heap_alloc_new w _))
  have hR0 : (((w.alloc (r.blk V J)).alloc (p.blk pj pv)).alloc (zeroR.blk nilV nilV)).heap[w.heap.size + 1 + 1]? = some (zeroR.blk nilV nilV) := by simpa using heap_alloc_new ((w.alloc (r.blk V J)).alloc (p.blk pj pv)) (zeroR.blk nilV nilV)
  have hP0 : (((w.alloc (r.blk V J)).alloc (p.blk pj pv)).alloc (zeroR.blk nilV nilV)).heap[w.heap.size + 1]? = some (p.blk pj pv) := (Below.heap_alloc _ _ _ (by simp)).trans (heap_second _ _ _)
  have hB0 : Below w.heap.size w (((w.alloc (r.blk V J)).alloc (p.blk pj pv)).alloc (zeroR.blk nilV nilV)) := al3 _ _ _
  change Code.wp _ _ _ _ (((w.alloc (r.blk V J)).alloc (p.blk pj pv)).alloc (zeroR.blk nilV nilV))
  generalize (((w.alloc (r.blk V J)).alloc (p.blk pj pv)).alloc (zeroR.blk nilV nilV)) = w0 at *
  have HX0 := Lib.hid hX0; have HP0 := Lib.hid hP0; have HR0 := Lib.hid hR0; have HB0 := Lib.hid hB0
  clear hX0 hP0 hR0 hB0
  obtain ⟨⟨c0, c1, c13, c14, c15, c16, clt⟩, ⟨c2, c3, c4, c5, c6, c7, c8, c9, c10, c11, c12⟩, c17, c18, c19⟩ := rte_cells HX0.out
  obtain ⟨⟨q0, q1, q2, q3, q4, qlt⟩, q5, q6, q7, q8, q9, q10, q11, q12, q13, q14, q15⟩ := rep_cells HP0.out
  have f2 := fz_blk HX0.out 2; have f3 := fz_blk HX0.out 3; have f4 := fz_blk HX0.out 4; have f5 := fz_blk HX0.out 5; have f6 := fz_blk HX0.out 6; have f7 := fz_blk HX0.out 7; have f8 := fz_blk HX0.out 8; have f9 := fz_blk HX0.out 9; have f10 := fz_blk HX0.out 10; have f11 := fz_blk HX0.out 11; have f12 := fz_blk HX0.out 12
  have f13 := fz_blk HX0.out 13; have f14 := fz_blk HX0.out 14; have f15 := fz_blk HX0.out 15; have f16 := fz_blk HX0.out 16; have f17 := fz_blk HX0.out 17; have f18 := fz_blk HX0.out 18; have f19 := fz_blk HX0.out 19
  rw [K1.out] at q0
  go_upto_region 17 with fail
  have HX1 := Lib.hid (rte_node HX0.out (r.node + 1))
  have hon : Only (· = w.heap.size) w0 (w0.setCell ⟨w.heap.size, 14, none⟩ (.int .i64 (r.node + 1))) := only_setCell w0 ⟨w.heap.size, 14, none⟩ (.int .i64 (r.node + 1))
  have HP1 := Lib.hid ((hon.block _ (lt_of_some HP0.out) (by show ¬ w.heap.size + 1 = w.heap.size; omega)).trans HP0.out)
  have HR1 := Lib.hid ((hon.block _ (lt_of_some HR0.out) (by show ¬ w.heap.size + 1 + 1 = w.heap.size; omega)).trans HR0.out)
  have HB1 := Lib.hid (hon.below HB0.out (fun q hq => by have hq : q = w.heap.size := hq; omega) HB0.out.size)
  clear hon
  go_upto_region 18 with fail
  change Code.wp _ _ _ _ (w0.setCell ⟨w.heap.size, 14, none⟩ (.int .i64 (r.node + 1)))
  generalize (w0.setCell ⟨w.heap.size, 14, none⟩ (.int .i64 (r.node + 1))) = w1 at *
  clear c0 c1 c13 c14 c15 c16 clt c2 c3 c4 c5 c6 c7 c8 c9 c10 c11 c12 c17 c18 c19 q0 q1 q2 q3 q4 qlt q5 q6 q7 q8 q9 q10 q11 q12 q13 q14 q15 f2 f3 f4 f5 f6 f7 f8 f9 f10 f11 f12 f13 f14 f15 f16 f17 f18 f19
  obtain ⟨⟨c0, c1, c13, c14, c15, c16, clt⟩, ⟨c2, c3, c4, c5, c6, c7, c8, c9, c10, c11, c12⟩, c17, c18, c19⟩ := rte_cells HX1.out
  obtain ⟨⟨q0, q1, q2, q3, q4, qlt⟩, q5, q6, q7, q8, q9, q10, q11, q12, q13, q14, q15⟩ := rep_cells HP1.out
  have f2 := fz_blk HX1.out 2; have f3 := fz_blk HX1.out 3; have f4 := fz_blk HX1.out 4; have f5 := fz_blk HX1.out 5; have f6 := fz_blk HX1.out 6; have f7 := fz_blk HX1.out 7; have f8 := fz_blk HX1.out 8; have f9 := fz_blk HX1.out 9; have f10 := fz_blk HX1.out 10; have f11 := fz_blk HX1.out 11; have f12 := fz_blk HX1.out 12
  have f13 := fz_blk HX1.out 13; have f14 := fz_blk HX1.out 14; have f15 := fz_blk HX1.out 15; have f16 := fz_blk HX1.out 16; have f17 := fz_blk HX1.out 17; have f18 := fz_blk HX1.out 18; have f19 := fz_blk HX1.out 19
  refine wp_region_lit ?_
  refine wpList_load39 rfl (.tmp 2) rfl w.heap.size rfl HX1.out ?_
  simp only [Act.put, List.setIfInBounds_toArray, List.set_cons_zero, List.set_cons_succ]
  refine wpList_store39 rfl (.tmp 4) (.tmp 61) rfl (w.heap.size + 1 + 1) rfl (r := { r with node := r.node + 1 }) (v := V) (j := J) rfl hV hJ HR1.out ?_
  intro w19 h19 ho19
  simp only [Act.put, List.setIfInBounds_toArray, List.set_cons_zero, List.set_cons_succ]
  go_wp2
  refine bodyPost_ret (results39_one rfl _ _ (w.heap.size + 1 + 1) rfl h19) rfl ?_
  exact ⟨by rw [Hnx.out]; rfl, ho19.below HB1.out (fun q hq => by omega) HB1.out.size⟩
set_option maxRecDepth 100000 in
set_option maxHeartbeats 1000000 in
theorem turn_low_l (w : World) (r : Rte) (p : Rep) (V J pj pv : Value) (hV : V.oneCell' = true) (hJ : J.oneCell' = true) (hv : RteOk r) (hx : r.node = r.nodes) (k1 : p.kind = 1) (k2 : p.hint < 1) :
    Calls Try.prog 59 #[r.val V J, p.val pj pv] w fun e w' => e = .returned ({ r with node := r.node % r.nodes + 1 }.val V J) ∧ Below w.heap.size w w' := by
  have g1 := hv.1; have g2 := hv.2.1; have g3 := hv.2.2.1; have g4 := hv.2.2.2.1
  have hw : IntKind.i64.wrap (r.node + 1) = r.node + 1 := IntWalk.i64_in _ (by omega)
  have n1 : r.nodes < r.node + 1 := by omega
  have n2 : decide (r.nodes < r.node + 1) = true := decide_eq_true n1
  have Hnx := Lib.hid (show r.node % r.nodes + 1 = 1 by rw [hx, Int.emod_self]; rfl)
  clear hx hv
  have K1 := Lib.hid k1; clear k1
  have k3 : ¬ 1 ≤ p.hint := by omega
  have k4 : decide (1 ≤ p.hint) = false := decide_eq_false k3
  go_enter Try.func59, Try.ntmps59
  go_upto_region 1 with fail
  have hX0 : (((w.alloc (r.blk V J)).alloc (p.blk pj pv)).alloc (zeroR.blk nilV nilV)).heap[w.heap.size]? = some (r.blk V J) := (Below.heap_alloc _ _ _ (by simp; omega)).trans ((Below.heap_alloc _ _ _ (by simp)).trans (heap_alloc_new w _))
  have hR0 : (((w.alloc (r.blk V J)).alloc (p.blk pj pv)).alloc (zeroR.blk nilV nilV)).heap[w.heap.size + 1 + 1]? = some (zeroR.blk nilV nilV) := by simpa using heap_alloc_new ((w.alloc (r.blk V J)).alloc (p.blk pj pv)) (zeroR.blk nilV nilV)
  have hP0 : (((w.alloc (r.blk V J)).alloc (p.blk pj pv)).alloc (zeroR.blk nilV nilV)).heap[w.heap.size + 1]? = some (p.blk pj pv) := (Below.heap_alloc _ _ _ (by simp)).trans (heap_second _ _ _)
  have hB0 : Below w.heap.size w (((w.alloc (r.blk V J)).alloc (p.blk pj pv)).alloc (zeroR.blk nilV nilV)) := al3 _ _ _
  change Code.wp _ _ _ _ (((w.alloc (r.blk V J)).alloc (p.blk pj pv)).alloc (zeroR.blk nilV nilV))
  generalize (((w.alloc (r.blk V J)).alloc (p.blk pj pv)).alloc (zeroR.blk nilV nilV)) = w0 at *
  have HX0 := Lib.hid hX0; have HP0 := Lib.hid hP0; have HR0 := Lib.hid hR0; have HB0 := Lib.hid hB0
  clear hX0 hP0 hR0 hB0
  obtain ⟨⟨c0, c1, c13, c14, c15, c16, clt⟩, ⟨c2, c3, c4, c5, c6, c7, c8, c9, c10, c11, c12⟩, c17, c18, c19⟩ := rte_cells HX0.out
  obtain ⟨⟨q0, q1, q2, q3, q4, qlt⟩, q5, q6, q7, q8, q9, q10, q11, q12, q13, q14, q15⟩ := rep_cells HP0.out
  have f2 := fz_blk HX0.out 2; have f3 := fz_blk HX0.out 3; have f4 := fz_blk HX0.out 4; have f5 := fz_blk HX0.out 5; have f6 := fz_blk HX0.out 6; have f7 := fz_blk HX0.out 7; have f8 := fz_blk HX0.out 8; have f9 := fz_blk HX0.out 9; have f10 := fz_blk HX0.out 10; have f11 := fz_blk HX0.out 11; have f12 := fz_blk HX0.out 12
  have f13 := fz_blk HX0.out 13; have f14 := fz_blk HX0.out 14; have f15 := fz_blk HX0.out 15; have f16 := fz_blk HX0.out 16; have f17 := fz_blk HX0.out 17; have f18 := fz_blk HX0.out 18; have f19 := fz_blk HX0.out 19
  rw [K1.out] at q0
  go_upto_region 17 with fail
  have HX1 := Lib.hid (rte_node HX0.out (1))
  have hon : Only (· = w.heap.size) w0 (w0.setCell ⟨w.heap.size, 14, none⟩ (.int .i64 (1))) := only_setCell w0 ⟨w.heap.size, 14, none⟩ (.int .i64 (1))
  have HP1 := Lib.hid ((hon.block _ (lt_of_some HP0.out) (by show ¬ w.heap.size + 1 = w.heap.size; omega)).trans HP0.out)
  have HR1 := Lib.hid ((hon.block _ (lt_of_some HR0.out) (by show ¬ w.heap.size + 1 + 1 = w.heap.size; omega)).trans HR0.out)
  have HB1 := Lib.hid (hon.below HB0.out (fun q hq => by have hq : q = w.heap.size := hq; omega) HB0.out.size)
  clear hon
  go_upto_region 18 with fail
  change Code.wp _ _ _ _ (w0.setCell ⟨w.heap.size, 14, none⟩ (.int .i64 (1)))
  generalize (w0.setCell ⟨w.heap.size, 14, none⟩ (.int .i64 (1))) = w1 at *
  clear c0 c1 c13 c14 c15 c16 clt c2 c3 c4 c5 c6 c7 c8 c9 c10 c11 c12 c17 c18 c19 q0 q1 q2 q3 q4 qlt q5 q6 q7 q8 q9 q10 q11 q12 q13 q14 q15 f2 f3 f4 f5 f6 f7 f8 f9 f10 f11 f12 f13 f14 f15 f16 f17 f18 f19
  obtain ⟨⟨c0, c1, c13, c14, c15, c16, clt⟩, ⟨c2, c3, c4, c5, c6, c7, c8, c9, c10, c11, c12⟩, c17, c18, c19⟩ := rte_cells HX1.out
  obtain ⟨⟨q0, q1, q2, q3, q4, qlt⟩, q5, q6, q7, q8, q9, q10, q11, q12, q13, q14, q15⟩ := rep_cells HP1.out
  have f2 := fz_blk HX1.out 2; have f3 := fz_blk HX1.out 3; have f4 := fz_blk HX1.out 4; have f5 := fz_blk HX1.out 5; have f6 := fz_blk HX1.out 6; have f7 := fz_blk HX1.out 7; have f8 := fz_blk HX1.out 8; have f9 := fz_blk HX1.out 9; have f10 := fz_blk HX1.out 10; have f11 := fz_blk HX1.out 11; have f12 := fz_blk HX1.out 12
  have f13 := fz_blk HX1.out 13; have f14 := fz_blk HX1.out 14; have f15 := fz_blk HX1.out 15; have f16 := fz_blk HX1.out 16; have f17 := fz_blk HX1.out 17; have f18 := fz_blk HX1.out 18; have f19 := fz_blk HX1.out 19
  refine wp_region_lit ?_
  refine wpList_load39 rfl (.tmp 2) rfl w.heap.size rfl HX1.out ?_
  simp only [Act.put, List.setIfInBounds_toArray, List.set_cons_zero, List.set_cons_succ]
  refine wpList_store39 rfl (.tmp 4) (.tmp 61) rfl (w.heap.size + 1 + 1) rfl (r := { r with node := 1 }) (v := V) (j := J) rfl hV hJ HR1.out ?_
  intro w19 h19 ho19
  simp only [Act.put, List.setIfInBounds_toArray, List.set_cons_zero, List.set_cons_succ]
  go_wp2
  refine bodyPost_ret (results39_one rfl _ _ (w.heap.size + 1 + 1) rfl h19) rfl ?_
  exact ⟨by rw [Hnx.out]; rfl, ho19.below HB1.out (fun q hq => by omega) HB1.out.size⟩
set_option maxRecDepth 100000 in
set_option maxHeartbeats 1000000 in
theorem turn_high_n (w : World) (r : Rte) (p : Rep) (V J pj pv : Value) (hV : V.oneCell' = true) (hJ : J.oneCell' = true) (hv : RteOk r) (hx : r.node < r.nodes) (k1 : p.kind = 1) (k2 : 1 ≤ p.hint) (k2h : r.nodes < p.hint) :
    Calls Try.prog 59 #[r.val V J, p.val pj pv] w fun e w' => e = .returned ({ r with node := r.node % r.nodes + 1 }.val V J) ∧ Below w.heap.size w w' := by
  have g1 := hv.1; have g2 := hv.2.1; have g3 := hv.2.2.1; have g4 := hv.2.2.2.1
  have hw : IntKind.i64.wrap (r.node + 1) = r.node + 1 := IntWalk.i64_in _ (by omega)
  have n1 : ¬ r.nodes < r.node + 1 := by omega
  have n2 : decide (r.nodes < r.node + 1) = false := decide_eq_false n1
  have Hnx := Lib.hid (show r.node % r.nodes + 1 = r.node + 1 by rw [Int.emod_eq_of_lt (by omega) hx])
  clear hx hv
  have K1 := Lib.hid k1; clear k1
  have k3 : decide (1 ≤ p.hint) = true := decide_eq_true k2
  have k4 : ¬ p.hint ≤ r.nodes := by omega
  have k5 : decide (p.hint ≤ r.nodes) = false := decide_eq_false k4
  go_enter Try.func59, Try.ntmps59
  go_upto_region 1 with fail
  have hX0 : (((w.alloc (r.blk V J)).alloc (p.blk pj pv)).alloc (zeroR.blk nilV nilV)).heap[w.heap.size]? = some (r.blk V J) := (Below.heap_alloc _ _ _ (by simp; omega)).trans ((Below.heap_alloc _ _ _ (by simp)).trans (heap_alloc_new w _))
  have hR0 : (((w.alloc (r.blk V J)).alloc (p.blk pj pv)).alloc (zeroR.blk nilV nilV)).heap[w.heap.size + 1 + 1]? = some (zeroR.blk nilV nilV) := by simpa using heap_alloc_new ((w.alloc (r.blk V J)).alloc (p.blk pj pv)) (zeroR.blk nilV nilV)
  have hP0 : (((w.alloc (r.blk V J)).alloc (p.blk pj pv)).alloc (zeroR.blk nilV nilV)).heap[w.heap.size + 1]? = some (p.blk pj pv) := (Below.heap_alloc _ _ _ (by simp)).trans (heap_second _ _ _)
  have hB0 : Below w.heap.size w (((w.alloc (r.blk V J)).alloc (p.blk pj pv)).alloc (zeroR.blk nilV nilV)) := al3 _ _ _
  change Code.wp _ _ _ _ (((w.alloc (r.blk V J)).alloc (p.blk pj pv)).alloc (zeroR.blk nilV nilV))
  generalize (((w.alloc (r.blk V J)).alloc (p.blk pj pv)).alloc (zeroR.blk nilV nilV)) = w0 at *
  have HX0 := Lib.hid hX0; have HP0 := Lib.hid hP0; have HR0 := Lib.hid hR0; have HB0 := Lib.hid hB0
  clear hX0 hP0 hR0 hB0
  obtain ⟨⟨c0, c1, c13, c14, c15, c16, clt⟩, ⟨c2, c3, c4, c5, c6, c7, c8, c9, c10, c11, c12⟩, c17, c18, c19⟩ := rte_cells HX0.out
  obtain ⟨⟨q0, q1, q2, q3, q4, qlt⟩, q5, q6, q7, q8, q9, q10, q11, q12, q13, q14, q15⟩ := rep_cells HP0.out
  have f2 := fz_blk HX0.out 2; have f3 := fz_blk HX0.out 3; have f4 := fz_blk HX0.out 4; have f5 := fz_blk HX0.out 5; have f6 := fz_blk HX0.out 6; have f7 := fz_blk HX0.out 7; have f8 := fz_blk HX0.out 8; have f9 := fz_blk HX0.out 9; have f10 := fz_blk HX0.out 10; have f11 := fz_blk HX0.out 11; have f12 := fz_blk HX0.out 12
  have f13 := fz_blk HX0.out 13; have f14 := fz_blk HX0.out 14; have f15 := fz_blk HX0.out 15; have f16 := fz_blk HX0.out 16; have f17 := fz_blk HX0.out 17; have f18 := fz_blk HX0.out 18; have f19 := fz_blk HX0.out 19
  rw [K1.out] at q0
  go_upto_region 17 with fail
  have HX1 := Lib.hid (rte_node HX0.out (r.node + 1))
  have hon : Only (· = w.heap.size) w0 (w0.setCell ⟨w.heap.size, 14, none⟩ (.int .i64 (r.node + 1))) := only_setCell w0 ⟨w.heap.size, 14, none⟩ (.int .i64 (r.node + 1))
  have HP1 := Lib.hid ((hon.block _ (lt_of_some HP0.out) (by show ¬ w.heap.size + 1 = w.heap.size; omega)).trans HP0.out)
  have HR1 := Lib.hid ((hon.block _ (lt_of_some HR0.out) (by show ¬ w.heap.size + 1 + 1 = w.heap.size; omega)).trans HR0.out)
  have HB1 := Lib.hid (hon.below HB0.out (fun q hq => by have hq : q = w.heap.size := hq; omega) HB0.out.size)
  clear hon
  go_upto_region 18 with fail
  change Code.wp _ _ _ _ (w0.setCell ⟨w.heap.size, 14, none⟩ (.int .i64 (r.node + 1)))
  generalize (w0.setCell ⟨w.heap.size, 14, none⟩ (.int .i64 (r.node + 1))) = w1 at *
  clear c0 c1 c13 c14 c15 c16 clt c2 c3 c4 c5 c6 c7 c8 c9 c10 c11 c12 c17 c18 c19 q0 q1 q2 q3 q4 qlt q5 q6 q7 q8 q9 q10 q11 q12 q13 q14 q15 f2 f3 f4 f5 f6 f7 f8 f9 f10 f11 f12 f13 f14 f15 f16 f17 f18 f19
  obtain ⟨⟨c0, c1, c13, c14, c15, c16, clt⟩, ⟨c2, c3, c4, c5, c6, c7, c8, c9, c10, c11, c12⟩, c17, c18, c19⟩ := rte_cells HX1.out
  obtain ⟨⟨q0, q1, q2, q3, q4, qlt⟩, q5, q6, q7, q8, q9, q10, q11, q12, q13, q14, q15⟩ := rep_cells HP1.out
  have f2 := fz_blk HX1.out 2; have f3 := fz_blk HX1.out 3; have f4 := fz_blk HX1.out 4; have f5 := fz_blk HX1.out 5; have f6 := fz_blk HX1.out 6; have f7 := fz_blk HX1.out 7; have f8 := fz_blk HX1.out 8; have f9 := fz_blk HX1.out 9; have f10 := fz_blk HX1.out 10; have f11 := fz_blk HX1.out 11; have f12 := fz_blk HX1.out 12
  have f13 := fz_blk HX1.out 13; have f14 := fz_blk HX1.out 14; have f15 := fz_blk HX1.out 15; have f16 := fz_blk HX1.out 16; have f17 := fz_blk HX1.out 17; have f18 := fz_blk HX1.out 18; have f19 := fz_blk HX1.out 19
  refine wp_region_lit ?_
  refine wpList_load39 rfl (.tmp 2) rfl w.heap.size rfl HX1.out ?_
  simp only [Act.put, List.setIfInBounds_toArray, List.set_cons_zero, List.set_cons_succ]
  refine wpList_store39 rfl (.tmp 4) (.tmp 61) rfl (w.heap.size + 1 + 1) rfl (r := { r with node := r.node + 1 }) (v := V) (j := J) rfl hV hJ HR1.out ?_
  intro w19 h19 ho19
  simp only [Act.put, List.setIfInBounds_toArray, List.set_cons_zero, List.set_cons_succ]
  go_wp2
  refine bodyPost_ret (results39_one rfl _ _ (w.heap.size + 1 + 1) rfl h19) rfl ?_
  exact ⟨by rw [Hnx.out]; rfl, ho19.below HB1.out (fun q hq => by omega) HB1.out.size⟩
set_option maxRecDepth 100000 in
set_option maxHeartbeats 1000000 in
theorem turn_high_l (w : World) (r : Rte) (p : Rep) (V J pj pv : Value) (hV : V.oneCell' = true) (hJ : J.oneCell' = true) (hv : RteOk r) (hx : r.node = r.nodes) (k1 : p.kind = 1) (k2 : 1 ≤ p.hint) (k2h : r.nodes < p.hint) :
    Calls Try.prog 59 #[r.val V J, p.val pj pv] w fun e w' => e = .returned ({ r with node := r.node % r.nodes + 1 }.val V J) ∧ Below w.heap.size w w' := by
  have g1 := hv.1; have g2 := hv.2.1; have g3 := hv.2.2.1; have g4 := hv.2.2.2.1
  have hw : IntKind.i64.wrap (r.node + 1) = r.node + 1 := IntWalk.i64_in _ (by omega)
  have n1 : r.nodes < r.node + 1 := by omega
  have n2 : decide (r.nodes < r.node + 1) = true := decide_eq_true n1
  have Hnx := Lib.hid (show r.node % r.nodes + 1 = 1 by rw [hx, Int.emod_self]; rfl)
  clear hx hv
  have K1 := Lib.hid k1; clear k1
  have k3 : decide (1 ≤ p.hint) = true := decide_eq_true k2
  have k4 : ¬ p.hint ≤ r.nodes := by omega
  have k5 : decide (p.hint ≤ r.nodes) = false := decide_eq_false k4
  go_enter Try.func59, Try.ntmps59
  go_upto_region 1 with fail
  have hX0 : (((w.alloc (r.blk V J)).alloc (p.blk pj pv)).alloc (zeroR.blk nilV nilV)).heap[w.heap.size]? = some (r.blk V J) := (Below.heap_alloc _ _ _ (by simp; omega)).trans ((Below.heap_alloc _ _ _ (by simp)).trans (heap_alloc_new w _))
  have hR0 : (((w.alloc (r.blk V J)).alloc (p.blk pj pv)).alloc (zeroR.blk nilV nilV)).heap[w.heap.size + 1 + 1]? = some (zeroR.blk nilV nilV) := by simpa using heap_alloc_new ((w.alloc (r.blk V J)).alloc (p.blk pj pv)) (zeroR.blk nilV nilV)
  have hP0 : (((w.alloc (r.blk V J)).alloc (p.blk pj pv)).alloc (zeroR.blk nilV nilV)).heap[w.heap.size + 1]? = some (p.blk pj pv) := (Below.heap_alloc _ _ _ (by simp)).trans (heap_second _ _ _)
  have hB0 : Below w.heap.size w (((w.alloc (r.blk V J)).alloc (p.blk pj pv)).alloc (zeroR.blk nilV nilV)) := al3 _ _ _
  change Code.wp _ _ _ _ (((w.alloc (r.blk V J)).alloc (p.blk pj pv)).alloc (zeroR.blk nilV nilV))
  generalize (((w.alloc (r.blk V J)).alloc (p.blk pj pv)).alloc (zeroR.blk nilV nilV)) = w0 at *
  have HX0 := Lib.hid hX0; have HP0 := Lib.hid hP0; have HR0 := Lib.hid hR0; have HB0 := Lib.hid hB0
  clear hX0 hP0 hR0 hB0
  obtain ⟨⟨c0, c1, c13, c14, c15, c16, clt⟩, ⟨c2, c3, c4, c5, c6, c7, c8, c9, c10, c11, c12⟩, c17, c18, c19⟩ := rte_cells HX0.out
  obtain ⟨⟨q0, q1, q2, q3, q4, qlt⟩, q5, q6, q7, q8, q9, q10, q11, q12, q13, q14, q15⟩ := rep_cells HP0.out
  have f2 := fz_blk HX0.out 2; have f3 := fz_blk HX0.out 3; have f4 := fz_blk HX0.out 4; have f5 := fz_blk HX0.out 5; have f6 := fz_blk HX0.out 6; have f7 := fz_blk HX0.out 7; have f8 := fz_blk HX0.out 8; have f9 := fz_blk HX0.out 9; have f10 := fz_blk HX0.out 10; have f11 := fz_blk HX0.out 11; have f12 := fz_blk HX0.out 12
  have f13 := fz_blk HX0.out 13; have f14 := fz_blk HX0.out 14; have f15 := fz_blk HX0.out 15; have f16 := fz_blk HX0.out 16; have f17 := fz_blk HX0.out 17; have f18 := fz_blk HX0.out 18; have f19 := fz_blk HX0.out 19
  rw [K1.out] at q0
  go_upto_region 17 with fail
  have HX1 := Lib.hid (rte_node HX0.out (1))
  have hon : Only (· = w.heap.size) w0 (w0.setCell ⟨w.heap.size, 14, none⟩ (.int .i64 (1))) := only_setCell w0 ⟨w.heap.size, 14, none⟩ (.int .i64 (1))
  have HP1 := Lib.hid ((hon.block _ (lt_of_some HP0.out) (by show ¬ w.heap.size + 1 = w.heap.size; omega)).trans HP0.out)
  have HR1 := Lib.hid ((hon.block _ (lt_of_some HR0.out) (by show ¬ w.heap.size + 1 + 1 = w.heap.size; omega)).trans HR0.out)
  have HB1 := Lib.hid (hon.below HB0.out (fun q hq => by have hq : q = w.heap.size := hq; omega) HB0.out.size)
  clear hon
  go_upto_region 18 with fail
  change Code.wp _ _ _ _ (w0.setCell ⟨w.heap.size, 14, none⟩ (.int .i64 (1)))
  generalize (w0.setCell ⟨w.heap.size, 14, none⟩ (.int .i64 (1))) = w1 at *
  clear c0 c1 c13 c14 c15 c16 clt c2 c3 c4 c5 c6 c7 c8 c9 c10 c11 c12 c17 c18 c19 q0 q1 q2 q3 q4 qlt q5 q6 q7 q8 q9 q10 q11 q12 q13 q14 q15 f2 f3 f4 f5 f6 f7 f8 f9 f10 f11 f12 f13 f14 f15 f16 f17 f18 f19
  obtain ⟨⟨c0, c1, c13, c14, c15, c16, clt⟩, ⟨c2, c3, c4, c5, c6, c7, c8, c9, c10, c11, c12⟩, c17, c18, c19⟩ := rte_cells HX1.out
  obtain ⟨⟨q0, q1, q2, q3, q4, qlt⟩, q5, q6, q7, q8, q9, q10, q11, q12, q13, q14, q15⟩ := rep_cells HP1.out
  have f2 := fz_blk HX1.out 2; have f3 := fz_blk HX1.out 3; have f4 := fz_blk HX1.out 4; have f5 := fz_blk HX1.out 5; have f6 := fz_blk HX1.out 6; have f7 := fz_blk HX1.out 7; have f8 := fz_blk HX1.out 8; have f9 := fz_blk HX1.out 9; have f10 := fz_blk HX1.out 10; have f11 := fz_blk HX1.out 11; have f12 := fz_blk HX1.out 12
  have f13 := fz_blk HX1.out 13; have f14 := fz_blk HX1.out 14; have f15 := fz_blk HX1.out 15; have f16 := fz_blk HX1.out 16; have f17 := fz_blk HX1.out 17; have f18 := fz_blk HX1.out 18; have f19 := fz_blk HX1.out 19
  refine wp_region_lit ?_
  refine wpList_load39 rfl (.tmp 2) rfl w.heap.size rfl HX1.out ?_
  simp only [Act.put, List.setIfInBounds_toArray, List.set_cons_zero, List.set_cons_succ]
  refine wpList_store39 rfl (.tmp 4) (.tmp 61) rfl (w.heap.size + 1 + 1) rfl (r := { r with node := 1 }) (v := V) (j := J) rfl hV hJ HR1.out ?_
  intro w19 h19 ho19
  simp only [Act.put, List.setIfInBounds_toArray, List.set_cons_zero, List.set_cons_succ]
  go_wp2
  refine bodyPost_ret (results39_one rfl _ _ (w.heap.size + 1 + 1) rfl h19) rfl ?_
  exact ⟨by rw [Hnx.out]; rfl, ho19.below HB1.out (fun q hq => by omega) HB1.out.size⟩
set_option maxRecDepth 100000 in
set_option maxHeartbeats 1000000 in
theorem turn_self_n (w : World) (r : Rte) (p : Rep) (V J pj pv : Value) (hV : V.oneCell' = true) (hJ : J.oneCell' = true) (hv : RteOk r) (hx : r.node < r.nodes) (k1 : p.kind = 1) (k2 : p.hint = r.node) :
    Calls Try.prog 59 #[r.val V J, p.val pj pv] w fun e w' => e = .returned ({ r with node := r.node % r.nodes + 1 }.val V J) ∧ Below w.heap.size w w' := by
  have g1 := hv.1; have g2 := hv.2.1; have g3 := hv.2.2.1; have g4 := hv.2.2.2.1
  have hw : IntKind.i64.wrap (r.node + 1) = r.node + 1 := IntWalk.i64_in _ (by omega)
  have n1 : ¬ r.nodes < r.node + 1 := by omega
  have n2 : decide (r.nodes < r.node + 1) = false := decide_eq_false n1
  have Hnx := Lib.hid (show r.node % r.nodes + 1 = r.node + 1 by rw [Int.emod_eq_of_lt (by omega) hx])
  clear hx hv
  have K1 := Lib.hid k1; clear k1
  have k3 : 1 ≤ p.hint := by omega
  have k4 : p.hint ≤ r.nodes := by omega
  have k5 : (p.hint == r.node) = true := by simpa using k2
  have k5' : (p.hint != r.node) = false := by simpa using k2
  have k6 : decide (1 ≤ p.hint) = true := decide_eq_true k3
  have k7 : decide (p.hint ≤ r.nodes) = true := decide_eq_true k4
  clear k2
  go_enter Try.func59, Try.ntmps59
  go_upto_region 1 with fail
  have hX0 : (((w.alloc (r.blk V J)).alloc (p.blk pj pv)).alloc (zeroR.blk nilV nilV)).heap[w.heap.size]? = some (r.blk V J) := (Below.heap_alloc _ _ _ (by simp; omega)).trans ((Below.heap_alloc _ _ _ (by simp)).trans (heap_alloc_new w _))
  have hR0 : (((w.alloc (r.blk V J)).alloc (p.blk pj pv)).alloc (zeroR.blk nilV nilV)).heap[w.heap.size + 1 + 1]? = some (zeroR.blk nilV nilV) := by simpa using heap_alloc_new ((w.alloc (r.blk V J)).alloc (p.blk pj pv)) (zeroR.blk nilV nilV)
  have hP0 : (((w.alloc (r.blk V J)).alloc (p.blk pj pv)).alloc (zeroR.blk nilV nilV)).heap[w.heap.size + 1]? = some (p.blk pj pv) := (Below.heap_alloc _ _ _ (by simp)).trans (heap_second _ _ _)
  have hB0 : Below w.heap.size w (((w.alloc (r.blk V J)).alloc (p.blk pj pv)).alloc (zeroR.blk nilV nilV)) := al3 _ _ _
  change Code.wp _ _ _ _ (((w.alloc (r.blk V J)).alloc (p.blk pj pv)).alloc (zeroR.blk nilV nilV))
  generalize (((w.alloc (r.blk V J)).alloc (p.blk pj pv)).alloc (zeroR.blk nilV nilV)) = w0 at *
  have HX0 := Lib.hid hX0; have HP0 := Lib.hid hP0; have HR0 := Lib.hid hR0; have HB0 := Lib.hid hB0
  clear hX0 hP0 hR0 hB0
  obtain ⟨⟨c0, c1, c13, c14, c15, c16, clt⟩, ⟨c2, c3, c4, c5, c6, c7, c8, c9, c10, c11, c12⟩, c17, c18, c19⟩ := rte_cells HX0.out
  obtain ⟨⟨q0, q1, q2, q3, q4, qlt⟩, q5, q6, q7, q8, q9, q10, q11, q12, q13, q14, q15⟩ := rep_cells HP0.out
  have f2 := fz_blk HX0.out 2; have f3 := fz_blk HX0.out 3; have f4 := fz_blk HX0.out 4; have f5 := fz_blk HX0.out 5; have f6 := fz_blk HX0.out 6; have f7 := fz_blk HX0.out 7; have f8 := fz_blk HX0.out 8; have f9 := fz_blk HX0.out 9; have f10 := fz_blk HX0.out 10; have f11 := fz_blk HX0.out 11; have f12 := fz_blk HX0.out 12
  have f13 := fz_blk HX0.out 13; have f14 := fz_blk HX0.out 14; have f15 := fz_blk HX0.out 15; have f16 := fz_blk HX0.out 16; have f17 := fz_blk HX0.out 17; have f18 := fz_blk HX0.out 18; have f19 := fz_blk HX0.out 19
  rw [K1.out] at q0
  go_upto_region 17 with fail
  have HX1 := Lib.hid (rte_node HX0.out (r.node + 1))
  have hon : Only (· = w.heap.size) w0 (w0.setCell ⟨w.heap.size, 14, none⟩ (.int .i64 (r.node + 1))) := only_setCell w0 ⟨w.heap.size, 14, none⟩ (.int .i64 (r.node + 1))
  have HP1 := Lib.hid ((hon.block _ (lt_of_some HP0.out) (by show ¬ w.heap.size + 1 = w.heap.size; omega)).trans HP0.out)
  have HR1 := Lib.hid ((hon.block _ (lt_of_some HR0.out) (by show ¬ w.heap.size + 1 + 1 = w.heap.size; omega)).trans HR0.out)
  have HB1 := Lib.hid (hon.below HB0.out (fun q hq => by have hq : q = w.heap.size := hq; omega) HB0.out.size)
  clear hon
  go_upto_region 18 with fail
  change Code.wp _ _ _ _ (w0.setCell ⟨w.heap.size, 14, none⟩ (.int .i64 (r.node + 1)))
  generalize (w0.setCell ⟨w.heap.size, 14, none⟩ (.int .i64 (r.node + 1))) = w1 at *
  clear c0 c1 c13 c14 c15 c16 clt c2 c3 c4 c5 c6 c7 c8 c9 c10 c11 c12 c17 c18 c19 q0 q1 q2 q3 q4 qlt q5 q6 q7 q8 q9 q10 q11 q12 q13 q14 q15 f2 f3 f4 f5 f6 f7 f8 f9 f10 f11 f12 f13 f14 f15 f16 f17 f18 f19
  obtain ⟨⟨c0, c1, c13, c14, c15, c16, clt⟩, ⟨c2, c3, c4, c5, c6, c7, c8, c9, c10, c11, c12⟩, c17, c18, c19⟩ := rte_cells HX1.out
  obtain ⟨⟨q0, q1, q2, q3, q4, qlt⟩, q5, q6, q7, q8, q9, q10, q11, q12, q13, q14, q15⟩ := rep_cells HP1.out
  have f2 := fz_blk HX1.out 2; have f3 := fz_blk HX1.out 3; have f4 := fz_blk HX1.out 4; have f5 := fz_blk HX1.out 5; have f6 := fz_blk HX1.out 6; have f7 := fz_blk HX1.out 7; have f8 := fz_blk HX1.out 8; have f9 := fz_blk HX1.out 9; have f10 := fz_blk HX1.out 10; have f11 := fz_blk HX1.out 11; have f12 := fz_blk HX1.out 12
  have f13 := fz_blk HX1.out 13; have f14 := fz_blk HX1.out 14; have f15 := fz_blk HX1.out 15; have f16 := fz_blk HX1.out 16; have f17 := fz_blk HX1.out 17; have f18 := fz_blk HX1.out 18; have f19 := fz_blk HX1.out 19
  refine wp_region_lit ?_
  refine wpList_load39 rfl (.tmp 2) rfl w.heap.size rfl HX1.out ?_
  simp only [Act.put, List.setIfInBounds_toArray, List.set_cons_zero, List.set_cons_succ]
  refine wpList_store39 rfl (.tmp 4) (.tmp 61) rfl (w.heap.size + 1 + 1) rfl (r := { r with node := r.node + 1 }) (v := V) (j := J) rfl hV hJ HR1.out ?_
  intro w19 h19 ho19
  simp only [Act.put, List.setIfInBounds_toArray, List.set_cons_zero, List.set_cons_succ]
  go_wp2
  refine bodyPost_ret (results39_one rfl _ _ (w.heap.size + 1 + 1) rfl h19) rfl ?_
  exact ⟨by rw [Hnx.out]; rfl, ho19.below HB1.out (fun q hq => by omega) HB1.out.size⟩
set_option maxRecDepth 100000 in
set_option maxHeartbeats 1000000 in
theorem turn_self_l (w : World) (r : Rte) (p : Rep) (V J pj pv : Value) (hV : V.oneCell' = true) (hJ : J.oneCell' = true) (hv : RteOk r) (hx : r.node = r.nodes) (k1 : p.kind = 1) (k2 : p.hint = r.node) :
    Calls Try.prog 59 #[r.val V J, p.val pj pv] w fun e w' => e = .returned ({ r with node := r.node % r.nodes + 1 }.val V J) ∧ Below w.heap.size w w' := by
  have g1 := hv.1; have g2 := hv.2.1; have g3 := hv.2.2.1; have g4 := hv.2.2.2.1
  have hw : IntKind.i64.wrap (r.node + 1) = r.node + 1 := IntWalk.i64_in _ (by omega)
  have n1 : r.nodes < r.node + 1 := by omega
  have n2 : decide (r.nodes < r.node + 1) = true := decide_eq_true n1
  have Hnx := Lib.hid (show r.node % r.nodes + 1 = 1 by rw [hx, Int.emod_self]; rfl)
  clear hx hv
  have K1 := Lib.hid k1; clear k1
  have k3 : 1 ≤ p.hint := by omega
  have k4 : p.hint ≤ r.nodes := by omega
  have k5 : (p.hint == r.node) = true := by simpa using k2
  have k5' : (p.hint != r.node) = false := by simpa using k2
  have k6 : decide (1 ≤ p.hint) = true := decide_eq_true k3
  have k7 : decide (p.hint ≤ r.nodes) = true := decide_eq_true k4
  clear k2
  go_enter Try.func59, Try.ntmps59
  go_upto_region 1 with fail
  have hX0 : (((w.alloc (r.blk V J)).alloc (p.blk pj pv)).alloc (zeroR.blk nilV nilV)).heap[w.heap.size]? = some (r.blk V J) := (Below.heap_alloc _ _ _ (by simp; omega)).trans ((Below.heap_alloc _ _ _ (by simp)).trans (heap_alloc_new w _))
  have hR0 : (((w.alloc (r.blk V J)).alloc (p.blk pj pv)).alloc (zeroR.blk nilV nilV)).heap[w.heap.size + 1 + 1]? = some (zeroR.blk nilV nilV) := by simpa using heap_alloc_new ((w.alloc (r.blk V J)).alloc (p.blk pj pv)) (zeroR.blk nilV nilV)
  have hP0 : (((w.alloc (r.blk V J)).alloc (p.blk pj pv)).alloc (zeroR.blk nilV nilV)).heap[w.heap.size + 1]? = some (p.blk pj pv) := (Below.heap_alloc _ _ _ (by simp)).trans (heap_second _ _ _)
  have hB0 : Below w.heap.size w (((w.alloc (r.blk V J)).alloc (p.blk pj pv)).alloc (zeroR.blk nilV nilV)) := al3 _ _ _
  change Code.wp _ _ _ _ (((w.alloc (r.blk V J)).alloc (p.blk pj pv)).alloc (zeroR.blk nilV nilV))
  generalize (((w.alloc (r.blk V J)).alloc (p.blk pj pv)).alloc (zeroR.blk nilV nilV)) = w0 at *
  have HX0 := Lib.hid hX0; have HP0 := Lib.hid hP0; have HR0 := Lib.hid hR0; have HB0 := Lib.hid hB0
  clear hX0 hP0 hR0 hB0
  obtain ⟨⟨c0, c1, c13, c14, c15, c16, clt⟩, ⟨c2, c3, c4, c5, c6, c7, c8, c9, c10, c11, c12⟩, c17, c18, c19⟩ := rte_cells HX0.out
  obtain ⟨⟨q0, q1, q2, q3, q4, qlt⟩, q5, q6, q7, q8, q9, q10, q11, q12, q13, q14, q15⟩ := rep_cells HP0.out
  have f2 := fz_blk HX0.out 2; have f3 := fz_blk HX0.out 3; have f4 := fz_blk HX0.out 4; have f5 := fz_blk HX0.out 5; have f6 := fz_blk HX0.out 6; have f7 := fz_blk HX0.out 7; have f8 := fz_blk HX0.out 8; have f9 := fz_blk HX0.out 9; have f10 := fz_blk HX0.out 10; have f11 := fz_blk HX0.out 11; have f12 := fz_blk HX0.out 12
  have f13 := fz_blk HX0.out 13; have f14 := fz_blk HX0.out 14; have f15 := fz_blk HX0.out 15; have f16 := fz_blk HX0.out 16; have f17 := fz_blk HX0.out 17; have f18 := fz_blk HX0.out 18; have f19 := fz_blk HX0.out 19
  rw [K1.out] at q0
  go_upto_region 17 with fail
  have HX1 := Lib.hid (rte_node HX0.out (1))
  have hon : Only (· = w.heap.size) w0 (w0.setCell ⟨w.heap.size, 14, none⟩ (.int .i64 (1))) := only_setCell w0 ⟨w.heap.size, 14, none⟩ (.int .i64 (1))
  have HP1 := Lib.hid ((hon.block _ (lt_of_some HP0.out) (by show ¬ w.heap.size + 1 = w.heap.size; omega)).trans HP0.out)
  have HR1 := Lib.hid ((hon.block _ (lt_of_some HR0.out) (by show ¬ w.heap.size + 1 + 1 = w.heap.size; omega)).trans HR0.out)
  have HB1 := Lib.hid (hon.below HB0.out (fun q hq => by have hq : q = w.heap.size := hq; omega) HB0.out.size)
  clear hon
  go_upto_region 18 with fail
  change Code.wp _ _ _ _ (w0.setCell ⟨w.heap.size, 14, none⟩ (.int .i64 (1)))
  generalize (w0.setCell ⟨w.heap.size, 14, none⟩ (.int .i64 (1))) = w1 at *
  clear c0 c1 c13 c14 c15 c16 clt c2 c3 c4 c5 c6 c7 c8 c9 c10 c11 c12 c17 c18 c19 q0 q1 q2 q3 q4 qlt q5 q6 q7 q8 q9 q10 q11 q12 q13 q14 q15 f2 f3 f4 f5 f6 f7 f8 f9 f10 f11 f12 f13 f14 f15 f16 f17 f18 f19
  obtain ⟨⟨c0, c1, c13, c14, c15, c16, clt⟩, ⟨c2, c3, c4, c5, c6, c7, c8, c9, c10, c11, c12⟩, c17, c18, c19⟩ := rte_cells HX1.out
  obtain ⟨⟨q0, q1, q2, q3, q4, qlt⟩, q5, q6, q7, q8, q9, q10, q11, q12, q13, q14, q15⟩ := rep_cells HP1.out
  have f2 := fz_blk HX1.out 2; have f3 := fz_blk HX1.out 3; have f4 := fz_blk HX1.out 4; have f5 := fz_blk HX1.out 5; have f6 := fz_blk HX1.out 6; have f7 := fz_blk HX1.out 7; have f8 := fz_blk HX1.out 8; have f9 := fz_blk HX1.out 9; have f10 := fz_blk HX1.out 10; have f11 := fz_blk HX1.out 11; have f12 := fz_blk HX1.out 12
  have f13 := fz_blk HX1.out 13; have f14 := fz_blk HX1.out 14; have f15 := fz_blk HX1.out 15; have f16 := fz_blk HX1.out 16; have f17 := fz_blk HX1.out 17; have f18 := fz_blk HX1.out 18; have f19 := fz_blk HX1.out 19
  refine wp_region_lit ?_
  refine wpList_load39 rfl (.tmp 2) rfl w.heap.size rfl HX1.out ?_
  simp only [Act.put, List.setIfInBounds_toArray, List.set_cons_zero, List.set_cons_succ]
  refine wpList_store39 rfl (.tmp 4) (.tmp 61) rfl (w.heap.size + 1 + 1) rfl (r := { r with node := 1 }) (v := V) (j := J) rfl hV hJ HR1.out ?_
  intro w19 h19 ho19
  simp only [Act.put, List.setIfInBounds_toArray, List.set_cons_zero, List.set_cons_succ]
  go_wp2
  refine bodyPost_ret (results39_one rfl _ _ (w.heap.size + 1 + 1) rfl h19) rfl ?_
  exact ⟨by rw [Hnx.out]; rfl, ho19.below HB1.out (fun q hq => by omega) HB1.out.size⟩
set_option maxRecDepth 100000 in
set_option maxHeartbeats 1000000 in
theorem turn_hint_n (w : World) (r : Rte) (p : Rep) (V J pj pv : Value) (hV : V.oneCell' = true) (hJ : J.oneCell' = true) (hv : RteOk r) (hx : r.node < r.nodes) (k1 : p.kind = 1) (k2 : 1 ≤ p.hint) (k2h : p.hint ≤ r.nodes) (k3 : ¬ p.hint = r.node) :
    Calls Try.prog 59 #[r.val V J, p.val pj pv] w fun e w' => e = .returned ({ r with node := p.hint }.val V J) ∧ Below w.heap.size w w' := by
  have g1 := hv.1; have g2 := hv.2.1; have g3 := hv.2.2.1; have g4 := hv.2.2.2.1
  have hw : IntKind.i64.wrap (r.node + 1) = r.node + 1 := IntWalk.i64_in _ (by omega)
  have n1 : ¬ r.nodes < r.node + 1 := by omega
  have n2 : decide (r.nodes < r.node + 1) = false := decide_eq_false n1
  have Hnx := Lib.hid (show r.node % r.nodes + 1 = r.node + 1 by rw [Int.emod_eq_of_lt (by omega) hx])
  clear hx hv
  have K1 := Lib.hid k1; clear k1
  have k5 : (p.hint == r.node) = false := by simpa using k3
  have k5' : (p.hint != r.node) = true := by simpa using k3
  have k6 : decide (1 ≤ p.hint) = true := decide_eq_true k2
  have k7 : decide (p.hint ≤ r.nodes) = true := decide_eq_true k2h
  clear k3
  go_enter Try.func59, Try.ntmps59
  go_upto_region 1 with fail
  have hX0 : (((w.alloc (r.blk V J)).alloc (p.blk pj pv)).alloc (zeroR.blk nilV nilV)).heap[w.heap.size]? = some (r.blk V J) := (Below.heap_alloc _ _ _ (by simp; omega)).trans ((Below.heap_alloc _ _ _ (by simp)).trans (heap_alloc_new w _))
  have hR0 : (((w.alloc (r.blk V J)).alloc (p.blk pj pv)).alloc (zeroR.blk nilV nilV)).heap[w.heap.size + 1 + 1]? = some (zeroR.blk nilV nilV) := by simpa using heap_alloc_new ((w.alloc (r.blk V J)).alloc (p.blk pj pv)) (zeroR.blk nilV nilV)
  have hP0 : (((w.alloc (r.blk V J)).alloc (p.blk pj pv)).alloc (zeroR.blk nilV nilV)).heap[w.heap.size + 1]? = some (p.blk pj pv) := (Below.heap_alloc _ _ _ (by simp)).trans (heap_second _ _ _)
  have hB0 : Below w.heap.size w (((w.alloc (r.blk V J)).alloc (p.blk pj pv)).alloc (zeroR.blk nilV nilV)) := al3 _ _ _
  change Code.wp _ _ _ _ (((w.alloc (r.blk V J)).alloc (p.blk pj pv)).alloc (zeroR.blk nilV nilV))
  generalize (((w.alloc (r.blk V J)).alloc (p.blk pj pv)).alloc (zeroR.blk nilV nilV)) = w0 at *
  have HX0 := Lib.hid hX0; have HP0 := Lib.hid hP0; have HR0 := Lib.hid hR0; have HB0 := Lib.hid hB0
  clear hX0 hP0 hR0 hB0
  obtain ⟨⟨c0, c1, c13, c14, c15, c16, clt⟩, ⟨c2, c3, c4, c5, c6, c7, c8, c9, c10, c11, c12⟩, c17, c18, c19⟩ := rte_cells HX0.out
  obtain ⟨⟨q0, q1, q2, q3, q4, qlt⟩, q5, q6, q7, q8, q9, q10, q11, q12, q13, q14, q15⟩ := rep_cells HP0.out
  have f2 := fz_blk HX0.out 2; have f3 := fz_blk HX0.out 3; have f4 := fz_blk HX0.out 4; have f5 := fz_blk HX0.out 5; have f6 := fz_blk HX0.out 6; have f7 := fz_blk HX0.out 7; have f8 := fz_blk HX0.out 8; have f9 := fz_blk HX0.out 9; have f10 := fz_blk HX0.out 10; have f11 := fz_blk HX0.out 11; have f12 := fz_blk HX0.out 12
  have f13 := fz_blk HX0.out 13; have f14 := fz_blk HX0.out 14; have f15 := fz_blk HX0.out 15; have f16 := fz_blk HX0.out 16; have f17 := fz_blk HX0.out 17; have f18 := fz_blk HX0.out 18; have f19 := fz_blk HX0.out 19
  rw [K1.out] at q0
  go_upto_region 17 with fail
  have HX1 := Lib.hid (rte_node HX0.out (p.hint))
  have hon : Only (· = w.heap.size) w0 (w0.setCell ⟨w.heap.size, 14, none⟩ (.int .i64 (p.hint))) := only_setCell w0 ⟨w.heap.size, 14, none⟩ (.int .i64 (p.hint))
  have HP1 := Lib.hid ((hon.block _ (lt_of_some HP0.out) (by show ¬ w.heap.size + 1 = w.heap.size; omega)).trans HP0.out)
  have HR1 := Lib.hid ((hon.block _ (lt_of_some HR0.out) (by show ¬ w.heap.size + 1 + 1 = w.heap.size; omega)).trans HR0.out)
  have HB1 := Lib.hid (hon.below HB0.out (fun q hq => by have hq : q = w.heap.size := hq; omega) HB0.out.size)
  clear hon
  go_upto_region 18 with fail
  change Code.wp _ _ _ _ (w0.setCell ⟨w.heap.size, 14, none⟩ (.int .i64 (p.hint)))
  generalize (w0.setCell ⟨w.heap.size, 14, none⟩ (.int .i64 (p.hint))) = w1 at *
  clear c0 c1 c13 c14 c15 c16 clt c2 c3 c4 c5 c6 c7 c8 c9 c10 c11 c12 c17 c18 c19 q0 q1 q2 q3 q4 qlt q5 q6 q7 q8 q9 q10 q11 q12 q13 q14 q15 f2 f3 f4 f5 f6 f7 f8 f9 f10 f11 f12 f13 f14 f15 f16 f17 f18 f19
  obtain ⟨⟨c0, c1, c13, c14, c15, c16, clt⟩, ⟨c2, c3, c4, c5, c6, c7, c8, c9, c10, c11, c12⟩, c17, c18, c19⟩ := rte_cells HX1.out
  obtain ⟨⟨q0, q1, q2, q3, q4, qlt⟩, q5, q6, q7, q8, q9, q10, q11, q12, q13, q14, q15⟩ := rep_cells HP1.out
  have f2 := fz_blk HX1.out 2; have f3 := fz_blk HX1.out 3; have f4 := fz_blk HX1.out 4; have f5 := fz_blk HX1.out 5; have f6 := fz_blk HX1.out 6; have f7 := fz_blk HX1.out 7; have f8 := fz_blk HX1.out 8; have f9 := fz_blk HX1.out 9; have f10 := fz_blk HX1.out 10; have f11 := fz_blk HX1.out 11; have f12 := fz_blk HX1.out 12
  have f13 := fz_blk HX1.out 13; have f14 := fz_blk HX1.out 14; have f15 := fz_blk HX1.out 15; have f16 := fz_blk HX1.out 16; have f17 := fz_blk HX1.out 17; have f18 := fz_blk HX1.out 18; have f19 := fz_blk HX1.out 19
  refine wp_region_lit ?_
  refine wpList_load39 rfl (.tmp 2) rfl w.heap.size rfl HX1.out ?_
  simp only [Act.put, List.setIfInBounds_toArray, List.set_cons_zero, List.set_cons_succ]
  refine wpList_store39 rfl (.tmp 4) (.tmp 61) rfl (w.heap.size + 1 + 1) rfl (r := { r with node := p.hint }) (v := V) (j := J) rfl hV hJ HR1.out ?_
  intro w19 h19 ho19
  simp only [Act.put, List.setIfInBounds_toArray, List.set_cons_zero, List.set_cons_succ]
  go_wp2
  refine bodyPost_ret (results39_one rfl _ _ (w.heap.size + 1 + 1) rfl h19) rfl ?_
  exact ⟨rfl, ho19.below HB1.out (fun q hq => by omega) HB1.out.size⟩
set_option maxRecDepth 100000 in
set_option maxHeartbeats 1000000 in
theorem turn_hint_l (w : World) (r : Rte) (p : Rep) (V J pj pv : Value) (hV : V.oneCell' = true) (hJ : J.oneCell' = true) (hv : RteOk r) (hx : r.node = r.nodes) (k1 : p.kind = 1) (k2 : 1 ≤ p.hint) (k2h : p.hint ≤ r.nodes) (k3 : ¬ p.hint = r.node) :
    Calls Try.prog 59 #[r.val V J, p.val pj pv] w fun e w' => e = .returned ({ r with node := p.hint }.val V J) ∧ Below w.heap.size w w' := by
  have g1 := hv.1; have g2 := hv.2.1; have g3 := hv.2.2.1; have g4 := hv.2.2.2.1
  have hw : IntKind.i64.wrap (r.node + 1) = r.node + 1 := IntWalk.i64_in _ (by omega)
  have n1 : r.nodes < r.node + 1 := by omega
  have n2 : decide (r.nodes < r.node + 1) = true := decide_eq_true n1
  have Hnx := Lib.hid (show r.node % r.nodes + 1 = 1 by rw [hx, Int.emod_self]; rfl)
  clear hx hv
  have K1 := Lib.hid k1; clear k1
  have k5 : (p.hint == r.node) = false := by simpa using k3
  have k5' : (p.hint != r.node) = true := by simpa using k3
  have k6 : decide (1 ≤ p.hint) = true := decide_eq_true k2
  have k7 : decide (p.hint ≤ r.nodes) = true := decide_eq_true k2h
  clear k3
  go_enter Try.func59, Try.ntmps59
  go_upto_region 1 with fail
  have hX0 : (((w.alloc (r.blk V J)).alloc (p.blk pj pv)).alloc (zeroR.blk nilV nilV)).heap[w.heap.size]? = some (r.blk V J) := (Below.heap_alloc _ _ _ (by simp; omega)).trans ((Below.heap_alloc _ _ _ (by simp)).trans (heap_alloc_new w _))
  have hR0 : (((w.alloc (r.blk V J)).alloc (p.blk pj pv)).alloc (zeroR.blk nilV nilV)).heap[w.heap.size + 1 + 1]? = some (zeroR.blk nilV nilV) := by simpa using heap_alloc_new ((w.alloc (r.blk V J)).alloc (p.blk pj pv)) (zeroR.blk nilV nilV)
  have hP0 : (((w.alloc (r.blk V J)).alloc (p.blk pj pv)).alloc (zeroR.blk nilV nilV)).heap[w.heap.size + 1]? = some (p.blk pj pv) := (Below.heap_alloc _ _ _ (by simp)).trans (heap_second _ _ _)
  have hB0 : Below w.heap.size w (((w.alloc (r.blk V J)).alloc (p.blk pj pv)).alloc (zeroR.blk nilV nilV)) := al3 _ _ _
  change Code.wp _ _ _ _ (((w.alloc (r.blk V J)).alloc (p.blk pj pv)).alloc (zeroR.blk nilV nilV))
  generalize (((w.alloc (r.blk V J)).alloc (p.blk pj pv)).alloc (zeroR.blk nilV nilV)) = w0 at *
  have HX0 := Lib.hid hX0; have HP0 := Lib.hid hP0; have HR0 := Lib.hid hR0; have HB0 := Lib.hid hB0
  clear hX0 hP0 hR0 hB0
  obtain ⟨⟨c0, c1, c13, c14, c15, c16, clt⟩, ⟨c2, c3, c4, c5, c6, c7, c8, c9, c10, c11, c12⟩, c17, c18, c19⟩ := rte_cells HX0.out
  obtain ⟨⟨q0, q1, q2, q3, q4, qlt⟩, q5, q6, q7, q8, q9, q10, q11, q12, q13, q14, q15⟩ := rep_cells HP0.out
  have f2 := fz_blk HX0.out 2; have f3 := fz_blk HX0.out 3; have f4 := fz_blk HX0.out 4; have f5 := fz_blk HX0.out 5; have f6 := fz_blk HX0.out 6; have f7 := fz_blk HX0.out 7; have f8 := fz_blk HX0.out 8; have f9 := fz_blk HX0.out 9; have f10 := fz_blk HX0.out 10; have f11 := fz_blk HX0.out 11; have f12 := fz_blk HX0.out 12
  have f13 := fz_blk HX0.out 13; have f14 := fz_blk HX0.out 14; have f15 := fz_blk HX0.out 15; have f16 := fz_blk HX0.out 16; have f17 := fz_blk HX0.out 17; have f18 := fz_blk HX0.out 18; have f19 := fz_blk HX0.out 19
  rw [K1.out] at q0
  go_upto_region 17 with fail
  have HX1 := Lib.hid (rte_node HX0.out (p.hint))
  have hon : Only (· = w.heap.size) w0 (w0.setCell ⟨w.heap.size, 14, none⟩ (.int .i64 (p.hint))) := only_setCell w0 ⟨w.heap.size, 14, none⟩ (.int .i64 (p.hint))
  have HP1 := Lib.hid ((hon.block _ (lt_of_some HP0.out) (by show ¬ w.heap.size + 1 = w.heap.size; omega)).trans HP0.out)
  have HR1 := Lib.hid ((hon.block _ (lt_of_some HR0.out) (by show ¬ w.heap.size + 1 + 1 = w.heap.size; omega)).trans HR0.out)
  have HB1 := Lib.hid (hon.below HB0.out (fun q hq => by have hq : q = w.heap.size := hq; omega) HB0.out.size)
  clear hon
  go_upto_region 18 with fail
  change Code.wp _ _ _ _ (w0.setCell ⟨w.heap.size, 14, none⟩ (.int .i64 (p.hint)))
  generalize (w0.setCell ⟨w.heap.size, 14, none⟩ (.int .i64 (p.hint))) = w1 at *
  clear c0 c1 c13 c14 c15 c16 clt c2 c3 c4 c5 c6 c7 c8 c9 c10 c11 c12 c17 c18 c19 q0 q1 q2 q3 q4 qlt q5 q6 q7 q8 q9 q10 q11 q12 q13 q14 q15 f2 f3 f4 f5 f6 f7 f8 f9 f10 f11 f12 f13 f14 f15 f16 f17 f18 f19
  obtain ⟨⟨c0, c1, c13, c14, c15, c16, clt⟩, ⟨c2, c3, c4, c5, c6, c7, c8, c9, c10, c11, c12⟩, c17, c18, c19⟩ := rte_cells HX1.out
  obtain ⟨⟨q0, q1, q2, q3, q4, qlt⟩, q5, q6, q7, q8, q9, q10, q11, q12, q13, q14, q15⟩ := rep_cells HP1.out
  have f2 := fz_blk HX1.out 2; have f3 := fz_blk HX1.out 3; have f4 := fz_blk HX1.out 4; have f5 := fz_blk HX1.out 5; have f6 := fz_blk HX1.out 6; have f7 := fz_blk HX1.out 7; have f8 := fz_blk HX1.out 8; have f9 := fz_blk HX1.out 9; have f10 := fz_blk HX1.out 10; have f11 := fz_blk HX1.out 11; have f12 := fz_blk HX1.out 12
  have f13 := fz_blk HX1.out 13; have f14 := fz_blk HX1.out 14; have f15 := fz_blk HX1.out 15; have f16 := fz_blk HX1.out 16; have f17 := fz_blk HX1.out 17; have f18 := fz_blk HX1.out 18; have f19 := fz_blk HX1.out 19
  refine wp_region_lit ?_
  refine wpList_load39 rfl (.tmp 2) rfl w.heap.size rfl HX1.out ?_
  simp only [Act.put, List.setIfInBounds_toArray, List.set_cons_zero, List.set_cons_succ]
  refine wpList_store39 rfl (.tmp 4) (.tmp 61) rfl (w.heap.size + 1 + 1) rfl (r := { r with node := p.hint }) (v := V) (j := J) rfl hV hJ HR1.out ?_
  intro w19 h19 ho19
  simp only [Act.put, List.setIfInBounds_toArray, List.set_cons_zero, List.set_cons_succ]
  go_wp2
  refine bodyPost_ret (results39_one rfl _ _ (w.heap.size + 1 + 1) rfl h19) rfl ?_
  exact ⟨rfl, ho19.below HB1.out (fun q hq => by omega) HB1.out.size⟩
set_option maxRecDepth 100000 in
set_option maxHeartbeats 1000000 in
theorem turn_else_n (w : World) (r : Rte) (p : Rep) (V J pj pv : Value) (hV : V.oneCell' = true) (hJ : J.oneCell' = true) (hv : RteOk r) (hx : r.node < r.nodes) (k1 : ¬ p.kind = 1) (k2 : ¬ p.kind = 2) (k3 : ¬ p.kind = 3) :
    Calls Try.prog 59 #[r.val V J, p.val pj pv] w fun e w' => e = .returned ({ r with node := r.node % r.nodes + 1 }.val V J) ∧ Below w.heap.size w w' := by
  have g1 := hv.1; have g2 := hv.2.1; have g3 := hv.2.2.1; have g4 := hv.2.2.2.1
  have hw : IntKind.i64.wrap (r.node + 1) = r.node + 1 := IntWalk.i64_in _ (by omega)
  have n1 : ¬ r.nodes < r.node + 1 := by omega
  have n2 : decide (r.nodes < r.node + 1) = false := decide_eq_false n1
  have Hnx := Lib.hid (show r.node % r.nodes + 1 = r.node + 1 by rw [Int.emod_eq_of_lt (by omega) hx])
  clear hx hv
  have e1 : (p.kind == 1) = false := by simpa using k1
  have e2 : (p.kind == 2) = false := by simpa using k2
  have e3 : (p.kind == 3) = false := by simpa using k3
  clear k1 k2 k3
  go_enter Try.func59, Try.ntmps59
  go_upto_region 1 with fail
  have hX0 : (((w.alloc (r.blk V J)).alloc (p.blk pj pv)).alloc (zeroR.blk nilV nilV)).heap[w.heap.size]? = some (r.blk V J) := (Below.heap_alloc _ _ _ (by simp; omega)).trans ((Below.heap_alloc _ _ _ (by simp)).trans (heap_alloc_new w _))
  have hR0 : (((w.alloc (r.blk V J)).alloc (p.blk pj pv)).alloc (zeroR.blk nilV nilV)).heap[w.heap.size + 1 + 1]? = some (zeroR.blk nilV nilV) := by simpa using heap_alloc_new ((w.alloc (r.blk V J)).alloc (p.blk pj pv)) (zeroR.blk nilV nilV)
  have hP0 : (((w.alloc (r.blk V J)).alloc (p.blk pj pv)).alloc (zeroR.blk nilV nilV)).heap[w.heap.size + 1]? = some (p.blk pj pv) := (Below.heap_alloc _ _ _ (by simp)).trans (heap_second _ _ _)
  have hB0 : Below w.heap.size w (((w.alloc (r.blk V J)).alloc (p.blk pj pv)).alloc (zeroR.blk nilV nilV)) := al3 _ _ _
  change Code.wp _ _ _ _ (((w.alloc (r.blk V J)).alloc (p.blk pj pv)).alloc (zeroR.blk nilV nilV))
  generalize (((w.alloc (r.blk V J)).alloc (p.blk pj pv)).alloc (zeroR.blk nilV nilV)) = w0 at *
  have HX0 := Lib.hid hX0; have HP0 := Lib.hid hP0; have HR0 := Lib.hid hR0; have HB0 := Lib.hid hB0
  clear hX0 hP0 hR0 hB0
  obtain ⟨⟨c0, c1, c13, c14, c15, c16, clt⟩, ⟨c2, c3, c4, c5, c6, c7, c8, c9, c10, c11, c12⟩, c17, c18, c19⟩ := rte_cells HX0.out
  obtain ⟨⟨q0, q1, q2, q3, q4, qlt⟩, q5, q6, q7, q8, q9, q10, q11, q12, q13, q14, q15⟩ := rep_cells HP0.out
  have f2 := fz_blk HX0.out 2; have f3 := fz_blk HX0.out 3; have f4 := fz_blk HX0.out 4; have f5 := fz_blk HX0.out 5; have f6 := fz_blk HX0.out 6; have f7 := fz_blk HX0.out 7; have f8 := fz_blk HX0.out 8; have f9 := fz_blk HX0.out 9; have f10 := fz_blk HX0.out 10; have f11 := fz_blk HX0.out 11; have f12 := fz_blk HX0.out 12
  have f13 := fz_blk HX0.out 13; have f14 := fz_blk HX0.out 14; have f15 := fz_blk HX0.out 15; have f16 := fz_blk HX0.out 16; have f17 := fz_blk HX0.out 17; have f18 := fz_blk HX0.out 18; have f19 := fz_blk HX0.out 19
  go_upto_region 17 with fail
  have HX1 := Lib.hid (rte_node HX0.out (r.node + 1))
  have hon : Only (· = w.heap.size) w0 (w0.setCell ⟨w.heap.size, 14, none⟩ (.int .i64 (r.node + 1))) := only_setCell w0 ⟨w.heap.size, 14, none⟩ (.int .i64 (r.node + 1))
  have HP1 := Lib.hid ((hon.block _ (lt_of_some HP0.out) (by show ¬ w.heap.size + 1 = w.heap.size; omega)).trans HP0.out)
  have HR1 := Lib.hid ((hon.block _ (lt_of_some HR0.out) (by show ¬ w.heap.size + 1 + 1 = w.heap.size; omega)).trans HR0.out)
  have HB1 := Lib.hid (hon.below HB0.out (fun q hq => by have hq : q = w.heap.size := hq; omega) HB0.out.size)
  clear hon
  go_upto_region 18 with fail
  change Code.wp _ _ _ _ (w0.setCell ⟨w.heap.size, 14, none⟩ (.int .i64 (r.node + 1)))
  generalize (w0.setCell ⟨w.heap.size, 14, none⟩ (.int .i64 (r.node + 1))) = w1 at *
  clear c0 c1 c13 c14 c15 c16 clt c2 c3 c4 c5 c6 c7 c8 c9 c10 c11 c12 c17 c18 c19 q0 q1 q2 q3 q4 qlt q5 q6 q7 q8 q9 q10 q11 q12 q13 q14 q15 f2 f3 f4 f5 f6 f7 f8 f9 f10 f11 f12 f13 f14 f15 f16 f17 f18 f19
  obtain ⟨⟨c0, c1, c13, c14, c15, c16, clt⟩, ⟨c2, c3, c4, c5, c6, c7, c8, c9, c10, c11, c12⟩, c17, c18, c19⟩ := rte_cells HX1.out
  obtain ⟨⟨q0, q1, q2, q3, q4, qlt⟩, q5, q6, q7, q8, q9, q10, q11, q12, q13, q14, q15⟩ := rep_cells HP1.out
  have f2 := fz_blk HX1.out 2; have f3 := fz_blk HX1.out 3; have f4 := fz_blk HX1.out 4; have f5 := fz_blk HX1.out 5; have f6 := fz_blk HX1.out 6; have f7 := fz_blk HX1.out 7; have f8 := fz_blk HX1.out 8; have f9 := fz_blk HX1.out 9; have f10 := fz_blk HX1.out 10; have f11 := fz_blk HX1.out 11; have f12 := fz_blk HX1.out 12
  have f13 := fz_blk HX1.out 13; have f14 := fz_blk HX1.out 14; have f15 := fz_blk HX1.out 15; have f16 := fz_blk HX1.out 16; have f17 := fz_blk HX1.out 17; have f18 := fz_blk HX1.out 18; have f19 := fz_blk HX1.out 19
  refine wp_region_lit ?_
  refine wpList_load39 rfl (.tmp 2) rfl w.heap.size rfl HX1.out ?_
  simp only [Act.put, List.setIfInBounds_toArray, List.set_cons_zero, List.set_cons_succ]
  refine wpList_store39 rfl (.tmp 4) (.tmp 61) rfl (w.heap.size + 1 + 1) rfl (r := { r with node := r.node + 1 }) (v := V) (j := J) rfl hV hJ HR1.out ?_
  intro w19 h19 ho19
  simp only [Act.put, List.setIfInBounds_toArray, List.set_cons_zero, List.set_cons_succ]
  go_wp2
  refine bodyPost_ret (results39_one rfl _ _ (w.heap.size + 1 + 1) rfl h19) rfl ?_
  exact ⟨by rw [Hnx.out]; rfl, ho19.below HB1.out (fun q hq => by omega) HB1.out.size⟩
set_option maxRecDepth 100000 in
set_option maxHeartbeats 1000000 in
theorem turn_else_l (w : World) (r : Rte) (p : Rep) (V J pj pv : Value) (hV : V.oneCell' = true) (hJ : J.oneCell' = true) (hv : RteOk r) (hx : r.node = r.nodes) (k1 : ¬ p.kind = 1) (k2 : ¬ p.kind = 2) (k3 : ¬ p.kind = 3) :
    Calls Try.prog 59 #[r.val V J, p.val pj pv] w fun e w' => e = .returned ({ r with node := r.node % r.nodes + 1 }.val V J) ∧ Below w.heap.size w w' := by
  have g1 := hv.1; have g2 := hv.2.1; have g3 := hv.2.2.1; have g4 := hv.2.2.2.1
  have hw : IntKind.i64.wrap (r.node + 1) = r.node + 1 := IntWalk.i64_in _ (by omega)
  have n1 : r.nodes < r.node + 1 := by omega
  have n2 : decide (r.nodes < r.node + 1) = true := decide_eq_true n1
  have Hnx := Lib.hid (show r.node % r.nodes + 1 = 1 by rw [hx, Int.emod_self]; rfl)
  clear hx hv
  have e1 : (p.kind == 1) = false := by simpa using k1
  have e2 : (p.kind == 2) = false := by simpa using k2
  have e3 : (p.kind == 3) = false := by simpa using k3
  clear k1 k2 k3
  go_enter Try.func59, Try.ntmps59
  go_upto_region 1 with fail
  have hX0 : (((w.alloc (r.blk V J)).alloc (p.blk pj pv)).alloc (zeroR.blk nilV nilV)).heap[w.heap.size]? = some (r.blk V J) := (Below.heap_alloc _ _ _ (by simp; omega)).trans ((Below.heap_alloc _ _ _ (by simp)).trans (heap_alloc_new w _))
  have hR0 : (((w.alloc (r.blk V J)).alloc (p.blk pj pv)).alloc (zeroR.blk nilV nilV)).heap[w.heap.size + 1 + 1]? = some (zeroR.blk nilV nilV) := by simpa using heap_alloc_new ((w.alloc (r.blk V J)).alloc (p.blk pj pv)) (zeroR.blk nilV nilV)
  have hP0 : (((w.alloc (r.blk V J)).alloc (p.blk pj pv)).alloc (zeroR.blk nilV nilV)).heap[w.heap.size + 1]? = some (p.blk pj pv) := (Below.heap_alloc _ _ _ (by simp)).trans (heap_second _ _ _)
  have hB0 : Below w.heap.size w (((w.alloc (r.blk V J)).alloc (p.blk pj pv)).alloc (zeroR.blk nilV nilV)) := al3 _ _ _
  change Code.wp _ _ _ _ (((w.alloc (r.blk V J)).alloc (p.blk pj pv)).alloc (zeroR.blk nilV nilV))
  generalize (((w.alloc (r.blk V J)).alloc (p.blk pj pv)).alloc (zeroR.blk nilV nilV)) = w0 at *
  have HX0 := Lib.hid hX0; have HP0 := Lib.hid hP0; have HR0 := Lib.hid hR0; have HB0 := Lib.hid hB0
  clear hX0 hP0 hR0 hB0
  obtain ⟨⟨c0, c1, c13, c14, c15, c16, clt⟩, ⟨c2, c3, c4, c5, c6, c7, c8, c9, c10, c11, c12⟩, c17, c18, c19⟩ := rte_cells HX0.out
  obtain ⟨⟨q0, q1, q2, q3, q4, qlt⟩, q5, q6, q7, q8, q9, q10, q11, q12, q13, q14, q15⟩ := rep_cells HP0.out
  have f2 := fz_blk HX0.out 2; have f3 := fz_blk HX0.out 3; have f4 := fz_blk HX0.out 4; have f5 := fz_blk HX0.out 5; have f6 := fz_blk HX0.out 6; have f7 := fz_blk HX0.out 7; have f8 := fz_blk HX0.out 8; have f9 := fz_blk HX0.out 9; have f10 := fz_blk HX0.out 10; have f11 := fz_blk HX0.out 11; have f12 := fz_blk HX0.out 12
  have f13 := fz_blk HX0.out 13; have f14 := fz_blk HX0.out 14; have f15 := fz_blk HX0.out 15; have f16 := fz_blk HX0.out 16; have f17 := fz_blk HX0.out 17; have f18 := fz_blk HX0.out 18; have f19 := fz_blk HX0.out 19
  go_upto_region 17 with fail
  have HX1 := Lib.hid (rte_node HX0.out (1))
  have hon : Only (· = w.heap.size) w0 (w0.setCell ⟨w.heap.size, 14, none⟩ (.int .i64 (1))) := only_setCell w0 ⟨w.heap.size, 14, none⟩ (.int .i64 (1))
  have HP1 := Lib.hid ((hon.block _ (lt_of_some HP0.out) (by show ¬ w.heap.size + 1 = w.heap.size; omega)).trans HP0.out)
  have HR1 := Lib.hid ((hon.block _ (lt_of_some HR0.out) (by show ¬ w.heap.size + 1 + 1 = w.heap.size; omega)).trans HR0.out)
  have HB1 := Lib.hid (hon.below HB0.out (fun q hq => by have hq : q = w.heap.size := hq; omega) HB0.out.size)
  clear hon
  go_upto_region 18 with fail
  change Code.wp _ _ _ _ (w0.setCell ⟨w.heap.size, 14, none⟩ (.int .i64 (1)))
  generalize (w0.setCell ⟨w.heap.size, 14, none⟩ (.int .i64 (1))) = w1 at *
  clear c0 c1 c13 c14 c15 c16 clt c2 c3 c4 c5 c6 c7 c8 c9 c10 c11 c12 c17 c18 c19 q0 q1 q2 q3 q4 qlt q5 q6 q7 q8 q9 q10 q11 q12 q13 q14 q15 f2 f3 f4 f5 f6 f7 f8 f9 f10 f11 f12 f13 f14 f15 f16 f17 f18 f19
  obtain ⟨⟨c0, c1, c13, c14, c15, c16, clt⟩, ⟨c2, c3, c4, c5, c6, c7, c8, c9, c10, c11, c12⟩, c17, c18, c19⟩ := rte_cells HX1.out
  obtain ⟨⟨q0, q1, q2, q3, q4, qlt⟩, q5, q6, q7, q8, q9, q10, q11, q12, q13, q14, q15⟩ := rep_cells HP1.out
  have f2 := fz_blk HX1.out 2; have f3 := fz_blk HX1.out 3; have f4 := fz_blk HX1.out 4; have f5 := fz_blk HX1.out 5; have f6 := fz_blk HX1.out 6; have f7 := fz_blk HX1.out 7; have f8 := fz_blk HX1.out 8; have f9 := fz_blk HX1.out 9; have f10 := fz_blk HX1.out 10; have f11 := fz_blk HX1.out 11; have f12 := fz_blk HX1.out 12
  have f13 := fz_blk HX1.out 13; have f14 := fz_blk HX1.out 14; have f15 := fz_blk HX1.out 15; have f16 := fz_blk HX1.out 16; have f17 := fz_blk HX1.out 17; have f18 := fz_blk HX1.out 18; have f19 := fz_blk HX1.out 19
  refine wp_region_lit ?_
  refine wpList_load39 rfl (.tmp 2) rfl w.heap.size rfl HX1.out ?_
  simp only [Act.put, List.setIfInBounds_toArray, List.set_cons_zero, List.set_cons_succ]
  refine wpList_store39 rfl (.tmp 4) (.tmp 61) rfl (w.heap.size + 1 + 1) rfl (r := { r with node := 1 }) (v := V) (j := J) rfl hV hJ HR1.out ?_
  intro w19 h19 ho19
  simp only [Act.put, List.setIfInBounds_toArray, List.set_cons_zero, List.set_cons_succ]
  go_wp2
  refine bodyPost_ret (results39_one rfl _ _ (w.heap.size + 1 + 1) rfl h19) rfl ?_
  exact ⟨by rw [Hnx.out]; rfl, ho19.below HB1.out (fun q hq => by omega) HB1.out.size⟩
end Go.Proofs.Ytimondpollbdfaa
