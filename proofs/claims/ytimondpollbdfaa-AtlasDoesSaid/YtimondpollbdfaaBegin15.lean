/- What is proved: what a plan that begins makes of a map: the document's Begin, by what its fault says. -/
import Derived.Test.YtimondpollbdfaaBegin14
import Derived.Test.YtimondpollbdfaaPlan42
set_option linter.unusedVariables false
set_option linter.unusedSimpArgs false
namespace Go.Proofs.Ytimondpollbdfaa
open Go.RowKit
attribute [local go_sem] Span.val Atl.val Plan.val

def plan1 (s : Span) (p : Plan) : Plan := ⟨p.kind, 1, p.shard, 0, s.gr, 0, s.ep, ⟨#[]⟩⟩
set_option maxRecDepth 100000 in
set_option maxHeartbeats 4000000 in
theorem rbegin_wrong (w : World) (A : Option Addr) (cap : Nat) (a : Atl) (p : Plan) (h : MapIn w A cap a) (hm : tr (MapOk a) = false)  :
    Calls Try.prog 15 #[a.val (.slice A a.sp.length cap), p.val] w fun e w' => e = .returned (.tuple #[zeroA.val nilV, .int .i64 4]) ∧ Below w.heap.size w w' := by
  have hck := fun w h => rCheck_any w A cap a h
  rw [hm] at hck
  have Hck := Lib.hid hck; have HI := Lib.hid h
  clear hck h hm
  go_enter Try.func15, Try.ntmps15
  go_upto_region 1 with fail
  have hA0 : (((w.alloc (a.blk (.slice A a.sp.length cap))).alloc p.blk).alloc (zeroA.blk nilV)).heap[w.heap.size]? = some (a.blk (.slice A a.sp.length cap)) := (Below.heap_alloc _ _ _ (by simp; omega)).trans ((Below.heap_alloc _ _ _ (by simp)).trans (heap_alloc_new w _))
  have hP0 : (((w.alloc (a.blk (.slice A a.sp.length cap))).alloc p.blk).alloc (zeroA.blk nilV)).heap[w.heap.size + 1]? = some p.blk := (Below.heap_alloc _ _ _ (by simp)).trans (heap_second _ _ _)
  have hZ0 : (((w.alloc (a.blk (.slice A a.sp.length cap))).alloc p.blk).alloc (zeroA.blk nilV)).heap[w.heap.size + 1 + 1]? = some (zeroA.blk nilV) := by simpa using heap_alloc_new ((w.alloc (a.blk (.slice A a.sp.length cap))).alloc p.blk) (zeroA.blk nilV)
  have hB0 : Below w.heap.size w (((w.alloc (a.blk (.slice A a.sp.length cap))).alloc p.blk).alloc (zeroA.blk nilV)) := al3 _ _ _
  change Code.wp _ _ _ _ (((w.alloc (a.blk (.slice A a.sp.length cap))).alloc p.blk).alloc (zeroA.blk nilV))
  generalize ((w.alloc (a.blk (.slice A a.sp.length cap))).alloc p.blk).alloc (zeroA.blk nilV) = w0 at *
  have HA0 := Lib.hid hA0; have HP0 := Lib.hid hP0; have HZ0 := Lib.hid hZ0; have HB0 := Lib.hid hB0
  clear hA0 hP0 hZ0 hB0
  refine wp_region_lit ?_
  refine wpList_load26 rfl (.tmp 2) rfl (w.heap.size) rfl HA0.out ?_
  simp only [Act.put, List.setIfInBounds_toArray, List.set_cons_zero, List.set_cons_succ]
  go_upto_region 2 with (go_at_call 39
                         refine (Hck.out _ (HI.out.below HB0.out)).mono ?_
                         rintro e w1 ⟨rfl, hb1⟩
                         have HA1 := Lib.hid (blk_below hb1 (lt_of_some HA0.out) HA0.out)
                         have HP1 := Lib.hid (blk_below hb1 (lt_of_some HP0.out) HP0.out)
                         have HZ1 := Lib.hid (blk_below hb1 (lt_of_some HZ0.out) HZ0.out)
                         have HB1 := Lib.hid (HB0.out.trans (hb1.mono HB0.out.size))
                         clear hb1)
  refine wp_region_lit ?_
  refine wpList_step (fun K hK => ?_)
  go_simp
  refine hK _ _ ?_
  clear hK K
  refine wpList_store26 rfl (.tmp 4) (.tmp 13) rfl (w.heap.size + 1 + 1) rfl (m := zeroA) (v := nilV) (m0 := zeroA) (v0 := nilV) rfl rfl HZ1.out ?_
  intro w9 h9 ho9
  simp only [Act.put, List.setIfInBounds_toArray, List.set_cons_zero, List.set_cons_succ]
  go_wp2
  refine bodyPost_ret (results26 rfl _ _ (w.heap.size + 1 + 1) rfl h9) rfl ?_
  exact ⟨rfl, ho9.below HB1.out (fun k hk => by omega) HB1.out.size⟩
set_option maxRecDepth 100000 in
set_option maxHeartbeats 4000000 in
theorem rbegin_fault (w : World) (A : Option Addr) (cap : Nat) (a : Atl) (p : Plan) (h : MapIn w A cap a) (hm : tr (MapOk a) = true) (n : Int) (hf : ∀ w, MapIn w A cap a → Calls Try.prog 43 #[a.val (.slice A a.sp.length cap), p.val] w fun e w' => e = .returned (.int .i64 n) ∧ Below w.heap.size w w') (gn : ¬ n = 0) (gn2 : (n == 0) = false) :
    Calls Try.prog 15 #[a.val (.slice A a.sp.length cap), p.val] w fun e w' => e = .returned (.tuple #[a.val (.slice A a.sp.length cap), .int .i64 n]) ∧ Below w.heap.size w w' := by
  have hck := fun w h => rCheck_any w A cap a h
  rw [hm] at hck
  have Hck := Lib.hid hck; have HI := Lib.hid h
  clear hck h hm
  have Hf := Lib.hid hf; clear hf
  have Hgn := Lib.hid gn
  have Hgn2 := Lib.hid gn2
  clear gn gn2
  go_enter Try.func15, Try.ntmps15
  go_upto_region 1 with fail
  have hA0 : (((w.alloc (a.blk (.slice A a.sp.length cap))).alloc p.blk).alloc (zeroA.blk nilV)).heap[w.heap.size]? = some (a.blk (.slice A a.sp.length cap)) := (Below.heap_alloc _ _ _ (by simp; omega)).trans ((Below.heap_alloc _ _ _ (by simp)).trans (heap_alloc_new w _))
  have hP0 : (((w.alloc (a.blk (.slice A a.sp.length cap))).alloc p.blk).alloc (zeroA.blk nilV)).heap[w.heap.size + 1]? = some p.blk := (Below.heap_alloc _ _ _ (by simp)).trans (heap_second _ _ _)
  have hZ0 : (((w.alloc (a.blk (.slice A a.sp.length cap))).alloc p.blk).alloc (zeroA.blk nilV)).heap[w.heap.size + 1 + 1]? = some (zeroA.blk nilV) := by simpa using heap_alloc_new ((w.alloc (a.blk (.slice A a.sp.length cap))).alloc p.blk) (zeroA.blk nilV)
  have hB0 : Below w.heap.size w (((w.alloc (a.blk (.slice A a.sp.length cap))).alloc p.blk).alloc (zeroA.blk nilV)) := al3 _ _ _
  change Code.wp _ _ _ _ (((w.alloc (a.blk (.slice A a.sp.length cap))).alloc p.blk).alloc (zeroA.blk nilV))
  generalize ((w.alloc (a.blk (.slice A a.sp.length cap))).alloc p.blk).alloc (zeroA.blk nilV) = w0 at *
  have HA0 := Lib.hid hA0; have HP0 := Lib.hid hP0; have HZ0 := Lib.hid hZ0; have HB0 := Lib.hid hB0
  clear hA0 hP0 hZ0 hB0
  refine wp_region_lit ?_
  refine wpList_load26 rfl (.tmp 2) rfl (w.heap.size) rfl HA0.out ?_
  simp only [Act.put, List.setIfInBounds_toArray, List.set_cons_zero, List.set_cons_succ]
  go_upto_region 3 with (go_at_call 39
                         refine (Hck.out _ (HI.out.below HB0.out)).mono ?_
                         rintro e w1 ⟨rfl, hb1⟩
                         have HA1 := Lib.hid (blk_below hb1 (lt_of_some HA0.out) HA0.out)
                         have HP1 := Lib.hid (blk_below hb1 (lt_of_some HP0.out) HP0.out)
                         have HZ1 := Lib.hid (blk_below hb1 (lt_of_some HZ0.out) HZ0.out)
                         have HB1 := Lib.hid (HB0.out.trans (hb1.mono HB0.out.size))
                         clear hb1)
  refine wp_region_lit ?_
  refine wpList_load26 rfl (.tmp 2) rfl (w.heap.size) rfl HA1.out ?_
  simp only [Act.put, List.setIfInBounds_toArray, List.set_cons_zero, List.set_cons_succ]
  refine wpList_load24 rfl (.tmp 3) rfl (w.heap.size + 1) rfl HP1.out ?_
  simp only [Act.put, List.setIfInBounds_toArray, List.set_cons_zero, List.set_cons_succ]
  refine wpList_step (fun K hK => ?_)
  go_simp
  go_at_call 43
  refine (Hf.out _ (HI.out.below HB1.out)).mono ?_
  rintro e w2 ⟨rfl, hb2⟩
  refine hK _ _ ?_
  clear hK K
  have hA2 := blk_below hb2 (lt_of_some HA1.out) HA1.out
  have hP2 := blk_below hb2 (lt_of_some HP1.out) HP1.out
  have HZ2 := Lib.hid (blk_below hb2 (lt_of_some HZ1.out) HZ1.out)
  have HB2 := Lib.hid (HB1.out.trans (hb2.mono HB1.out.size))
  obtain ⟨n0, n1, n2, n3, n4, n5, n6, n7, nlt⟩ := plan_blk hP2
  have HA2 := Lib.hid hA2; have HP2 := Lib.hid hP2
  clear hb2 hA2 hP2
  have gn := Hgn.out
  have gn2 := Hgn2.out
  go_upto_region 5 with fail
  refine wp_region_lit ?_
  refine wpList_load26 rfl (.tmp 2) rfl (w.heap.size) rfl HA2.out ?_
  simp only [Act.put, List.setIfInBounds_toArray, List.set_cons_zero, List.set_cons_succ]
  refine wpList_step (fun K hK => ?_)
  go_simp
  refine hK _ _ ?_
  clear hK K
  refine wpList_store26 rfl (.tmp 4) (.tmp 19) rfl (w.heap.size + 1 + 1) rfl (m := a) (v := (.slice A a.sp.length cap)) (m0 := zeroA) (v0 := nilV) rfl rfl HZ2.out ?_
  intro w9 h9 ho9
  simp only [Act.put, List.setIfInBounds_toArray, List.set_cons_zero, List.set_cons_succ]
  go_wp2
  refine bodyPost_ret (results26 rfl _ _ (w.heap.size + 1 + 1) rfl h9) rfl ?_
  exact ⟨rfl, ho9.below HB2.out (fun k hk => by omega) HB2.out.size⟩
set_option maxRecDepth 100000 in
set_option maxHeartbeats 4000000 in
theorem rbegin_move (w : World) (A : Option Addr) (cap : Nat) (a : Atl) (p : Plan) (h : MapIn w A cap a) (hm : tr (MapOk a) = true) (k : Nat) (s : Span) (hkl : k < a.sp.length) (hs : a.sp[k] = s) (hlen : a.sp.length ≤ 16) (hp : place a.sp p.shard = (k : Int)) (hl1 : 1 ≤ a.last) (hl2 : a.last ≤ 1099511627776) (hf : ∀ w, MapIn w A cap a → Calls Try.prog 43 #[a.val (.slice A a.sp.length cap), p.val] w fun e w' => e = .returned (.int .i64 0) ∧ Below w.heap.size w w') (kd : p.kind = 1) :
    Calls Try.prog 15 #[a.val (.slice A a.sp.length cap), p.val] w fun e w' => e = .returned (.tuple #[{ a with plan := { plan1 s p with group := p.group, past := s.gr } }.val (.slice A a.sp.length cap), .int .i64 0]) ∧ Below w.heap.size w w' := by
  have hck := fun w h => rCheck_any w A cap a h
  rw [hm] at hck
  have Hck := Lib.hid hck; have HI := Lib.hid h
  clear hck h hm
  obtain ⟨b, off, rfl, hb, _, _, _, _, _⟩ := span_cells HI.out.row k hkl
  have Hf := Lib.hid hf; have Hp := Lib.hid hp; clear hf hp
  have Hkd := Lib.hid kd
  clear kd
  have hk1 : (0 : Int) ≤ (k : Int) := by omega
  have hk2 : (k : Int) < (a.sp.length : Int) := by omega
  have hw1 : IntKind.i64.wrap ((k : Int) + 1) = (k : Int) + 1 := IntWalk.i64_in _ (by omega)
  have hw2 : IntKind.i64.wrap (a.last + 1) = a.last + 1 := IntWalk.i64_in _ (by omega)
  have hk3 : (0 : Int) ≤ (k : Int) + 1 := by omega
  have hk4 : ((k : Int) + 1).toNat = k + 1 := by omega
  go_enter Try.func15, Try.ntmps15
  go_upto_region 1 with fail
  have hA0 : (((w.alloc (a.blk (.slice (some ⟨b, off, none⟩) a.sp.length cap))).alloc p.blk).alloc (zeroA.blk nilV)).heap[w.heap.size]? = some (a.blk (.slice (some ⟨b, off, none⟩) a.sp.length cap)) := (Below.heap_alloc _ _ _ (by simp; omega)).trans ((Below.heap_alloc _ _ _ (by simp)).trans (heap_alloc_new w _))
  have hP0 : (((w.alloc (a.blk (.slice (some ⟨b, off, none⟩) a.sp.length cap))).alloc p.blk).alloc (zeroA.blk nilV)).heap[w.heap.size + 1]? = some p.blk := (Below.heap_alloc _ _ _ (by simp)).trans (heap_second _ _ _)
  have hZ0 : (((w.alloc (a.blk (.slice (some ⟨b, off, none⟩) a.sp.length cap))).alloc p.blk).alloc (zeroA.blk nilV)).heap[w.heap.size + 1 + 1]? = some (zeroA.blk nilV) := by simpa using heap_alloc_new ((w.alloc (a.blk (.slice (some ⟨b, off, none⟩) a.sp.length cap))).alloc p.blk) (zeroA.blk nilV)
  have hB0 : Below w.heap.size w (((w.alloc (a.blk (.slice (some ⟨b, off, none⟩) a.sp.length cap))).alloc p.blk).alloc (zeroA.blk nilV)) := al3 _ _ _
  change Code.wp _ _ _ _ (((w.alloc (a.blk (.slice (some ⟨b, off, none⟩) a.sp.length cap))).alloc p.blk).alloc (zeroA.blk nilV))
  generalize ((w.alloc (a.blk (.slice (some ⟨b, off, none⟩) a.sp.length cap))).alloc p.blk).alloc (zeroA.blk nilV) = w0 at *
  have HA0 := Lib.hid hA0; have HP0 := Lib.hid hP0; have HZ0 := Lib.hid hZ0; have HB0 := Lib.hid hB0
  clear hA0 hP0 hZ0 hB0
  refine wp_region_lit ?_
  refine wpList_load26 rfl (.tmp 2) rfl (w.heap.size) rfl HA0.out ?_
  simp only [Act.put, List.setIfInBounds_toArray, List.set_cons_zero, List.set_cons_succ]
  go_upto_region 3 with (go_at_call 39
                         refine (Hck.out _ (HI.out.below HB0.out)).mono ?_
                         rintro e w1 ⟨rfl, hb1⟩
                         have HA1 := Lib.hid (blk_below hb1 (lt_of_some HA0.out) HA0.out)
                         have HP1 := Lib.hid (blk_below hb1 (lt_of_some HP0.out) HP0.out)
                         have HZ1 := Lib.hid (blk_below hb1 (lt_of_some HZ0.out) HZ0.out)
                         have HB1 := Lib.hid (HB0.out.trans (hb1.mono HB0.out.size))
                         clear hb1)
  go_upto_region 3 with fail
  refine wp_region_lit ?_
  refine wpList_load26 rfl (.tmp 2) rfl (w.heap.size) rfl HA1.out ?_
  simp only [Act.put, List.setIfInBounds_toArray, List.set_cons_zero, List.set_cons_succ]
  refine wpList_load24 rfl (.tmp 3) rfl (w.heap.size + 1) rfl HP1.out ?_
  simp only [Act.put, List.setIfInBounds_toArray, List.set_cons_zero, List.set_cons_succ]
  refine wpList_step (fun K hK => ?_)
  go_simp
  go_at_call 43
  refine (Hf.out _ (HI.out.below HB1.out)).mono ?_
  rintro e w2 ⟨rfl, hb2⟩
  refine hK _ _ ?_
  clear hK K
  have hA2 := blk_below hb2 (lt_of_some HA1.out) HA1.out
  have hP2 := blk_below hb2 (lt_of_some HP1.out) HP1.out
  have HZ2 := Lib.hid (blk_below hb2 (lt_of_some HZ1.out) HZ1.out)
  have HB2 := Lib.hid (HB1.out.trans (hb2.mono HB1.out.size))
  obtain ⟨n0, n1, n2, n3, n4, n5, n6, n7, nlt⟩ := plan_blk hP2
  have HA2 := Lib.hid hA2; have HP2 := Lib.hid hP2
  clear hb2 hA2 hP2
  go_upto_region 6 with fail
  refine wp_region_lit ?_
  refine wpList_load26 rfl (.tmp 2) rfl (w.heap.size) rfl HA2.out ?_
  simp only [Act.put, List.setIfInBounds_toArray, List.set_cons_zero, List.set_cons_succ]
  go_upto_region 7 with (go_at_call 32
                         refine (rPlace_any _ (some ⟨b, off, none⟩) cap a _ (HI.out.below HB2.out).row (by omega)).mono ?_
                         rintro e w3 ⟨rfl, hb3⟩
                         rw [Hp.out]
                         have HA3 := Lib.hid (blk_below hb3 (lt_of_some HA2.out) HA2.out)
                         have HP3 := Lib.hid (blk_below hb3 (lt_of_some HP2.out) HP2.out)
                         have HZ3 := Lib.hid (blk_below hb3 (lt_of_some HZ2.out) HZ2.out)
                         have HB3 := Lib.hid (HB2.out.trans (hb3.mono HB2.out.size))
                         clear hb3)
  clear n0 n1 n2 n3 n4 n5 n6 n7 nlt
  obtain ⟨m0, m1, m2, m3, m4, m5, m6, m7, m8, m9, m10, mlt⟩ := map_cells HA3.out
  obtain ⟨n0, n1, n2, n3, n4, n5, n6, n7, nlt⟩ := plan_blk HP3.out
  obtain ⟨_, _, he, blt, p0, p1, p2, p3, p4⟩ := span_cells (HI.out.below HB3.out).row k hkl
  injection he with he
  injection he with hx1 hx2
  subst hx1; subst hx2
  rw [hs] at p0 p1 p2 p3 p4
  go_upto_region 9 with fail
  change Code.wp _ _ _ _ ((w3.alloc s.blk).alloc (plan1 s p).blk)
  clear m0 m1 m2 m3 m4 m5 m6 m7 m8 m9 m10 mlt n0 n1 n2 n3 n4 n5 n6 n7 nlt p0 p1 p2 p3 p4
  have hA := blk_below (al2 (w := w3) s.blk (plan1 s p).blk) (lt_of_some HA3.out) HA3.out
  have hP := blk_below (al2 (w := w3) s.blk (plan1 s p).blk) (lt_of_some HP3.out) HP3.out
  have hZ := blk_below (al2 (w := w3) s.blk (plan1 s p).blk) (lt_of_some HZ3.out) HZ3.out
  have hS : ((w3.alloc s.blk).alloc (plan1 s p).blk).heap[w3.heap.size]? = some s.blk := (Below.heap_alloc _ _ _ (by simp)).trans (heap_alloc_new w3 _)
  have hQ : ((w3.alloc s.blk).alloc (plan1 s p).blk).heap[w3.heap.size + 1]? = some (plan1 s p).blk := heap_second _ _ _
  have hB := HB3.out.trans ((al2 (w := w3) s.blk (plan1 s p).blk).mono HB3.out.size)
  have hne : w3.heap.size + 1 ≠ w.heap.size := by have := lt_of_some HA3.out; omega
  have hne2 : w.heap.size ≠ w3.heap.size + 1 := Ne.symm hne
  have hlt3 : w.heap.size + 1 + 1 < w3.heap.size := lt_of_some HZ3.out
  generalize (w3.alloc s.blk).alloc (plan1 s p).blk = w4 at *
  have hrow := (HI.out.below hB).row
  obtain ⟨m0, m1, m2, m3, m4, m5, m6, m7, m8, m9, m10, mlt⟩ := map_cells hA
  obtain ⟨n0, n1, n2, n3, n4, n5, n6, n7, nlt⟩ := plan_blk hP
  obtain ⟨s0, s1, s2, s3, s4, slt⟩ := span_blk hS
  obtain ⟨q0, q1, q2, q3, q4, q5, q6, q7, qlt⟩ := plan_blk hQ
  have f3 := fz_blk hQ 3; have f4 := fz_blk hQ 4; have f5 := fz_blk hQ 5; have f7 := fz_blk hQ 7; have z1 := map_frz hA 1
  simp only [plan1] at q0 q1 q2 q3 q4 q5 q6 q7
  have kd := Hkd.out
  have HB := Lib.hid hB; have HZ := Lib.hid hZ; have HQ := Lib.hid hQ; have HA := Lib.hid hA
  clear hA hP hZ hS hQ hB hrow
  go_upto_region 19 with fail
  have hq9 : ((w4.setCell ⟨w3.heap.size + 1, 4, none⟩ (.int .i64 p.group)).setCell ⟨w3.heap.size + 1, 5, none⟩ (.int .i64 s.gr)).heap[w3.heap.size + 1]? = some (Plan.blk { plan1 s p with group := p.group, past := s.gr }) := by
    have := (heap_setCell_at (i := 5) (heap_setCell_at (i := 4) HQ.out (.int .i64 p.group)) (.int .i64 s.gr))
    refine (show _ = _ from this).trans ?_
    simp only [Plan.blk, plan1, List.setIfInBounds_toArray, List.set_cons_zero, List.set_cons_succ]
  have ha9 : ((w4.setCell ⟨w3.heap.size + 1, 4, none⟩ (.int .i64 p.group)).setCell ⟨w3.heap.size + 1, 5, none⟩ (.int .i64 s.gr)).heap[w.heap.size]? = some (Atl.blk a (.slice (some ⟨b, off, none⟩) a.sp.length cap)) := by
    have := (((only_setCell (w4.setCell ⟨w3.heap.size + 1, 4, none⟩ (.int .i64 p.group)) ⟨w3.heap.size + 1, 5, none⟩ (.int .i64 s.gr)).block _ (lt_of_some (((only_setCell w4 ⟨w3.heap.size + 1, 4, none⟩ (.int .i64 p.group)).block _ (lt_of_some HA.out) (by show ¬ _ = _; omega)).trans HA.out)) (by show ¬ _ = _; omega)).trans (((only_setCell w4 ⟨w3.heap.size + 1, 4, none⟩ (.int .i64 p.group)).block _ (lt_of_some HA.out) (by show ¬ _ = _; omega)).trans HA.out))
    refine (show _ = _ from this).trans ?_
    simp only [Atl.blk, List.setIfInBounds_toArray, List.set_cons_zero, List.set_cons_succ]
  have hon : Only (fun k => k = w.heap.size ∨ k = w3.heap.size + 1) w4 ((w4.setCell ⟨w3.heap.size + 1, 4, none⟩ (.int .i64 p.group)).setCell ⟨w3.heap.size + 1, 5, none⟩ (.int .i64 s.gr)) := (((only_setCell w4 ⟨w3.heap.size + 1, 4, none⟩ (.int .i64 p.group)).mono (fun k (hk : k = w3.heap.size + 1) => (show k = w.heap.size ∨ k = w3.heap.size + 1 by omega))).trans ((only_setCell (w4.setCell ⟨w3.heap.size + 1, 4, none⟩ (.int .i64 p.group)) ⟨w3.heap.size + 1, 5, none⟩ (.int .i64 s.gr)).mono (fun k (hk : k = w3.heap.size + 1) => (show k = w.heap.size ∨ k = w3.heap.size + 1 by omega))) (fun _ _ h => h))
  have hz9 := (hon.block _ (lt_of_some HZ.out) (by show ¬ (_ ∨ _); omega)).trans HZ.out
  have hb9 := hon.below HB.out (fun k hk => by rcases hk with hk | hk <;> omega) HB.out.size
  have x3 := map_frz ha9 3; have x4 := map_frz ha9 4; have x5 := map_frz ha9 5; have x6 := map_frz ha9 6; have x7 := map_frz ha9 7; have x8 := map_frz ha9 8; have x9 := map_frz ha9 9; have x10 := map_frz ha9 10
  generalize ((w4.setCell ⟨w3.heap.size + 1, 4, none⟩ (.int .i64 p.group)).setCell ⟨w3.heap.size + 1, 5, none⟩ (.int .i64 s.gr)) = w5 at *
  have HA5 := Lib.hid ha9; have HZ5 := Lib.hid hz9; have HB5 := Lib.hid hb9
  obtain ⟨_, _, _, y3, y4, y5, y6, y7, y8, y9, y10, ylt⟩ := map_cells ha9
  clear ha9 hz9 hb9 hon
  refine wp_region_lit ?_
  refine wpList_load24 (p := { plan1 s p with group := p.group, past := s.gr }) rfl (.tmp 9) rfl (w3.heap.size + 1) rfl hq9 ?_
  simp only [Act.put, List.setIfInBounds_toArray, List.set_cons_zero, List.set_cons_succ]
  clear hq9
  go_upto_region 20 with fail
  have ha6 : (putPlan w5 w.heap.size { plan1 s p with group := p.group, past := s.gr }).heap[w.heap.size]? = some (Atl.blk { a with plan := { plan1 s p with group := p.group, past := s.gr } } (.slice (some ⟨b, off, none⟩) a.sp.length cap)) := map_putPlan { plan1 s p with group := p.group, past := s.gr } HA5.out
  have hon := putPlan_only w5 w.heap.size { plan1 s p with group := p.group, past := s.gr }
  have hz6 := (hon.block _ (lt_of_some HZ5.out) (by show ¬ _ = _; omega)).trans HZ5.out
  have HB6 := Lib.hid (hon.below HB5.out (fun k hk => by have hk : k = w.heap.size := hk; omega) HB5.out.size)
  refine wp_region_lit ?_
  refine wpList_load26 rfl (.tmp 2) rfl (w.heap.size) rfl ha6 ?_
  simp only [Act.put, List.setIfInBounds_toArray, List.set_cons_zero, List.set_cons_succ]
  refine wpList_store26 rfl (.tmp 4) (.tmp 73) rfl (w.heap.size + 1 + 1) rfl (m := { a with plan := { plan1 s p with group := p.group, past := s.gr } }) (v := (.slice (some ⟨b, off, none⟩) a.sp.length cap)) (m0 := zeroA) (v0 := nilV) rfl rfl hz6 ?_
  intro w9 h9 ho9
  simp only [Act.put, List.setIfInBounds_toArray, List.set_cons_zero, List.set_cons_succ]
  go_wp2
  refine bodyPost_ret (results26 rfl _ _ (w.heap.size + 1 + 1) rfl h9) rfl ?_
  exact ⟨rfl, ho9.below HB6.out (fun k hk => by omega) HB6.out.size⟩
set_option maxRecDepth 100000 in
set_option maxHeartbeats 4000000 in
theorem rbegin_split (w : World) (A : Option Addr) (cap : Nat) (a : Atl) (p : Plan) (h : MapIn w A cap a) (hm : tr (MapOk a) = true) (k : Nat) (s : Span) (hkl : k < a.sp.length) (hs : a.sp[k] = s) (hlen : a.sp.length ≤ 16) (hp : place a.sp p.shard = (k : Int)) (hl1 : 1 ≤ a.last) (hl2 : a.last ≤ 1099511627776) (hf : ∀ w, MapIn w A cap a → Calls Try.prog 43 #[a.val (.slice A a.sp.length cap), p.val] w fun e w' => e = .returned (.int .i64 0) ∧ Below w.heap.size w w') (kd : p.kind = 2) :
    Calls Try.prog 15 #[a.val (.slice A a.sp.length cap), p.val] w fun e w' => e = .returned (.tuple #[{ a with plan := { plan1 s p with key := p.key, other := a.last + 1 }, last := a.last + 1 }.val (.slice A a.sp.length cap), .int .i64 0]) ∧ Below w.heap.size w w' := by
  have hck := fun w h => rCheck_any w A cap a h
  rw [hm] at hck
  have Hck := Lib.hid hck; have HI := Lib.hid h
  clear hck h hm
  obtain ⟨b, off, rfl, hb, _, _, _, _, _⟩ := span_cells HI.out.row k hkl
  have Hf := Lib.hid hf; have Hp := Lib.hid hp; clear hf hp
  have Hkd := Lib.hid kd
  clear kd
  have hk1 : (0 : Int) ≤ (k : Int) := by omega
  have hk2 : (k : Int) < (a.sp.length : Int) := by omega
  have hw1 : IntKind.i64.wrap ((k : Int) + 1) = (k : Int) + 1 := IntWalk.i64_in _ (by omega)
  have hw2 : IntKind.i64.wrap (a.last + 1) = a.last + 1 := IntWalk.i64_in _ (by omega)
  have hk3 : (0 : Int) ≤ (k : Int) + 1 := by omega
  have hk4 : ((k : Int) + 1).toNat = k + 1 := by omega
  go_enter Try.func15, Try.ntmps15
  go_upto_region 1 with fail
  have hA0 : (((w.alloc (a.blk (.slice (some ⟨b, off, none⟩) a.sp.length cap))).alloc p.blk).alloc (zeroA.blk nilV)).heap[w.heap.size]? = some (a.blk (.slice (some ⟨b, off, none⟩) a.sp.length cap)) := (Below.heap_alloc _ _ _ (by simp; omega)).trans ((Below.heap_alloc _ _ _ (by simp)).trans (heap_alloc_new w _))
  have hP0 : (((w.alloc (a.blk (.slice (some ⟨b, off, none⟩) a.sp.length cap))).alloc p.blk).alloc (zeroA.blk nilV)).heap[w.heap.size + 1]? = some p.blk := (Below.heap_alloc _ _ _ (by simp)).trans (heap_second _ _ _)
  have hZ0 : (((w.alloc (a.blk (.slice (some ⟨b, off, none⟩) a.sp.length cap))).alloc p.blk).alloc (zeroA.blk nilV)).heap[w.heap.size + 1 + 1]? = some (zeroA.blk nilV) := by simpa using heap_alloc_new ((w.alloc (a.blk (.slice (some ⟨b, off, none⟩) a.sp.length cap))).alloc p.blk) (zeroA.blk nilV)
  have hB0 : Below w.heap.size w (((w.alloc (a.blk (.slice (some ⟨b, off, none⟩) a.sp.length cap))).alloc p.blk).alloc (zeroA.blk nilV)) := al3 _ _ _
  change Code.wp _ _ _ _ (((w.alloc (a.blk (.slice (some ⟨b, off, none⟩) a.sp.length cap))).alloc p.blk).alloc (zeroA.blk nilV))
  generalize ((w.alloc (a.blk (.slice (some ⟨b, off, none⟩) a.sp.length cap))).alloc p.blk).alloc (zeroA.blk nilV) = w0 at *
  have HA0 := Lib.hid hA0; have HP0 := Lib.hid hP0; have HZ0 := Lib.hid hZ0; have HB0 := Lib.hid hB0
  clear hA0 hP0 hZ0 hB0
  refine wp_region_lit ?_
  refine wpList_load26 rfl (.tmp 2) rfl (w.heap.size) rfl HA0.out ?_
  simp only [Act.put, List.setIfInBounds_toArray, List.set_cons_zero, List.set_cons_succ]
  go_upto_region 3 with (go_at_call 39
                         refine (Hck.out _ (HI.out.below HB0.out)).mono ?_
                         rintro e w1 ⟨rfl, hb1⟩
                         have HA1 := Lib.hid (blk_below hb1 (lt_of_some HA0.out) HA0.out)
                         have HP1 := Lib.hid (blk_below hb1 (lt_of_some HP0.out) HP0.out)
                         have HZ1 := Lib.hid (blk_below hb1 (lt_of_some HZ0.out) HZ0.out)
                         have HB1 := Lib.hid (HB0.out.trans (hb1.mono HB0.out.size))
                         clear hb1)
  go_upto_region 3 with fail
  refine wp_region_lit ?_
  refine wpList_load26 rfl (.tmp 2) rfl (w.heap.size) rfl HA1.out ?_
  simp only [Act.put, List.setIfInBounds_toArray, List.set_cons_zero, List.set_cons_succ]
  refine wpList_load24 rfl (.tmp 3) rfl (w.heap.size + 1) rfl HP1.out ?_
  simp only [Act.put, List.setIfInBounds_toArray, List.set_cons_zero, List.set_cons_succ]
  refine wpList_step (fun K hK => ?_)
  go_simp
  go_at_call 43
  refine (Hf.out _ (HI.out.below HB1.out)).mono ?_
  rintro e w2 ⟨rfl, hb2⟩
  refine hK _ _ ?_
  clear hK K
  have hA2 := blk_below hb2 (lt_of_some HA1.out) HA1.out
  have hP2 := blk_below hb2 (lt_of_some HP1.out) HP1.out
  have HZ2 := Lib.hid (blk_below hb2 (lt_of_some HZ1.out) HZ1.out)
  have HB2 := Lib.hid (HB1.out.trans (hb2.mono HB1.out.size))
  obtain ⟨n0, n1, n2, n3, n4, n5, n6, n7, nlt⟩ := plan_blk hP2
  have HA2 := Lib.hid hA2; have HP2 := Lib.hid hP2
  clear hb2 hA2 hP2
  go_upto_region 6 with fail
  refine wp_region_lit ?_
  refine wpList_load26 rfl (.tmp 2) rfl (w.heap.size) rfl HA2.out ?_
  simp only [Act.put, List.setIfInBounds_toArray, List.set_cons_zero, List.set_cons_succ]
  go_upto_region 7 with (go_at_call 32
                         refine (rPlace_any _ (some ⟨b, off, none⟩) cap a _ (HI.out.below HB2.out).row (by omega)).mono ?_
                         rintro e w3 ⟨rfl, hb3⟩
                         rw [Hp.out]
                         have HA3 := Lib.hid (blk_below hb3 (lt_of_some HA2.out) HA2.out)
                         have HP3 := Lib.hid (blk_below hb3 (lt_of_some HP2.out) HP2.out)
                         have HZ3 := Lib.hid (blk_below hb3 (lt_of_some HZ2.out) HZ2.out)
                         have HB3 := Lib.hid (HB2.out.trans (hb3.mono HB2.out.size))
                         clear hb3)
  clear n0 n1 n2 n3 n4 n5 n6 n7 nlt
  obtain ⟨m0, m1, m2, m3, m4, m5, m6, m7, m8, m9, m10, mlt⟩ := map_cells HA3.out
  obtain ⟨n0, n1, n2, n3, n4, n5, n6, n7, nlt⟩ := plan_blk HP3.out
  obtain ⟨_, _, he, blt, p0, p1, p2, p3, p4⟩ := span_cells (HI.out.below HB3.out).row k hkl
  injection he with he
  injection he with hx1 hx2
  subst hx1; subst hx2
  rw [hs] at p0 p1 p2 p3 p4
  go_upto_region 9 with fail
  change Code.wp _ _ _ _ ((w3.alloc s.blk).alloc (plan1 s p).blk)
  clear m0 m1 m2 m3 m4 m5 m6 m7 m8 m9 m10 mlt n0 n1 n2 n3 n4 n5 n6 n7 nlt p0 p1 p2 p3 p4
  have hA := blk_below (al2 (w := w3) s.blk (plan1 s p).blk) (lt_of_some HA3.out) HA3.out
  have hP := blk_below (al2 (w := w3) s.blk (plan1 s p).blk) (lt_of_some HP3.out) HP3.out
  have hZ := blk_below (al2 (w := w3) s.blk (plan1 s p).blk) (lt_of_some HZ3.out) HZ3.out
  have hS : ((w3.alloc s.blk).alloc (plan1 s p).blk).heap[w3.heap.size]? = some s.blk := (Below.heap_alloc _ _ _ (by simp)).trans (heap_alloc_new w3 _)
  have hQ : ((w3.alloc s.blk).alloc (plan1 s p).blk).heap[w3.heap.size + 1]? = some (plan1 s p).blk := heap_second _ _ _
  have hB := HB3.out.trans ((al2 (w := w3) s.blk (plan1 s p).blk).mono HB3.out.size)
  have hne : w3.heap.size + 1 ≠ w.heap.size := by have := lt_of_some HA3.out; omega
  have hne2 : w.heap.size ≠ w3.heap.size + 1 := Ne.symm hne
  have hlt3 : w.heap.size + 1 + 1 < w3.heap.size := lt_of_some HZ3.out
  generalize (w3.alloc s.blk).alloc (plan1 s p).blk = w4 at *
  have hrow := (HI.out.below hB).row
  obtain ⟨m0, m1, m2, m3, m4, m5, m6, m7, m8, m9, m10, mlt⟩ := map_cells hA
  obtain ⟨n0, n1, n2, n3, n4, n5, n6, n7, nlt⟩ := plan_blk hP
  obtain ⟨s0, s1, s2, s3, s4, slt⟩ := span_blk hS
  obtain ⟨q0, q1, q2, q3, q4, q5, q6, q7, qlt⟩ := plan_blk hQ
  have f3 := fz_blk hQ 3; have f4 := fz_blk hQ 4; have f5 := fz_blk hQ 5; have f7 := fz_blk hQ 7; have z1 := map_frz hA 1
  simp only [plan1] at q0 q1 q2 q3 q4 q5 q6 q7
  have kd := Hkd.out
  have HB := Lib.hid hB; have HZ := Lib.hid hZ; have HQ := Lib.hid hQ; have HA := Lib.hid hA
  clear hA hP hZ hS hQ hB hrow
  go_upto_region 19 with fail
  have hq9 : (((w4.setCell ⟨w.heap.size, 1, none⟩ (.int .i64 (a.last + 1))).setCell ⟨w3.heap.size + 1, 3, none⟩ (.int .i64 (a.last + 1))).setCell ⟨w3.heap.size + 1, 7, none⟩ (.string p.key)).heap[w3.heap.size + 1]? = some (Plan.blk { plan1 s p with key := p.key, other := a.last + 1 }) := by
    have := (heap_setCell_at (i := 7) (heap_setCell_at (i := 3) (((only_setCell w4 ⟨w.heap.size, 1, none⟩ (.int .i64 (a.last + 1))).block _ (lt_of_some HQ.out) (by show ¬ _ = _; omega)).trans HQ.out) (.int .i64 (a.last + 1))) (.string p.key))
    refine (show _ = _ from this).trans ?_
    simp only [Plan.blk, plan1, List.setIfInBounds_toArray, List.set_cons_zero, List.set_cons_succ]
  have ha9 : (((w4.setCell ⟨w.heap.size, 1, none⟩ (.int .i64 (a.last + 1))).setCell ⟨w3.heap.size + 1, 3, none⟩ (.int .i64 (a.last + 1))).setCell ⟨w3.heap.size + 1, 7, none⟩ (.string p.key)).heap[w.heap.size]? = some (Atl.blk { a with last := a.last + 1 } (.slice (some ⟨b, off, none⟩) a.sp.length cap)) := by
    have := (((only_setCell ((w4.setCell ⟨w.heap.size, 1, none⟩ (.int .i64 (a.last + 1))).setCell ⟨w3.heap.size + 1, 3, none⟩ (.int .i64 (a.last + 1))) ⟨w3.heap.size + 1, 7, none⟩ (.string p.key)).block _ (lt_of_some (((only_setCell (w4.setCell ⟨w.heap.size, 1, none⟩ (.int .i64 (a.last + 1))) ⟨w3.heap.size + 1, 3, none⟩ (.int .i64 (a.last + 1))).block _ (lt_of_some (heap_setCell_at (i := 1) HA.out (.int .i64 (a.last + 1)))) (by show ¬ _ = _; omega)).trans (heap_setCell_at (i := 1) HA.out (.int .i64 (a.last + 1))))) (by show ¬ _ = _; omega)).trans (((only_setCell (w4.setCell ⟨w.heap.size, 1, none⟩ (.int .i64 (a.last + 1))) ⟨w3.heap.size + 1, 3, none⟩ (.int .i64 (a.last + 1))).block _ (lt_of_some (heap_setCell_at (i := 1) HA.out (.int .i64 (a.last + 1)))) (by show ¬ _ = _; omega)).trans (heap_setCell_at (i := 1) HA.out (.int .i64 (a.last + 1)))))
    refine (show _ = _ from this).trans ?_
    simp only [Atl.blk, List.setIfInBounds_toArray, List.set_cons_zero, List.set_cons_succ]
  have hon : Only (fun k => k = w.heap.size ∨ k = w3.heap.size + 1) w4 (((w4.setCell ⟨w.heap.size, 1, none⟩ (.int .i64 (a.last + 1))).setCell ⟨w3.heap.size + 1, 3, none⟩ (.int .i64 (a.last + 1))).setCell ⟨w3.heap.size + 1, 7, none⟩ (.string p.key)) := ((((only_setCell w4 ⟨w.heap.size, 1, none⟩ (.int .i64 (a.last + 1))).mono (fun k (hk : k = w.heap.size) => (show k = w.heap.size ∨ k = w3.heap.size + 1 by omega))).trans ((only_setCell (w4.setCell ⟨w.heap.size, 1, none⟩ (.int .i64 (a.last + 1))) ⟨w3.heap.size + 1, 3, none⟩ (.int .i64 (a.last + 1))).mono (fun k (hk : k = w3.heap.size + 1) => (show k = w.heap.size ∨ k = w3.heap.size + 1 by omega))) (fun _ _ h => h)).trans ((only_setCell ((w4.setCell ⟨w.heap.size, 1, none⟩ (.int .i64 (a.last + 1))).setCell ⟨w3.heap.size + 1, 3, none⟩ (.int .i64 (a.last + 1))) ⟨w3.heap.size + 1, 7, none⟩ (.string p.key)).mono (fun k (hk : k = w3.heap.size + 1) => (show k = w.heap.size ∨ k = w3.heap.size + 1 by omega))) (fun _ _ h => h))
  have hz9 := (hon.block _ (lt_of_some HZ.out) (by show ¬ (_ ∨ _); omega)).trans HZ.out
  have hb9 := hon.below HB.out (fun k hk => by rcases hk with hk | hk <;> omega) HB.out.size
  have x3 := map_frz ha9 3; have x4 := map_frz ha9 4; have x5 := map_frz ha9 5; have x6 := map_frz ha9 6; have x7 := map_frz ha9 7; have x8 := map_frz ha9 8; have x9 := map_frz ha9 9; have x10 := map_frz ha9 10
  generalize (((w4.setCell ⟨w.heap.size, 1, none⟩ (.int .i64 (a.last + 1))).setCell ⟨w3.heap.size + 1, 3, none⟩ (.int .i64 (a.last + 1))).setCell ⟨w3.heap.size + 1, 7, none⟩ (.string p.key)) = w5 at *
  have HA5 := Lib.hid ha9; have HZ5 := Lib.hid hz9; have HB5 := Lib.hid hb9
  obtain ⟨_, _, _, y3, y4, y5, y6, y7, y8, y9, y10, ylt⟩ := map_cells ha9
  clear ha9 hz9 hb9 hon
  refine wp_region_lit ?_
  refine wpList_load24 (p := { plan1 s p with key := p.key, other := a.last + 1 }) rfl (.tmp 9) rfl (w3.heap.size + 1) rfl hq9 ?_
  simp only [Act.put, List.setIfInBounds_toArray, List.set_cons_zero, List.set_cons_succ]
  clear hq9
  go_upto_region 20 with fail
  have ha6 : (putPlan w5 w.heap.size { plan1 s p with key := p.key, other := a.last + 1 }).heap[w.heap.size]? = some (Atl.blk { a with plan := { plan1 s p with key := p.key, other := a.last + 1 }, last := a.last + 1 } (.slice (some ⟨b, off, none⟩) a.sp.length cap)) := map_putPlan { plan1 s p with key := p.key, other := a.last + 1 } HA5.out
  have hon := putPlan_only w5 w.heap.size { plan1 s p with key := p.key, other := a.last + 1 }
  have hz6 := (hon.block _ (lt_of_some HZ5.out) (by show ¬ _ = _; omega)).trans HZ5.out
  have HB6 := Lib.hid (hon.below HB5.out (fun k hk => by have hk : k = w.heap.size := hk; omega) HB5.out.size)
  refine wp_region_lit ?_
  refine wpList_load26 rfl (.tmp 2) rfl (w.heap.size) rfl ha6 ?_
  simp only [Act.put, List.setIfInBounds_toArray, List.set_cons_zero, List.set_cons_succ]
  refine wpList_store26 rfl (.tmp 4) (.tmp 73) rfl (w.heap.size + 1 + 1) rfl (m := { a with plan := { plan1 s p with key := p.key, other := a.last + 1 }, last := a.last + 1 }) (v := (.slice (some ⟨b, off, none⟩) a.sp.length cap)) (m0 := zeroA) (v0 := nilV) rfl rfl hz6 ?_
  intro w9 h9 ho9
  simp only [Act.put, List.setIfInBounds_toArray, List.set_cons_zero, List.set_cons_succ]
  go_wp2
  refine bodyPost_ret (results26 rfl _ _ (w.heap.size + 1 + 1) rfl h9) rfl ?_
  exact ⟨rfl, ho9.below HB6.out (fun k hk => by omega) HB6.out.size⟩
set_option maxRecDepth 100000 in
set_option maxHeartbeats 4000000 in
theorem rbegin_merge (w : World) (A : Option Addr) (cap : Nat) (a : Atl) (p : Plan) (h : MapIn w A cap a) (hm : tr (MapOk a) = true) (k : Nat) (s : Span) (hkl : k < a.sp.length) (hs : a.sp[k] = s) (hlen : a.sp.length ≤ 16) (hp : place a.sp p.shard = (k : Int)) (hl1 : 1 ≤ a.last) (hl2 : a.last ≤ 1099511627776) (hk5 : k + 1 < a.sp.length) (u : Span) (hu : a.sp[k+1] = u) (hf : ∀ w, MapIn w A cap a → Calls Try.prog 43 #[a.val (.slice A a.sp.length cap), p.val] w fun e w' => e = .returned (.int .i64 0) ∧ Below w.heap.size w w') (kd : p.kind = 3) :
    Calls Try.prog 15 #[a.val (.slice A a.sp.length cap), p.val] w fun e w' => e = .returned (.tuple #[{ a with plan := { plan1 s p with other := u.sh } }.val (.slice A a.sp.length cap), .int .i64 0]) ∧ Below w.heap.size w w' := by
  have hck := fun w h => rCheck_any w A cap a h
  rw [hm] at hck
  have Hck := Lib.hid hck; have HI := Lib.hid h
  clear hck h hm
  obtain ⟨b, off, rfl, hb, _, _, _, _, _⟩ := span_cells HI.out.row k hkl
  have Hf := Lib.hid hf; have Hp := Lib.hid hp; clear hf hp
  have Hkd := Lib.hid kd
  clear kd
  have hk1 : (0 : Int) ≤ (k : Int) := by omega
  have hk2 : (k : Int) < (a.sp.length : Int) := by omega
  have hw1 : IntKind.i64.wrap ((k : Int) + 1) = (k : Int) + 1 := IntWalk.i64_in _ (by omega)
  have hw2 : IntKind.i64.wrap (a.last + 1) = a.last + 1 := IntWalk.i64_in _ (by omega)
  have hk3 : (0 : Int) ≤ (k : Int) + 1 := by omega
  have hk4 : ((k : Int) + 1).toNat = k + 1 := by omega
  go_enter Try.func15, Try.ntmps15
  go_upto_region 1 with fail
  have hA0 : (((w.alloc (a.blk (.slice (some ⟨b, off, none⟩) a.sp.length cap))).alloc p.blk).alloc (zeroA.blk nilV)).heap[w.heap.size]? = some (a.blk (.slice (some ⟨b, off, none⟩) a.sp.length cap)) := (Below.heap_alloc _ _ _ (by simp; omega)).trans ((Below.heap_alloc _ _ _ (by simp)).trans (heap_alloc_new w _))
  have hP0 : (((w.alloc (a.blk (.slice (some ⟨b, off, none⟩) a.sp.length cap))).alloc p.blk).alloc (zeroA.blk nilV)).heap[w.heap.size + 1]? = some p.blk := (Below.heap_alloc _ _ _ (by simp)).trans (heap_second _ _ _)
  have hZ0 : (((w.alloc (a.blk (.slice (some ⟨b, off, none⟩) a.sp.length cap))).alloc p.blk).alloc (zeroA.blk nilV)).heap[w.heap.size + 1 + 1]? = some (zeroA.blk nilV) := by simpa using heap_alloc_new ((w.alloc (a.blk (.slice (some ⟨b, off, none⟩) a.sp.length cap))).alloc p.blk) (zeroA.blk nilV)
  have hB0 : Below w.heap.size w (((w.alloc (a.blk (.slice (some ⟨b, off, none⟩) a.sp.length cap))).alloc p.blk).alloc (zeroA.blk nilV)) := al3 _ _ _
  change Code.wp _ _ _ _ (((w.alloc (a.blk (.slice (some ⟨b, off, none⟩) a.sp.length cap))).alloc p.blk).alloc (zeroA.blk nilV))
  generalize ((w.alloc (a.blk (.slice (some ⟨b, off, none⟩) a.sp.length cap))).alloc p.blk).alloc (zeroA.blk nilV) = w0 at *
  have HA0 := Lib.hid hA0; have HP0 := Lib.hid hP0; have HZ0 := Lib.hid hZ0; have HB0 := Lib.hid hB0
  clear hA0 hP0 hZ0 hB0
  refine wp_region_lit ?_
  refine wpList_load26 rfl (.tmp 2) rfl (w.heap.size) rfl HA0.out ?_
  simp only [Act.put, List.setIfInBounds_toArray, List.set_cons_zero, List.set_cons_succ]
  go_upto_region 3 with (go_at_call 39
                         refine (Hck.out _ (HI.out.below HB0.out)).mono ?_
                         rintro e w1 ⟨rfl, hb1⟩
                         have HA1 := Lib.hid (blk_below hb1 (lt_of_some HA0.out) HA0.out)
                         have HP1 := Lib.hid (blk_below hb1 (lt_of_some HP0.out) HP0.out)
                         have HZ1 := Lib.hid (blk_below hb1 (lt_of_some HZ0.out) HZ0.out)
                         have HB1 := Lib.hid (HB0.out.trans (hb1.mono HB0.out.size))
                         clear hb1)
  go_upto_region 3 with fail
  refine wp_region_lit ?_
  refine wpList_load26 rfl (.tmp 2) rfl (w.heap.size) rfl HA1.out ?_
  simp only [Act.put, List.setIfInBounds_toArray, List.set_cons_zero, List.set_cons_succ]
  refine wpList_load24 rfl (.tmp 3) rfl (w.heap.size + 1) rfl HP1.out ?_
  simp only [Act.put, List.setIfInBounds_toArray, List.set_cons_zero, List.set_cons_succ]
  refine wpList_step (fun K hK => ?_)
  go_simp
  go_at_call 43
  refine (Hf.out _ (HI.out.below HB1.out)).mono ?_
  rintro e w2 ⟨rfl, hb2⟩
  refine hK _ _ ?_
  clear hK K
  have hA2 := blk_below hb2 (lt_of_some HA1.out) HA1.out
  have hP2 := blk_below hb2 (lt_of_some HP1.out) HP1.out
  have HZ2 := Lib.hid (blk_below hb2 (lt_of_some HZ1.out) HZ1.out)
  have HB2 := Lib.hid (HB1.out.trans (hb2.mono HB1.out.size))
  obtain ⟨n0, n1, n2, n3, n4, n5, n6, n7, nlt⟩ := plan_blk hP2
  have HA2 := Lib.hid hA2; have HP2 := Lib.hid hP2
  clear hb2 hA2 hP2
  go_upto_region 6 with fail
  refine wp_region_lit ?_
  refine wpList_load26 rfl (.tmp 2) rfl (w.heap.size) rfl HA2.out ?_
  simp only [Act.put, List.setIfInBounds_toArray, List.set_cons_zero, List.set_cons_succ]
  go_upto_region 7 with (go_at_call 32
                         refine (rPlace_any _ (some ⟨b, off, none⟩) cap a _ (HI.out.below HB2.out).row (by omega)).mono ?_
                         rintro e w3 ⟨rfl, hb3⟩
                         rw [Hp.out]
                         have HA3 := Lib.hid (blk_below hb3 (lt_of_some HA2.out) HA2.out)
                         have HP3 := Lib.hid (blk_below hb3 (lt_of_some HP2.out) HP2.out)
                         have HZ3 := Lib.hid (blk_below hb3 (lt_of_some HZ2.out) HZ2.out)
                         have HB3 := Lib.hid (HB2.out.trans (hb3.mono HB2.out.size))
                         clear hb3)
  clear n0 n1 n2 n3 n4 n5 n6 n7 nlt
  obtain ⟨m0, m1, m2, m3, m4, m5, m6, m7, m8, m9, m10, mlt⟩ := map_cells HA3.out
  obtain ⟨n0, n1, n2, n3, n4, n5, n6, n7, nlt⟩ := plan_blk HP3.out
  obtain ⟨_, _, he, blt, p0, p1, p2, p3, p4⟩ := span_cells (HI.out.below HB3.out).row k hkl
  injection he with he
  injection he with hx1 hx2
  subst hx1; subst hx2
  rw [hs] at p0 p1 p2 p3 p4
  go_upto_region 9 with fail
  change Code.wp _ _ _ _ ((w3.alloc s.blk).alloc (plan1 s p).blk)
  clear m0 m1 m2 m3 m4 m5 m6 m7 m8 m9 m10 mlt n0 n1 n2 n3 n4 n5 n6 n7 nlt p0 p1 p2 p3 p4
  have hA := blk_below (al2 (w := w3) s.blk (plan1 s p).blk) (lt_of_some HA3.out) HA3.out
  have hP := blk_below (al2 (w := w3) s.blk (plan1 s p).blk) (lt_of_some HP3.out) HP3.out
  have hZ := blk_below (al2 (w := w3) s.blk (plan1 s p).blk) (lt_of_some HZ3.out) HZ3.out
  have hS : ((w3.alloc s.blk).alloc (plan1 s p).blk).heap[w3.heap.size]? = some s.blk := (Below.heap_alloc _ _ _ (by simp)).trans (heap_alloc_new w3 _)
  have hQ : ((w3.alloc s.blk).alloc (plan1 s p).blk).heap[w3.heap.size + 1]? = some (plan1 s p).blk := heap_second _ _ _
  have hB := HB3.out.trans ((al2 (w := w3) s.blk (plan1 s p).blk).mono HB3.out.size)
  have hne : w3.heap.size + 1 ≠ w.heap.size := by have := lt_of_some HA3.out; omega
  have hne2 : w.heap.size ≠ w3.heap.size + 1 := Ne.symm hne
  have hlt3 : w.heap.size + 1 + 1 < w3.heap.size := lt_of_some HZ3.out
  generalize (w3.alloc s.blk).alloc (plan1 s p).blk = w4 at *
  have hrow := (HI.out.below hB).row
  obtain ⟨m0, m1, m2, m3, m4, m5, m6, m7, m8, m9, m10, mlt⟩ := map_cells hA
  obtain ⟨n0, n1, n2, n3, n4, n5, n6, n7, nlt⟩ := plan_blk hP
  obtain ⟨s0, s1, s2, s3, s4, slt⟩ := span_blk hS
  obtain ⟨q0, q1, q2, q3, q4, q5, q6, q7, qlt⟩ := plan_blk hQ
  have f3 := fz_blk hQ 3; have f4 := fz_blk hQ 4; have f5 := fz_blk hQ 5; have f7 := fz_blk hQ 7; have z1 := map_frz hA 1
  simp only [plan1] at q0 q1 q2 q3 q4 q5 q6 q7
  obtain ⟨_, _, he, blt, v0, v1, v2, v3, v4⟩ := span_cells hrow (k + 1) hk5
  injection he with he
  injection he with hx1 hx2
  subst hx1; subst hx2
  rw [hu] at v0 v1 v2 v3 v4
  have hk6 : (k : Int) + 1 < (a.sp.length : Int) := by omega
  have kd := Hkd.out
  have HB := Lib.hid hB; have HZ := Lib.hid hZ; have HQ := Lib.hid hQ; have HA := Lib.hid hA
  clear hA hP hZ hS hQ hB hrow
  go_upto_region 19 with fail
  have hq9 : (w4.setCell ⟨w3.heap.size + 1, 3, none⟩ (.int .i64 u.sh)).heap[w3.heap.size + 1]? = some (Plan.blk { plan1 s p with other := u.sh }) := by
    have := (heap_setCell_at (i := 3) HQ.out (.int .i64 u.sh))
    refine (show _ = _ from this).trans ?_
    simp only [Plan.blk, plan1, List.setIfInBounds_toArray, List.set_cons_zero, List.set_cons_succ]
  have ha9 : (w4.setCell ⟨w3.heap.size + 1, 3, none⟩ (.int .i64 u.sh)).heap[w.heap.size]? = some (Atl.blk a (.slice (some ⟨b, off, none⟩) a.sp.length cap)) := by
    have := (((only_setCell w4 ⟨w3.heap.size + 1, 3, none⟩ (.int .i64 u.sh)).block _ (lt_of_some HA.out) (by show ¬ _ = _; omega)).trans HA.out)
    refine (show _ = _ from this).trans ?_
    simp only [Atl.blk, List.setIfInBounds_toArray, List.set_cons_zero, List.set_cons_succ]
  have hon : Only (fun k => k = w.heap.size ∨ k = w3.heap.size + 1) w4 (w4.setCell ⟨w3.heap.size + 1, 3, none⟩ (.int .i64 u.sh)) := ((only_setCell w4 ⟨w3.heap.size + 1, 3, none⟩ (.int .i64 u.sh)).mono (fun k (hk : k = w3.heap.size + 1) => (show k = w.heap.size ∨ k = w3.heap.size + 1 by omega)))
  have hz9 := (hon.block _ (lt_of_some HZ.out) (by show ¬ (_ ∨ _); omega)).trans HZ.out
  have hb9 := hon.below HB.out (fun k hk => by rcases hk with hk | hk <;> omega) HB.out.size
  have x3 := map_frz ha9 3; have x4 := map_frz ha9 4; have x5 := map_frz ha9 5; have x6 := map_frz ha9 6; have x7 := map_frz ha9 7; have x8 := map_frz ha9 8; have x9 := map_frz ha9 9; have x10 := map_frz ha9 10
  generalize (w4.setCell ⟨w3.heap.size + 1, 3, none⟩ (.int .i64 u.sh)) = w5 at *
  have HA5 := Lib.hid ha9; have HZ5 := Lib.hid hz9; have HB5 := Lib.hid hb9
  obtain ⟨_, _, _, y3, y4, y5, y6, y7, y8, y9, y10, ylt⟩ := map_cells ha9
  clear ha9 hz9 hb9 hon
  refine wp_region_lit ?_
  refine wpList_load24 (p := { plan1 s p with other := u.sh }) rfl (.tmp 9) rfl (w3.heap.size + 1) rfl hq9 ?_
  simp only [Act.put, List.setIfInBounds_toArray, List.set_cons_zero, List.set_cons_succ]
  clear hq9
  go_upto_region 20 with fail
  have ha6 : (putPlan w5 w.heap.size { plan1 s p with other := u.sh }).heap[w.heap.size]? = some (Atl.blk { a with plan := { plan1 s p with other := u.sh } } (.slice (some ⟨b, off, none⟩) a.sp.length cap)) := map_putPlan { plan1 s p with other := u.sh } HA5.out
  have hon := putPlan_only w5 w.heap.size { plan1 s p with other := u.sh }
  have hz6 := (hon.block _ (lt_of_some HZ5.out) (by show ¬ _ = _; omega)).trans HZ5.out
  have HB6 := Lib.hid (hon.below HB5.out (fun k hk => by have hk : k = w.heap.size := hk; omega) HB5.out.size)
  refine wp_region_lit ?_
  refine wpList_load26 rfl (.tmp 2) rfl (w.heap.size) rfl ha6 ?_
  simp only [Act.put, List.setIfInBounds_toArray, List.set_cons_zero, List.set_cons_succ]
  refine wpList_store26 rfl (.tmp 4) (.tmp 73) rfl (w.heap.size + 1 + 1) rfl (m := { a with plan := { plan1 s p with other := u.sh } }) (v := (.slice (some ⟨b, off, none⟩) a.sp.length cap)) (m0 := zeroA) (v0 := nilV) rfl rfl hz6 ?_
  intro w9 h9 ho9
  simp only [Act.put, List.setIfInBounds_toArray, List.set_cons_zero, List.set_cons_succ]
  go_wp2
  refine bodyPost_ret (results26 rfl _ _ (w.heap.size + 1 + 1) rfl h9) rfl ?_
  exact ⟨rfl, ho9.below HB6.out (fun k hk => by omega) HB6.out.size⟩
end Go.Proofs.Ytimondpollbdfaa
