/- What is proved: what a plan that is asked for makes: the program's plan, case by case. -/
import Derived.Test.YtimondpollbdfaaWhole
import Derived.Test.YtimondpollbdfaaPlanAny
set_option linter.unusedVariables false
set_option linter.unusedSimpArgs false
namespace Go.Proofs.Ytimondpollbdfaa
open Go.RowKit
attribute [local go_sem] Span.val Atl.val Plan.val

/-- The plan as it is begun with. -/
def plan0 (s : Span) (p : Plan) : Plan := ⟨p.kind, 1, s.sh, 0, s.gr, 0, s.ep, ⟨#[]⟩⟩
theorem drewO (F : Nat → Prop) (w : World) : Only F w w.drew := Only.of_below ((Below.refl _ _).drew)
theorem al3_at (w : World) (o1 o2 o3 : Obj) : (((w.alloc o1).alloc o2).alloc o3).heap[w.heap.size]? = some o1 ∧ (((w.alloc o1).alloc o2).alloc o3).heap[w.heap.size + 1]? = some o2 ∧ (((w.alloc o1).alloc o2).alloc o3).heap[w.heap.size + 1 + 1]? = some o3 ∧ Below w.heap.size w (((w.alloc o1).alloc o2).alloc o3) ∧ (((w.alloc o1).alloc o2).alloc o3).heap.size = w.heap.size + 1 + 1 + 1 :=
  ⟨(Below.heap_alloc _ _ _ (by simp; omega)).trans ((Below.heap_alloc _ _ _ (by simp)).trans (heap_alloc_new w _)), (Below.heap_alloc _ _ _ (by simp)).trans (heap_second _ _ _), by simpa using heap_alloc_new ((w.alloc o1).alloc o2) o3, al3 _ _ _, by simp⟩

set_option maxRecDepth 100000 in
set_option maxHeartbeats 4000000 in
theorem plan_big (w : World) (A : Option Addr) (cap : Nat) (a : Atl) (k : Nat) (s : Span) (p : Plan) (hrow : RowAt w w.heap.size 5 A (a.sp.map Span.cells)) (hlen : a.sp.length ≤ 16) (hks : p.key.size ≤ 9223372036854775807)
    (hk : k < a.sp.length) (hs : a.sp[k] = s) (he1 : 1 ≤ s.ep) (he2 : s.ep ≤ 1099511627776) (hl1 : 1 ≤ a.last) (hl2 : a.last ≤ 1099511627776) (g0 : 1099511627774 < s.ep) :
    Calls Try.prog 42 #[a.val (.slice A a.sp.length cap), .int .i64 (k : Int), p.val] w fun e w' => e = .returned (.tuple #[(plan0 s p).val, .int .i64 1]) ∧ Below w.heap.size w w' := by
  obtain ⟨b, off, rfl, hb, p0, p1, p2, p3, p4⟩ := span_cells hrow k hk
  rw [hs] at p0 p1 p2 p3 p4
  have hk1 : (0 : Int) ≤ (k : Int) := by omega
  have hk2 : (k : Int) < (a.sp.length : Int) := by omega
  have hw1 : IntKind.i64.wrap ((k : Int) + 1) = (k : Int) + 1 := IntWalk.i64_in _ (by omega)
  have hw2 : IntKind.i64.wrap (a.last + 1) = a.last + 1 := IntWalk.i64_in _ (by omega)
  have hk3 : (0 : Int) ≤ (k : Int) + 1 := by omega
  have hk4 : ((k : Int) + 1).toNat = k + 1 := by omega
  have Hrow := Lib.hid hrow; clear hrow
  have Hg0 := Lib.hid g0
  clear g0
  go_enter Try.func42, Try.ntmps42
  go_upto_region 1 with fail
  have hA := al3_at w (a.blk (.slice (some ⟨b, off, none⟩) a.sp.length cap)) p.blk zeroP.blk
  change Code.wp _ _ _ _ (((w.alloc (a.blk (.slice (some ⟨b, off, none⟩) a.sp.length cap))).alloc p.blk).alloc zeroP.blk)
  generalize ((w.alloc (a.blk (.slice (some ⟨b, off, none⟩) a.sp.length cap))).alloc p.blk).alloc zeroP.blk = w0 at *
  obtain ⟨hA0, hP0, hZ0, hB0, hsz⟩ := hA
  have HR0 := Lib.hid (Hrow.out.below hB0 (Nat.le_refl _))
  clear p0 p1 p2 p3 p4
  obtain ⟨_, _, he, _, p0, p1, p2, p3, p4⟩ := span_cells HR0.out k hk
  injection he with he
  injection he with hx1 hx2
  subst hx1; subst hx2
  rw [hs] at p0 p1 p2 p3 p4
  obtain ⟨m0, m1, m2, m3, m4, m5, m6, m7, m8, m9, m10, mlt⟩ := map_cells hA0
  obtain ⟨n0, n1, n2, n3, n4, n5, n6, n7, nlt⟩ := plan_blk hP0
  have HA0 := Lib.hid hA0; have HP0 := Lib.hid hP0; have HZ0 := Lib.hid hZ0; have HB0 := Lib.hid hB0; have Hsz := Lib.hid hsz
  clear hA0 hP0 hZ0 hB0 hsz
  have hb0 : b < w0.heap.size := by have := HB0.out.size; omega
  go_upto_region 3 with fail
  change Code.wp _ _ _ _ ((w0.alloc s.blk).alloc (plan0 s p).blk)
  clear m0 m1 m2 m3 m4 m5 m6 m7 m8 m9 m10 mlt n0 n1 n2 n3 n4 n5 n6 n7 nlt p0 p1 p2 p3 p4
  have hA := blk_below (al2 (w := w0) s.blk (plan0 s p).blk) (lt_of_some HA0.out) HA0.out
  have hP := blk_below (al2 (w := w0) s.blk (plan0 s p).blk) (lt_of_some HP0.out) HP0.out
  have hZ := blk_below (al2 (w := w0) s.blk (plan0 s p).blk) (lt_of_some HZ0.out) HZ0.out
  have hS : ((w0.alloc s.blk).alloc (plan0 s p).blk).heap[w0.heap.size]? = some s.blk := (Below.heap_alloc _ _ _ (by simp)).trans (heap_alloc_new w0 _)
  have hQ : ((w0.alloc s.blk).alloc (plan0 s p).blk).heap[w0.heap.size + 1]? = some (plan0 s p).blk := heap_second _ _ _
  have hB := HB0.out.trans ((al2 (w := w0) s.blk (plan0 s p).blk).mono HB0.out.size)
  have hrow := HR0.out.below (al2 (w := w0) s.blk (plan0 s p).blk) HB0.out.size
  generalize (w0.alloc s.blk).alloc (plan0 s p).blk = w1 at *
  obtain ⟨m0, m1, m2, m3, m4, m5, m6, m7, m8, m9, m10, mlt⟩ := map_cells hA
  obtain ⟨n0, n1, n2, n3, n4, n5, n6, n7, nlt⟩ := plan_blk hP
  obtain ⟨s0, s1, s2, s3, s4, slt⟩ := span_blk hS
  obtain ⟨q0, q1, q2, q3, q4, q5, q6, q7, qlt⟩ := plan_blk hQ
  have f3 := fz_blk hQ 3; have f4 := fz_blk hQ 4; have f5 := fz_blk hQ 5; have f7 := fz_blk hQ 7
  simp only [plan0] at q0 q1 q2 q3 q4 q5 q6 q7
  have g0 := Hg0.out

  have HB := Lib.hid hB; have HZ := Lib.hid hZ; have HQ := Lib.hid hQ; have HA := Lib.hid hA; have HP := Lib.hid hP
  clear hA hP hZ hS hQ hB hrow
  go_upto_region 5 with fail
  have hsz := Hsz.out
  have hb1 := HB.out.size
  refine wp_region_lit ?_
  refine wpList_load24 rfl (.tmp 9) rfl (w0.heap.size + 1) rfl (p := (plan0 s p)) HQ.out ?_
  simp only [Act.put, List.setIfInBounds_toArray, List.set_cons_zero, List.set_cons_succ]
  refine wpList_store24 rfl (.tmp 6) (.tmp 51) rfl (w.heap.size + 1 + 1) rfl (p := (plan0 s p)) rfl HZ.out ?_
  intro w9 h9 ho9
  simp only [Act.put, List.setIfInBounds_toArray, List.set_cons_zero, List.set_cons_succ]
  go_wp2
  refine bodyPost_ret (results24 rfl _ _ (w.heap.size + 1 + 1) rfl h9) rfl ?_
  exact ⟨rfl, ho9.below HB.out (fun k hk => by omega) HB.out.size⟩
set_option maxRecDepth 100000 in
set_option maxHeartbeats 4000000 in
theorem plan_bigNext (w : World) (A : Option Addr) (cap : Nat) (a : Atl) (k : Nat) (s : Span) (p : Plan) (hrow : RowAt w w.heap.size 5 A (a.sp.map Span.cells)) (hlen : a.sp.length ≤ 16) (hks : p.key.size ≤ 9223372036854775807)
    (hk : k < a.sp.length) (hs : a.sp[k] = s) (he1 : 1 ≤ s.ep) (he2 : s.ep ≤ 1099511627776) (hl1 : 1 ≤ a.last) (hl2 : a.last ≤ 1099511627776) (hk5 : k + 1 < a.sp.length) (u : Span) (hu : a.sp[k+1] = u) (kd : p.kind = 3) (g0 : ¬ 1099511627774 < s.ep) (g1 : 1099511627774 < u.ep) :
    Calls Try.prog 42 #[a.val (.slice A a.sp.length cap), .int .i64 (k : Int), p.val] w fun e w' => e = .returned (.tuple #[(plan0 s p).val, .int .i64 1]) ∧ Below w.heap.size w w' := by
  obtain ⟨b, off, rfl, hb, p0, p1, p2, p3, p4⟩ := span_cells hrow k hk
  rw [hs] at p0 p1 p2 p3 p4
  have hk1 : (0 : Int) ≤ (k : Int) := by omega
  have hk2 : (k : Int) < (a.sp.length : Int) := by omega
  have hw1 : IntKind.i64.wrap ((k : Int) + 1) = (k : Int) + 1 := IntWalk.i64_in _ (by omega)
  have hw2 : IntKind.i64.wrap (a.last + 1) = a.last + 1 := IntWalk.i64_in _ (by omega)
  have hk3 : (0 : Int) ≤ (k : Int) + 1 := by omega
  have hk4 : ((k : Int) + 1).toNat = k + 1 := by omega
  have Hrow := Lib.hid hrow; clear hrow
  have Hkd := Lib.hid kd
  have Hg0 := Lib.hid g0
  have Hg1 := Lib.hid g1
  clear kd g0 g1
  go_enter Try.func42, Try.ntmps42
  go_upto_region 1 with fail
  have hA := al3_at w (a.blk (.slice (some ⟨b, off, none⟩) a.sp.length cap)) p.blk zeroP.blk
  change Code.wp _ _ _ _ (((w.alloc (a.blk (.slice (some ⟨b, off, none⟩) a.sp.length cap))).alloc p.blk).alloc zeroP.blk)
  generalize ((w.alloc (a.blk (.slice (some ⟨b, off, none⟩) a.sp.length cap))).alloc p.blk).alloc zeroP.blk = w0 at *
  obtain ⟨hA0, hP0, hZ0, hB0, hsz⟩ := hA
  have HR0 := Lib.hid (Hrow.out.below hB0 (Nat.le_refl _))
  clear p0 p1 p2 p3 p4
  obtain ⟨_, _, he, _, p0, p1, p2, p3, p4⟩ := span_cells HR0.out k hk
  injection he with he
  injection he with hx1 hx2
  subst hx1; subst hx2
  rw [hs] at p0 p1 p2 p3 p4
  obtain ⟨m0, m1, m2, m3, m4, m5, m6, m7, m8, m9, m10, mlt⟩ := map_cells hA0
  obtain ⟨n0, n1, n2, n3, n4, n5, n6, n7, nlt⟩ := plan_blk hP0
  have HA0 := Lib.hid hA0; have HP0 := Lib.hid hP0; have HZ0 := Lib.hid hZ0; have HB0 := Lib.hid hB0; have Hsz := Lib.hid hsz
  clear hA0 hP0 hZ0 hB0 hsz
  have hb0 : b < w0.heap.size := by have := HB0.out.size; omega
  go_upto_region 3 with fail
  change Code.wp _ _ _ _ ((w0.alloc s.blk).alloc (plan0 s p).blk)
  clear m0 m1 m2 m3 m4 m5 m6 m7 m8 m9 m10 mlt n0 n1 n2 n3 n4 n5 n6 n7 nlt p0 p1 p2 p3 p4
  have hA := blk_below (al2 (w := w0) s.blk (plan0 s p).blk) (lt_of_some HA0.out) HA0.out
  have hP := blk_below (al2 (w := w0) s.blk (plan0 s p).blk) (lt_of_some HP0.out) HP0.out
  have hZ := blk_below (al2 (w := w0) s.blk (plan0 s p).blk) (lt_of_some HZ0.out) HZ0.out
  have hS : ((w0.alloc s.blk).alloc (plan0 s p).blk).heap[w0.heap.size]? = some s.blk := (Below.heap_alloc _ _ _ (by simp)).trans (heap_alloc_new w0 _)
  have hQ : ((w0.alloc s.blk).alloc (plan0 s p).blk).heap[w0.heap.size + 1]? = some (plan0 s p).blk := heap_second _ _ _
  have hB := HB0.out.trans ((al2 (w := w0) s.blk (plan0 s p).blk).mono HB0.out.size)
  have hrow := HR0.out.below (al2 (w := w0) s.blk (plan0 s p).blk) HB0.out.size
  generalize (w0.alloc s.blk).alloc (plan0 s p).blk = w1 at *
  obtain ⟨m0, m1, m2, m3, m4, m5, m6, m7, m8, m9, m10, mlt⟩ := map_cells hA
  obtain ⟨n0, n1, n2, n3, n4, n5, n6, n7, nlt⟩ := plan_blk hP
  obtain ⟨s0, s1, s2, s3, s4, slt⟩ := span_blk hS
  obtain ⟨q0, q1, q2, q3, q4, q5, q6, q7, qlt⟩ := plan_blk hQ
  have f3 := fz_blk hQ 3; have f4 := fz_blk hQ 4; have f5 := fz_blk hQ 5; have f7 := fz_blk hQ 7
  simp only [plan0] at q0 q1 q2 q3 q4 q5 q6 q7
  obtain ⟨_, _, he, blt, v0, v1, v2, v3, v4⟩ := span_cells hrow (k + 1) hk5
  injection he with he
  injection he with hx1 hx2
  subst hx1; subst hx2
  rw [hu] at v0 v1 v2 v3 v4
  have hk6 : (k : Int) + 1 < (a.sp.length : Int) := by omega
  have kd := Hkd.out
  have g0 := Hg0.out
  have g1 := Hg1.out

  have HB := Lib.hid hB; have HZ := Lib.hid hZ; have HQ := Lib.hid hQ; have HA := Lib.hid hA; have HP := Lib.hid hP
  clear hA hP hZ hS hQ hB hrow
  go_upto_region 5 with fail
  have hsz := Hsz.out
  have hb1 := HB.out.size
  refine wp_region_lit ?_
  refine wpList_load24 rfl (.tmp 9) rfl (w0.heap.size + 1) rfl (p := (plan0 s p)) HQ.out ?_
  simp only [Act.put, List.setIfInBounds_toArray, List.set_cons_zero, List.set_cons_succ]
  refine wpList_store24 rfl (.tmp 6) (.tmp 51) rfl (w.heap.size + 1 + 1) rfl (p := (plan0 s p)) rfl HZ.out ?_
  intro w9 h9 ho9
  simp only [Act.put, List.setIfInBounds_toArray, List.set_cons_zero, List.set_cons_succ]
  go_wp2
  refine bodyPost_ret (results24 rfl _ _ (w.heap.size + 1 + 1) rfl h9) rfl ?_
  exact ⟨rfl, ho9.below HB.out (fun k hk => by omega) HB.out.size⟩
set_option maxRecDepth 100000 in
set_option maxHeartbeats 4000000 in
theorem plan_move1 (w : World) (A : Option Addr) (cap : Nat) (a : Atl) (k : Nat) (s : Span) (p : Plan) (hrow : RowAt w w.heap.size 5 A (a.sp.map Span.cells)) (hlen : a.sp.length ≤ 16) (hks : p.key.size ≤ 9223372036854775807)
    (hk : k < a.sp.length) (hs : a.sp[k] = s) (he1 : 1 ≤ s.ep) (he2 : s.ep ≤ 1099511627776) (hl1 : 1 ≤ a.last) (hl2 : a.last ≤ 1099511627776) (kd : p.kind = 1) (g0 : ¬ 1099511627774 < s.ep) (g2 : p.group < 1) :
    Calls Try.prog 42 #[a.val (.slice A a.sp.length cap), .int .i64 (k : Int), p.val] w fun e w' => e = .returned (.tuple #[(plan0 s p).val, .int .i64 1]) ∧ Below w.heap.size w w' := by
  obtain ⟨b, off, rfl, hb, p0, p1, p2, p3, p4⟩ := span_cells hrow k hk
  rw [hs] at p0 p1 p2 p3 p4
  have hk1 : (0 : Int) ≤ (k : Int) := by omega
  have hk2 : (k : Int) < (a.sp.length : Int) := by omega
  have hw1 : IntKind.i64.wrap ((k : Int) + 1) = (k : Int) + 1 := IntWalk.i64_in _ (by omega)
  have hw2 : IntKind.i64.wrap (a.last + 1) = a.last + 1 := IntWalk.i64_in _ (by omega)
  have hk3 : (0 : Int) ≤ (k : Int) + 1 := by omega
  have hk4 : ((k : Int) + 1).toNat = k + 1 := by omega
  have Hrow := Lib.hid hrow; clear hrow
  have Hkd := Lib.hid kd
  have Hg0 := Lib.hid g0
  have Hg2 := Lib.hid g2
  clear kd g0 g2
  go_enter Try.func42, Try.ntmps42
  go_upto_region 1 with fail
  have hA := al3_at w (a.blk (.slice (some ⟨b, off, none⟩) a.sp.length cap)) p.blk zeroP.blk
  change Code.wp _ _ _ _ (((w.alloc (a.blk (.slice (some ⟨b, off, none⟩) a.sp.length cap))).alloc p.blk).alloc zeroP.blk)
  generalize ((w.alloc (a.blk (.slice (some ⟨b, off, none⟩) a.sp.length cap))).alloc p.blk).alloc zeroP.blk = w0 at *
  obtain ⟨hA0, hP0, hZ0, hB0, hsz⟩ := hA
  have HR0 := Lib.hid (Hrow.out.below hB0 (Nat.le_refl _))
  clear p0 p1 p2 p3 p4
  obtain ⟨_, _, he, _, p0, p1, p2, p3, p4⟩ := span_cells HR0.out k hk
  injection he with he
  injection he with hx1 hx2
  subst hx1; subst hx2
  rw [hs] at p0 p1 p2 p3 p4
  obtain ⟨m0, m1, m2, m3, m4, m5, m6, m7, m8, m9, m10, mlt⟩ := map_cells hA0
  obtain ⟨n0, n1, n2, n3, n4, n5, n6, n7, nlt⟩ := plan_blk hP0
  have HA0 := Lib.hid hA0; have HP0 := Lib.hid hP0; have HZ0 := Lib.hid hZ0; have HB0 := Lib.hid hB0; have Hsz := Lib.hid hsz
  clear hA0 hP0 hZ0 hB0 hsz
  have hb0 : b < w0.heap.size := by have := HB0.out.size; omega
  go_upto_region 3 with fail
  change Code.wp _ _ _ _ ((w0.alloc s.blk).alloc (plan0 s p).blk)
  clear m0 m1 m2 m3 m4 m5 m6 m7 m8 m9 m10 mlt n0 n1 n2 n3 n4 n5 n6 n7 nlt p0 p1 p2 p3 p4
  have hA := blk_below (al2 (w := w0) s.blk (plan0 s p).blk) (lt_of_some HA0.out) HA0.out
  have hP := blk_below (al2 (w := w0) s.blk (plan0 s p).blk) (lt_of_some HP0.out) HP0.out
  have hZ := blk_below (al2 (w := w0) s.blk (plan0 s p).blk) (lt_of_some HZ0.out) HZ0.out
  have hS : ((w0.alloc s.blk).alloc (plan0 s p).blk).heap[w0.heap.size]? = some s.blk := (Below.heap_alloc _ _ _ (by simp)).trans (heap_alloc_new w0 _)
  have hQ : ((w0.alloc s.blk).alloc (plan0 s p).blk).heap[w0.heap.size + 1]? = some (plan0 s p).blk := heap_second _ _ _
  have hB := HB0.out.trans ((al2 (w := w0) s.blk (plan0 s p).blk).mono HB0.out.size)
  have hrow := HR0.out.below (al2 (w := w0) s.blk (plan0 s p).blk) HB0.out.size
  generalize (w0.alloc s.blk).alloc (plan0 s p).blk = w1 at *
  obtain ⟨m0, m1, m2, m3, m4, m5, m6, m7, m8, m9, m10, mlt⟩ := map_cells hA
  obtain ⟨n0, n1, n2, n3, n4, n5, n6, n7, nlt⟩ := plan_blk hP
  obtain ⟨s0, s1, s2, s3, s4, slt⟩ := span_blk hS
  obtain ⟨q0, q1, q2, q3, q4, q5, q6, q7, qlt⟩ := plan_blk hQ
  have f3 := fz_blk hQ 3; have f4 := fz_blk hQ 4; have f5 := fz_blk hQ 5; have f7 := fz_blk hQ 7
  simp only [plan0] at q0 q1 q2 q3 q4 q5 q6 q7
  have kd := Hkd.out
  have g0 := Hg0.out
  have g2 := Hg2.out

  have HB := Lib.hid hB; have HZ := Lib.hid hZ; have HQ := Lib.hid hQ; have HA := Lib.hid hA; have HP := Lib.hid hP
  clear hA hP hZ hS hQ hB hrow
  go_upto_region 9 with fail
  have hsz := Hsz.out
  have hb1 := HB.out.size
  refine wp_region_lit ?_
  refine wpList_load24 rfl (.tmp 9) rfl (w0.heap.size + 1) rfl (p := (plan0 s p)) HQ.out ?_
  simp only [Act.put, List.setIfInBounds_toArray, List.set_cons_zero, List.set_cons_succ]
  refine wpList_store24 rfl (.tmp 6) (.tmp 73) rfl (w.heap.size + 1 + 1) rfl (p := (plan0 s p)) rfl HZ.out ?_
  intro w9 h9 ho9
  simp only [Act.put, List.setIfInBounds_toArray, List.set_cons_zero, List.set_cons_succ]
  go_wp2
  refine bodyPost_ret (results24 rfl _ _ (w.heap.size + 1 + 1) rfl h9) rfl ?_
  exact ⟨rfl, ho9.below HB.out (fun k hk => by omega) HB.out.size⟩
set_option maxRecDepth 100000 in
set_option maxHeartbeats 4000000 in
theorem plan_move2 (w : World) (A : Option Addr) (cap : Nat) (a : Atl) (k : Nat) (s : Span) (p : Plan) (hrow : RowAt w w.heap.size 5 A (a.sp.map Span.cells)) (hlen : a.sp.length ≤ 16) (hks : p.key.size ≤ 9223372036854775807)
    (hk : k < a.sp.length) (hs : a.sp[k] = s) (he1 : 1 ≤ s.ep) (he2 : s.ep ≤ 1099511627776) (hl1 : 1 ≤ a.last) (hl2 : a.last ≤ 1099511627776) (kd : p.kind = 1) (g0 : ¬ 1099511627774 < s.ep) (g2 : ¬ p.group < 1) (g3 : a.groups < p.group) :
    Calls Try.prog 42 #[a.val (.slice A a.sp.length cap), .int .i64 (k : Int), p.val] w fun e w' => e = .returned (.tuple #[(plan0 s p).val, .int .i64 1]) ∧ Below w.heap.size w w' := by
  obtain ⟨b, off, rfl, hb, p0, p1, p2, p3, p4⟩ := span_cells hrow k hk
  rw [hs] at p0 p1 p2 p3 p4
  have hk1 : (0 : Int) ≤ (k : Int) := by omega
  have hk2 : (k : Int) < (a.sp.length : Int) := by omega
  have hw1 : IntKind.i64.wrap ((k : Int) + 1) = (k : Int) + 1 := IntWalk.i64_in _ (by omega)
  have hw2 : IntKind.i64.wrap (a.last + 1) = a.last + 1 := IntWalk.i64_in _ (by omega)
  have hk3 : (0 : Int) ≤ (k : Int) + 1 := by omega
  have hk4 : ((k : Int) + 1).toNat = k + 1 := by omega
  have Hrow := Lib.hid hrow; clear hrow
  have Hkd := Lib.hid kd
  have Hg0 := Lib.hid g0
  have Hg2 := Lib.hid g2
  have Hg3 := Lib.hid g3
  clear kd g0 g2 g3
  go_enter Try.func42, Try.ntmps42
  go_upto_region 1 with fail
  have hA := al3_at w (a.blk (.slice (some ⟨b, off, none⟩) a.sp.length cap)) p.blk zeroP.blk
  change Code.wp _ _ _ _ (((w.alloc (a.blk (.slice (some ⟨b, off, none⟩) a.sp.length cap))).alloc p.blk).alloc zeroP.blk)
  generalize ((w.alloc (a.blk (.slice (some ⟨b, off, none⟩) a.sp.length cap))).alloc p.blk).alloc zeroP.blk = w0 at *
  obtain ⟨hA0, hP0, hZ0, hB0, hsz⟩ := hA
  have HR0 := Lib.hid (Hrow.out.below hB0 (Nat.le_refl _))
  clear p0 p1 p2 p3 p4
  obtain ⟨_, _, he, _, p0, p1, p2, p3, p4⟩ := span_cells HR0.out k hk
  injection he with he
  injection he with hx1 hx2
  subst hx1; subst hx2
  rw [hs] at p0 p1 p2 p3 p4
  obtain ⟨m0, m1, m2, m3, m4, m5, m6, m7, m8, m9, m10, mlt⟩ := map_cells hA0
  obtain ⟨n0, n1, n2, n3, n4, n5, n6, n7, nlt⟩ := plan_blk hP0
  have HA0 := Lib.hid hA0; have HP0 := Lib.hid hP0; have HZ0 := Lib.hid hZ0; have HB0 := Lib.hid hB0; have Hsz := Lib.hid hsz
  clear hA0 hP0 hZ0 hB0 hsz
  have hb0 : b < w0.heap.size := by have := HB0.out.size; omega
  go_upto_region 3 with fail
  change Code.wp _ _ _ _ ((w0.alloc s.blk).alloc (plan0 s p).blk)
  clear m0 m1 m2 m3 m4 m5 m6 m7 m8 m9 m10 mlt n0 n1 n2 n3 n4 n5 n6 n7 nlt p0 p1 p2 p3 p4
  have hA := blk_below (al2 (w := w0) s.blk (plan0 s p).blk) (lt_of_some HA0.out) HA0.out
  have hP := blk_below (al2 (w := w0) s.blk (plan0 s p).blk) (lt_of_some HP0.out) HP0.out
  have hZ := blk_below (al2 (w := w0) s.blk (plan0 s p).blk) (lt_of_some HZ0.out) HZ0.out
  have hS : ((w0.alloc s.blk).alloc (plan0 s p).blk).heap[w0.heap.size]? = some s.blk := (Below.heap_alloc _ _ _ (by simp)).trans (heap_alloc_new w0 _)
  have hQ : ((w0.alloc s.blk).alloc (plan0 s p).blk).heap[w0.heap.size + 1]? = some (plan0 s p).blk := heap_second _ _ _
  have hB := HB0.out.trans ((al2 (w := w0) s.blk (plan0 s p).blk).mono HB0.out.size)
  have hrow := HR0.out.below (al2 (w := w0) s.blk (plan0 s p).blk) HB0.out.size
  generalize (w0.alloc s.blk).alloc (plan0 s p).blk = w1 at *
  obtain ⟨m0, m1, m2, m3, m4, m5, m6, m7, m8, m9, m10, mlt⟩ := map_cells hA
  obtain ⟨n0, n1, n2, n3, n4, n5, n6, n7, nlt⟩ := plan_blk hP
  obtain ⟨s0, s1, s2, s3, s4, slt⟩ := span_blk hS
  obtain ⟨q0, q1, q2, q3, q4, q5, q6, q7, qlt⟩ := plan_blk hQ
  have f3 := fz_blk hQ 3; have f4 := fz_blk hQ 4; have f5 := fz_blk hQ 5; have f7 := fz_blk hQ 7
  simp only [plan0] at q0 q1 q2 q3 q4 q5 q6 q7
  have kd := Hkd.out
  have g0 := Hg0.out
  have g2 := Hg2.out
  have g3 := Hg3.out

  have HB := Lib.hid hB; have HZ := Lib.hid hZ; have HQ := Lib.hid hQ; have HA := Lib.hid hA; have HP := Lib.hid hP
  clear hA hP hZ hS hQ hB hrow
  go_upto_region 9 with fail
  have hsz := Hsz.out
  have hb1 := HB.out.size
  refine wp_region_lit ?_
  refine wpList_load24 rfl (.tmp 9) rfl (w0.heap.size + 1) rfl (p := (plan0 s p)) HQ.out ?_
  simp only [Act.put, List.setIfInBounds_toArray, List.set_cons_zero, List.set_cons_succ]
  refine wpList_store24 rfl (.tmp 6) (.tmp 73) rfl (w.heap.size + 1 + 1) rfl (p := (plan0 s p)) rfl HZ.out ?_
  intro w9 h9 ho9
  simp only [Act.put, List.setIfInBounds_toArray, List.set_cons_zero, List.set_cons_succ]
  go_wp2
  refine bodyPost_ret (results24 rfl _ _ (w.heap.size + 1 + 1) rfl h9) rfl ?_
  exact ⟨rfl, ho9.below HB.out (fun k hk => by omega) HB.out.size⟩
set_option maxRecDepth 100000 in
set_option maxHeartbeats 4000000 in
theorem plan_move3 (w : World) (A : Option Addr) (cap : Nat) (a : Atl) (k : Nat) (s : Span) (p : Plan) (hrow : RowAt w w.heap.size 5 A (a.sp.map Span.cells)) (hlen : a.sp.length ≤ 16) (hks : p.key.size ≤ 9223372036854775807)
    (hk : k < a.sp.length) (hs : a.sp[k] = s) (he1 : 1 ≤ s.ep) (he2 : s.ep ≤ 1099511627776) (hl1 : 1 ≤ a.last) (hl2 : a.last ≤ 1099511627776) (kd : p.kind = 1) (g0 : ¬ 1099511627774 < s.ep) (g2 : ¬ p.group < 1) (g3 : ¬ a.groups < p.group) (g4 : p.group = s.gr) :
    Calls Try.prog 42 #[a.val (.slice A a.sp.length cap), .int .i64 (k : Int), p.val] w fun e w' => e = .returned (.tuple #[(plan0 s p).val, .int .i64 1]) ∧ Below w.heap.size w w' := by
  obtain ⟨b, off, rfl, hb, p0, p1, p2, p3, p4⟩ := span_cells hrow k hk
  rw [hs] at p0 p1 p2 p3 p4
  have hk1 : (0 : Int) ≤ (k : Int) := by omega
  have hk2 : (k : Int) < (a.sp.length : Int) := by omega
  have hw1 : IntKind.i64.wrap ((k : Int) + 1) = (k : Int) + 1 := IntWalk.i64_in _ (by omega)
  have hw2 : IntKind.i64.wrap (a.last + 1) = a.last + 1 := IntWalk.i64_in _ (by omega)
  have hk3 : (0 : Int) ≤ (k : Int) + 1 := by omega
  have hk4 : ((k : Int) + 1).toNat = k + 1 := by omega
  have Hrow := Lib.hid hrow; clear hrow
  have Hkd := Lib.hid kd
  have Hg0 := Lib.hid g0
  have Hg2 := Lib.hid g2
  have Hg3 := Lib.hid g3
  have Hg4 := Lib.hid g4
  clear kd g0 g2 g3 g4
  go_enter Try.func42, Try.ntmps42
  go_upto_region 1 with fail
  have hA := al3_at w (a.blk (.slice (some ⟨b, off, none⟩) a.sp.length cap)) p.blk zeroP.blk
  change Code.wp _ _ _ _ (((w.alloc (a.blk (.slice (some ⟨b, off, none⟩) a.sp.length cap))).alloc p.blk).alloc zeroP.blk)
  generalize ((w.alloc (a.blk (.slice (some ⟨b, off, none⟩) a.sp.length cap))).alloc p.blk).alloc zeroP.blk = w0 at *
  obtain ⟨hA0, hP0, hZ0, hB0, hsz⟩ := hA
  have HR0 := Lib.hid (Hrow.out.below hB0 (Nat.le_refl _))
  clear p0 p1 p2 p3 p4
  obtain ⟨_, _, he, _, p0, p1, p2, p3, p4⟩ := span_cells HR0.out k hk
  injection he with he
  injection he with hx1 hx2
  subst hx1; subst hx2
  rw [hs] at p0 p1 p2 p3 p4
  obtain ⟨m0, m1, m2, m3, m4, m5, m6, m7, m8, m9, m10, mlt⟩ := map_cells hA0
  obtain ⟨n0, n1, n2, n3, n4, n5, n6, n7, nlt⟩ := plan_blk hP0
  have HA0 := Lib.hid hA0; have HP0 := Lib.hid hP0; have HZ0 := Lib.hid hZ0; have HB0 := Lib.hid hB0; have Hsz := Lib.hid hsz
  clear hA0 hP0 hZ0 hB0 hsz
  have hb0 : b < w0.heap.size := by have := HB0.out.size; omega
  go_upto_region 3 with fail
  change Code.wp _ _ _ _ ((w0.alloc s.blk).alloc (plan0 s p).blk)
  clear m0 m1 m2 m3 m4 m5 m6 m7 m8 m9 m10 mlt n0 n1 n2 n3 n4 n5 n6 n7 nlt p0 p1 p2 p3 p4
  have hA := blk_below (al2 (w := w0) s.blk (plan0 s p).blk) (lt_of_some HA0.out) HA0.out
  have hP := blk_below (al2 (w := w0) s.blk (plan0 s p).blk) (lt_of_some HP0.out) HP0.out
  have hZ := blk_below (al2 (w := w0) s.blk (plan0 s p).blk) (lt_of_some HZ0.out) HZ0.out
  have hS : ((w0.alloc s.blk).alloc (plan0 s p).blk).heap[w0.heap.size]? = some s.blk := (Below.heap_alloc _ _ _ (by simp)).trans (heap_alloc_new w0 _)
  have hQ : ((w0.alloc s.blk).alloc (plan0 s p).blk).heap[w0.heap.size + 1]? = some (plan0 s p).blk := heap_second _ _ _
  have hB := HB0.out.trans ((al2 (w := w0) s.blk (plan0 s p).blk).mono HB0.out.size)
  have hrow := HR0.out.below (al2 (w := w0) s.blk (plan0 s p).blk) HB0.out.size
  generalize (w0.alloc s.blk).alloc (plan0 s p).blk = w1 at *
  obtain ⟨m0, m1, m2, m3, m4, m5, m6, m7, m8, m9, m10, mlt⟩ := map_cells hA
  obtain ⟨n0, n1, n2, n3, n4, n5, n6, n7, nlt⟩ := plan_blk hP
  obtain ⟨s0, s1, s2, s3, s4, slt⟩ := span_blk hS
  obtain ⟨q0, q1, q2, q3, q4, q5, q6, q7, qlt⟩ := plan_blk hQ
  have f3 := fz_blk hQ 3; have f4 := fz_blk hQ 4; have f5 := fz_blk hQ 5; have f7 := fz_blk hQ 7
  simp only [plan0] at q0 q1 q2 q3 q4 q5 q6 q7
  have kd := Hkd.out
  have g0 := Hg0.out
  have g2 := Hg2.out
  have g3 := Hg3.out
  have g4 := Hg4.out

  have HB := Lib.hid hB; have HZ := Lib.hid hZ; have HQ := Lib.hid hQ; have HA := Lib.hid hA; have HP := Lib.hid hP
  clear hA hP hZ hS hQ hB hrow
  go_upto_region 9 with fail
  have hsz := Hsz.out
  have hb1 := HB.out.size
  refine wp_region_lit ?_
  refine wpList_load24 rfl (.tmp 9) rfl (w0.heap.size + 1) rfl (p := (plan0 s p)) HQ.out ?_
  simp only [Act.put, List.setIfInBounds_toArray, List.set_cons_zero, List.set_cons_succ]
  refine wpList_store24 rfl (.tmp 6) (.tmp 73) rfl (w.heap.size + 1 + 1) rfl (p := (plan0 s p)) rfl HZ.out ?_
  intro w9 h9 ho9
  simp only [Act.put, List.setIfInBounds_toArray, List.set_cons_zero, List.set_cons_succ]
  go_wp2
  refine bodyPost_ret (results24 rfl _ _ (w.heap.size + 1 + 1) rfl h9) rfl ?_
  exact ⟨rfl, ho9.below HB.out (fun k hk => by omega) HB.out.size⟩
set_option maxRecDepth 100000 in
set_option maxHeartbeats 4000000 in
theorem plan_move (w : World) (A : Option Addr) (cap : Nat) (a : Atl) (k : Nat) (s : Span) (p : Plan) (hrow : RowAt w w.heap.size 5 A (a.sp.map Span.cells)) (hlen : a.sp.length ≤ 16) (hks : p.key.size ≤ 9223372036854775807)
    (hk : k < a.sp.length) (hs : a.sp[k] = s) (he1 : 1 ≤ s.ep) (he2 : s.ep ≤ 1099511627776) (hl1 : 1 ≤ a.last) (hl2 : a.last ≤ 1099511627776) (kd : p.kind = 1) (g0 : ¬ 1099511627774 < s.ep) (g2 : ¬ p.group < 1) (g3 : ¬ a.groups < p.group) (g4 : ¬ p.group = s.gr) :
    Calls Try.prog 42 #[a.val (.slice A a.sp.length cap), .int .i64 (k : Int), p.val] w fun e w' => e = .returned (.tuple #[{ plan0 s p with group := p.group, past := s.gr }.val, .int .i64 0]) ∧ Below w.heap.size w w' := by
  obtain ⟨b, off, rfl, hb, p0, p1, p2, p3, p4⟩ := span_cells hrow k hk
  rw [hs] at p0 p1 p2 p3 p4
  have hk1 : (0 : Int) ≤ (k : Int) := by omega
  have hk2 : (k : Int) < (a.sp.length : Int) := by omega
  have hw1 : IntKind.i64.wrap ((k : Int) + 1) = (k : Int) + 1 := IntWalk.i64_in _ (by omega)
  have hw2 : IntKind.i64.wrap (a.last + 1) = a.last + 1 := IntWalk.i64_in _ (by omega)
  have hk3 : (0 : Int) ≤ (k : Int) + 1 := by omega
  have hk4 : ((k : Int) + 1).toNat = k + 1 := by omega
  have Hrow := Lib.hid hrow; clear hrow
  have Hkd := Lib.hid kd
  have Hg0 := Lib.hid g0
  have Hg2 := Lib.hid g2
  have Hg3 := Lib.hid g3
  have Hg4 := Lib.hid g4
  clear kd g0 g2 g3 g4
  go_enter Try.func42, Try.ntmps42
  go_upto_region 1 with fail
  have hA := al3_at w (a.blk (.slice (some ⟨b, off, none⟩) a.sp.length cap)) p.blk zeroP.blk
  change Code.wp _ _ _ _ (((w.alloc (a.blk (.slice (some ⟨b, off, none⟩) a.sp.length cap))).alloc p.blk).alloc zeroP.blk)
  generalize ((w.alloc (a.blk (.slice (some ⟨b, off, none⟩) a.sp.length cap))).alloc p.blk).alloc zeroP.blk = w0 at *
  obtain ⟨hA0, hP0, hZ0, hB0, hsz⟩ := hA
  have HR0 := Lib.hid (Hrow.out.below hB0 (Nat.le_refl _))
  clear p0 p1 p2 p3 p4
  obtain ⟨_, _, he, _, p0, p1, p2, p3, p4⟩ := span_cells HR0.out k hk
  injection he with he
  injection he with hx1 hx2
  subst hx1; subst hx2
  rw [hs] at p0 p1 p2 p3 p4
  obtain ⟨m0, m1, m2, m3, m4, m5, m6, m7, m8, m9, m10, mlt⟩ := map_cells hA0
  obtain ⟨n0, n1, n2, n3, n4, n5, n6, n7, nlt⟩ := plan_blk hP0
  have HA0 := Lib.hid hA0; have HP0 := Lib.hid hP0; have HZ0 := Lib.hid hZ0; have HB0 := Lib.hid hB0; have Hsz := Lib.hid hsz
  clear hA0 hP0 hZ0 hB0 hsz
  have hb0 : b < w0.heap.size := by have := HB0.out.size; omega
  go_upto_region 3 with fail
  change Code.wp _ _ _ _ ((w0.alloc s.blk).alloc (plan0 s p).blk)
  clear m0 m1 m2 m3 m4 m5 m6 m7 m8 m9 m10 mlt n0 n1 n2 n3 n4 n5 n6 n7 nlt p0 p1 p2 p3 p4
  have hA := blk_below (al2 (w := w0) s.blk (plan0 s p).blk) (lt_of_some HA0.out) HA0.out
  have hP := blk_below (al2 (w := w0) s.blk (plan0 s p).blk) (lt_of_some HP0.out) HP0.out
  have hZ := blk_below (al2 (w := w0) s.blk (plan0 s p).blk) (lt_of_some HZ0.out) HZ0.out
  have hS : ((w0.alloc s.blk).alloc (plan0 s p).blk).heap[w0.heap.size]? = some s.blk := (Below.heap_alloc _ _ _ (by simp)).trans (heap_alloc_new w0 _)
  have hQ : ((w0.alloc s.blk).alloc (plan0 s p).blk).heap[w0.heap.size + 1]? = some (plan0 s p).blk := heap_second _ _ _
  have hB := HB0.out.trans ((al2 (w := w0) s.blk (plan0 s p).blk).mono HB0.out.size)
  have hrow := HR0.out.below (al2 (w := w0) s.blk (plan0 s p).blk) HB0.out.size
  generalize (w0.alloc s.blk).alloc (plan0 s p).blk = w1 at *
  obtain ⟨m0, m1, m2, m3, m4, m5, m6, m7, m8, m9, m10, mlt⟩ := map_cells hA
  obtain ⟨n0, n1, n2, n3, n4, n5, n6, n7, nlt⟩ := plan_blk hP
  obtain ⟨s0, s1, s2, s3, s4, slt⟩ := span_blk hS
  obtain ⟨q0, q1, q2, q3, q4, q5, q6, q7, qlt⟩ := plan_blk hQ
  have f3 := fz_blk hQ 3; have f4 := fz_blk hQ 4; have f5 := fz_blk hQ 5; have f7 := fz_blk hQ 7
  simp only [plan0] at q0 q1 q2 q3 q4 q5 q6 q7
  have kd := Hkd.out
  have g0 := Hg0.out
  have g2 := Hg2.out
  have g3 := Hg3.out
  have g4 := Hg4.out

  have HB := Lib.hid hB; have HZ := Lib.hid hZ; have HQ := Lib.hid hQ; have HA := Lib.hid hA; have HP := Lib.hid hP
  clear hA hP hZ hS hQ hB hrow
  go_upto_region 10 with fail
  go_region
  go_upto_region 21 with fail
  have hq9 : (((w1.setCell ⟨w0.heap.size + 1, 4, none⟩ (.int .i64 p.group)).setCell ⟨w0.heap.size + 1, 5, none⟩ (.int .i64 s.gr))).drew.heap[w0.heap.size + 1]? = some (Plan.blk { plan0 s p with group := p.group, past := s.gr }) := by
    have := (heap_setCell_at (i := 5) (heap_setCell_at (i := 4) HQ.out (.int .i64 p.group)) (.int .i64 s.gr))
    refine (show _ = _ from this).trans ?_
    simp only [Plan.blk, plan0, List.setIfInBounds_toArray, List.set_cons_zero, List.set_cons_succ]
  have hsz := Hsz.out
  have hon : Only (· = w0.heap.size + 1) w1 (((w1.setCell ⟨w0.heap.size + 1, 4, none⟩ (.int .i64 p.group)).setCell ⟨w0.heap.size + 1, 5, none⟩ (.int .i64 s.gr))).drew := (((only_setCell w1 ⟨w0.heap.size + 1, 4, none⟩ (.int .i64 p.group)).trans (only_setCell _ ⟨w0.heap.size + 1, 5, none⟩ (.int .i64 s.gr)) (fun _ _ h => h)).trans (drewO _ _) (fun _ _ h => h))
  have hz9 := (hon.block _ (lt_of_some HZ.out) (by show ¬ _ = _; omega)).trans HZ.out
  have hb9 := hon.below HB.out (fun k hk => by have hk : k = _ := hk; omega) HB.out.size
  have HQ9 := Lib.hid hq9; have HZ9 := Lib.hid hz9; have HB9 := Lib.hid hb9
  clear hq9 hon hz9 hb9
  have hsz := Hsz.out
  have hb1 := HB9.out.size
  refine wp_region_lit ?_
  refine wpList_load24 rfl (.tmp 9) rfl (w0.heap.size + 1) rfl (p := { plan0 s p with group := p.group, past := s.gr }) HQ9.out ?_
  simp only [Act.put, List.setIfInBounds_toArray, List.set_cons_zero, List.set_cons_succ]
  refine wpList_store24 rfl (.tmp 6) (.tmp 131) rfl (w.heap.size + 1 + 1) rfl (p := { plan0 s p with group := p.group, past := s.gr }) rfl HZ9.out ?_
  intro w9 h9 ho9
  simp only [Act.put, List.setIfInBounds_toArray, List.set_cons_zero, List.set_cons_succ]
  go_wp2
  refine bodyPost_ret (results24 rfl _ _ (w.heap.size + 1 + 1) rfl h9) rfl ?_
  exact ⟨rfl, ho9.below HB9.out (fun k hk => by omega) HB9.out.size⟩
set_option maxRecDepth 100000 in
set_option maxHeartbeats 4000000 in
theorem plan_split1 (w : World) (A : Option Addr) (cap : Nat) (a : Atl) (k : Nat) (s : Span) (p : Plan) (hrow : RowAt w w.heap.size 5 A (a.sp.map Span.cells)) (hlen : a.sp.length ≤ 16) (hks : p.key.size ≤ 9223372036854775807)
    (hk : k < a.sp.length) (hs : a.sp[k] = s) (he1 : 1 ≤ s.ep) (he2 : s.ep ≤ 1099511627776) (hl1 : 1 ≤ a.last) (hl2 : a.last ≤ 1099511627776) (kd : p.kind = 2) (g0 : ¬ 1099511627774 < s.ep) (hi : inside s p.key = false) :
    Calls Try.prog 42 #[a.val (.slice A a.sp.length cap), .int .i64 (k : Int), p.val] w fun e w' => e = .returned (.tuple #[(plan0 s p).val, .int .i64 170]) ∧ Below w.heap.size w w' := by
  obtain ⟨b, off, rfl, hb, p0, p1, p2, p3, p4⟩ := span_cells hrow k hk
  rw [hs] at p0 p1 p2 p3 p4
  have hk1 : (0 : Int) ≤ (k : Int) := by omega
  have hk2 : (k : Int) < (a.sp.length : Int) := by omega
  have hw1 : IntKind.i64.wrap ((k : Int) + 1) = (k : Int) + 1 := IntWalk.i64_in _ (by omega)
  have hw2 : IntKind.i64.wrap (a.last + 1) = a.last + 1 := IntWalk.i64_in _ (by omega)
  have hk3 : (0 : Int) ≤ (k : Int) + 1 := by omega
  have hk4 : ((k : Int) + 1).toNat = k + 1 := by omega
  have Hrow := Lib.hid hrow; clear hrow
  have Hkd := Lib.hid kd
  have Hg0 := Lib.hid g0
  have Hhi := Lib.hid hi
  clear kd g0 hi
  go_enter Try.func42, Try.ntmps42
  go_upto_region 1 with fail
  have hA := al3_at w (a.blk (.slice (some ⟨b, off, none⟩) a.sp.length cap)) p.blk zeroP.blk
  change Code.wp _ _ _ _ (((w.alloc (a.blk (.slice (some ⟨b, off, none⟩) a.sp.length cap))).alloc p.blk).alloc zeroP.blk)
  generalize ((w.alloc (a.blk (.slice (some ⟨b, off, none⟩) a.sp.length cap))).alloc p.blk).alloc zeroP.blk = w0 at *
  obtain ⟨hA0, hP0, hZ0, hB0, hsz⟩ := hA
  have HR0 := Lib.hid (Hrow.out.below hB0 (Nat.le_refl _))
  clear p0 p1 p2 p3 p4
  obtain ⟨_, _, he, _, p0, p1, p2, p3, p4⟩ := span_cells HR0.out k hk
  injection he with he
  injection he with hx1 hx2
  subst hx1; subst hx2
  rw [hs] at p0 p1 p2 p3 p4
  obtain ⟨m0, m1, m2, m3, m4, m5, m6, m7, m8, m9, m10, mlt⟩ := map_cells hA0
  obtain ⟨n0, n1, n2, n3, n4, n5, n6, n7, nlt⟩ := plan_blk hP0
  have HA0 := Lib.hid hA0; have HP0 := Lib.hid hP0; have HZ0 := Lib.hid hZ0; have HB0 := Lib.hid hB0; have Hsz := Lib.hid hsz
  clear hA0 hP0 hZ0 hB0 hsz
  have hb0 : b < w0.heap.size := by have := HB0.out.size; omega
  go_upto_region 3 with fail
  change Code.wp _ _ _ _ ((w0.alloc s.blk).alloc (plan0 s p).blk)
  clear m0 m1 m2 m3 m4 m5 m6 m7 m8 m9 m10 mlt n0 n1 n2 n3 n4 n5 n6 n7 nlt p0 p1 p2 p3 p4
  have hA := blk_below (al2 (w := w0) s.blk (plan0 s p).blk) (lt_of_some HA0.out) HA0.out
  have hP := blk_below (al2 (w := w0) s.blk (plan0 s p).blk) (lt_of_some HP0.out) HP0.out
  have hZ := blk_below (al2 (w := w0) s.blk (plan0 s p).blk) (lt_of_some HZ0.out) HZ0.out
  have hS : ((w0.alloc s.blk).alloc (plan0 s p).blk).heap[w0.heap.size]? = some s.blk := (Below.heap_alloc _ _ _ (by simp)).trans (heap_alloc_new w0 _)
  have hQ : ((w0.alloc s.blk).alloc (plan0 s p).blk).heap[w0.heap.size + 1]? = some (plan0 s p).blk := heap_second _ _ _
  have hB := HB0.out.trans ((al2 (w := w0) s.blk (plan0 s p).blk).mono HB0.out.size)
  have hrow := HR0.out.below (al2 (w := w0) s.blk (plan0 s p).blk) HB0.out.size
  generalize (w0.alloc s.blk).alloc (plan0 s p).blk = w1 at *
  obtain ⟨m0, m1, m2, m3, m4, m5, m6, m7, m8, m9, m10, mlt⟩ := map_cells hA
  obtain ⟨n0, n1, n2, n3, n4, n5, n6, n7, nlt⟩ := plan_blk hP
  obtain ⟨s0, s1, s2, s3, s4, slt⟩ := span_blk hS
  obtain ⟨q0, q1, q2, q3, q4, q5, q6, q7, qlt⟩ := plan_blk hQ
  have f3 := fz_blk hQ 3; have f4 := fz_blk hQ 4; have f5 := fz_blk hQ 5; have f7 := fz_blk hQ 7
  simp only [plan0] at q0 q1 q2 q3 q4 q5 q6 q7
  have kd := Hkd.out
  have g0 := Hg0.out
  have hi := Hhi.out

  have HB := Lib.hid hB; have HZ := Lib.hid hZ; have HQ := Lib.hid hQ; have HA := Lib.hid hA; have HP := Lib.hid hP
  clear hA hP hZ hS hQ hB hrow
  go_upto_region 13 with (first
    | (go_at_call 66
       refine (inside_raw _ _ _ _ _ _ _ _ s rfl rfl hi hks).mono ?_
       rintro e w2 ⟨rfl, hb2⟩
       have hA2 := blk_below hb2 (lt_of_some HA.out) HA.out
       have hQ2 := blk_below hb2 (lt_of_some HQ.out) HQ.out
       have hP2 := blk_below hb2 (lt_of_some HP.out) HP.out
       have HZ2 := Lib.hid (blk_below hb2 (lt_of_some HZ.out) HZ.out)
       have HB2 := Lib.hid (HB.out.trans (hb2.mono HB.out.size))
       obtain ⟨x0, x1, x2, x3, x4, x5, x6, x7, x8, x9, x10, xlt⟩ := map_cells hA2
       obtain ⟨y0, y1, y2, y3, y4, y5, y6, y7, ylt⟩ := plan_blk hP2
       obtain ⟨r0, r1, r2, r3, r4, r5, r6, r7, rlt⟩ := plan_blk hQ2
       have f23 := fz_blk hQ2 3; have f27 := fz_blk hQ2 7
       have HQ2 := Lib.hid hQ2
       clear hb2 hA2 hQ2 hP2))
  have hsz := Hsz.out
  have hb1 := HB2.out.size
  refine wp_region_lit ?_
  refine wpList_load24 rfl (.tmp 9) rfl (w0.heap.size + 1) rfl (p := (plan0 s p)) HQ2.out ?_
  simp only [Act.put, List.setIfInBounds_toArray, List.set_cons_zero, List.set_cons_succ]
  refine wpList_store24 rfl (.tmp 6) (.tmp 87) rfl (w.heap.size + 1 + 1) rfl (p := (plan0 s p)) rfl HZ2.out ?_
  intro w9 h9 ho9
  simp only [Act.put, List.setIfInBounds_toArray, List.set_cons_zero, List.set_cons_succ]
  go_wp2
  refine bodyPost_ret (results24 rfl _ _ (w.heap.size + 1 + 1) rfl h9) rfl ?_
  exact ⟨rfl, ho9.below HB2.out (fun k hk => by omega) HB2.out.size⟩
set_option maxRecDepth 100000 in
set_option maxHeartbeats 4000000 in
theorem plan_split2 (w : World) (A : Option Addr) (cap : Nat) (a : Atl) (k : Nat) (s : Span) (p : Plan) (hrow : RowAt w w.heap.size 5 A (a.sp.map Span.cells)) (hlen : a.sp.length ≤ 16) (hks : p.key.size ≤ 9223372036854775807)
    (hk : k < a.sp.length) (hs : a.sp[k] = s) (he1 : 1 ≤ s.ep) (he2 : s.ep ≤ 1099511627776) (hl1 : 1 ≤ a.last) (hl2 : a.last ≤ 1099511627776) (kd : p.kind = 2) (g0 : ¬ 1099511627774 < s.ep) (hi : inside s p.key = true) (g2 : (16 : Int) ≤ (a.sp.length : Int)) :
    Calls Try.prog 42 #[a.val (.slice A a.sp.length cap), .int .i64 (k : Int), p.val] w fun e w' => e = .returned (.tuple #[(plan0 s p).val, .int .i64 3]) ∧ Below w.heap.size w w' := by
  obtain ⟨b, off, rfl, hb, p0, p1, p2, p3, p4⟩ := span_cells hrow k hk
  rw [hs] at p0 p1 p2 p3 p4
  have hk1 : (0 : Int) ≤ (k : Int) := by omega
  have hk2 : (k : Int) < (a.sp.length : Int) := by omega
  have hw1 : IntKind.i64.wrap ((k : Int) + 1) = (k : Int) + 1 := IntWalk.i64_in _ (by omega)
  have hw2 : IntKind.i64.wrap (a.last + 1) = a.last + 1 := IntWalk.i64_in _ (by omega)
  have hk3 : (0 : Int) ≤ (k : Int) + 1 := by omega
  have hk4 : ((k : Int) + 1).toNat = k + 1 := by omega
  have Hrow := Lib.hid hrow; clear hrow
  have Hkd := Lib.hid kd
  have Hg0 := Lib.hid g0
  have Hhi := Lib.hid hi
  have Hg2 := Lib.hid g2
  clear kd g0 hi g2
  go_enter Try.func42, Try.ntmps42
  go_upto_region 1 with fail
  have hA := al3_at w (a.blk (.slice (some ⟨b, off, none⟩) a.sp.length cap)) p.blk zeroP.blk
  change Code.wp _ _ _ _ (((w.alloc (a.blk (.slice (some ⟨b, off, none⟩) a.sp.length cap))).alloc p.blk).alloc zeroP.blk)
  generalize ((w.alloc (a.blk (.slice (some ⟨b, off, none⟩) a.sp.length cap))).alloc p.blk).alloc zeroP.blk = w0 at *
  obtain ⟨hA0, hP0, hZ0, hB0, hsz⟩ := hA
  have HR0 := Lib.hid (Hrow.out.below hB0 (Nat.le_refl _))
  clear p0 p1 p2 p3 p4
  obtain ⟨_, _, he, _, p0, p1, p2, p3, p4⟩ := span_cells HR0.out k hk
  injection he with he
  injection he with hx1 hx2
  subst hx1; subst hx2
  rw [hs] at p0 p1 p2 p3 p4
  obtain ⟨m0, m1, m2, m3, m4, m5, m6, m7, m8, m9, m10, mlt⟩ := map_cells hA0
  obtain ⟨n0, n1, n2, n3, n4, n5, n6, n7, nlt⟩ := plan_blk hP0
  have HA0 := Lib.hid hA0; have HP0 := Lib.hid hP0; have HZ0 := Lib.hid hZ0; have HB0 := Lib.hid hB0; have Hsz := Lib.hid hsz
  clear hA0 hP0 hZ0 hB0 hsz
  have hb0 : b < w0.heap.size := by have := HB0.out.size; omega
  go_upto_region 3 with fail
  change Code.wp _ _ _ _ ((w0.alloc s.blk).alloc (plan0 s p).blk)
  clear m0 m1 m2 m3 m4 m5 m6 m7 m8 m9 m10 mlt n0 n1 n2 n3 n4 n5 n6 n7 nlt p0 p1 p2 p3 p4
  have hA := blk_below (al2 (w := w0) s.blk (plan0 s p).blk) (lt_of_some HA0.out) HA0.out
  have hP := blk_below (al2 (w := w0) s.blk (plan0 s p).blk) (lt_of_some HP0.out) HP0.out
  have hZ := blk_below (al2 (w := w0) s.blk (plan0 s p).blk) (lt_of_some HZ0.out) HZ0.out
  have hS : ((w0.alloc s.blk).alloc (plan0 s p).blk).heap[w0.heap.size]? = some s.blk := (Below.heap_alloc _ _ _ (by simp)).trans (heap_alloc_new w0 _)
  have hQ : ((w0.alloc s.blk).alloc (plan0 s p).blk).heap[w0.heap.size + 1]? = some (plan0 s p).blk := heap_second _ _ _
  have hB := HB0.out.trans ((al2 (w := w0) s.blk (plan0 s p).blk).mono HB0.out.size)
  have hrow := HR0.out.below (al2 (w := w0) s.blk (plan0 s p).blk) HB0.out.size
  generalize (w0.alloc s.blk).alloc (plan0 s p).blk = w1 at *
  obtain ⟨m0, m1, m2, m3, m4, m5, m6, m7, m8, m9, m10, mlt⟩ := map_cells hA
  obtain ⟨n0, n1, n2, n3, n4, n5, n6, n7, nlt⟩ := plan_blk hP
  obtain ⟨s0, s1, s2, s3, s4, slt⟩ := span_blk hS
  obtain ⟨q0, q1, q2, q3, q4, q5, q6, q7, qlt⟩ := plan_blk hQ
  have f3 := fz_blk hQ 3; have f4 := fz_blk hQ 4; have f5 := fz_blk hQ 5; have f7 := fz_blk hQ 7
  simp only [plan0] at q0 q1 q2 q3 q4 q5 q6 q7
  have kd := Hkd.out
  have g0 := Hg0.out
  have hi := Hhi.out
  have g2 := Hg2.out

  have HB := Lib.hid hB; have HZ := Lib.hid hZ; have HQ := Lib.hid hQ; have HA := Lib.hid hA; have HP := Lib.hid hP
  clear hA hP hZ hS hQ hB hrow
  go_upto_region 15 with (first
    | (go_at_call 66
       refine (inside_raw _ _ _ _ _ _ _ _ s rfl rfl hi hks).mono ?_
       rintro e w2 ⟨rfl, hb2⟩
       have hA2 := blk_below hb2 (lt_of_some HA.out) HA.out
       have hQ2 := blk_below hb2 (lt_of_some HQ.out) HQ.out
       have hP2 := blk_below hb2 (lt_of_some HP.out) HP.out
       have HZ2 := Lib.hid (blk_below hb2 (lt_of_some HZ.out) HZ.out)
       have HB2 := Lib.hid (HB.out.trans (hb2.mono HB.out.size))
       obtain ⟨x0, x1, x2, x3, x4, x5, x6, x7, x8, x9, x10, xlt⟩ := map_cells hA2
       obtain ⟨y0, y1, y2, y3, y4, y5, y6, y7, ylt⟩ := plan_blk hP2
       obtain ⟨r0, r1, r2, r3, r4, r5, r6, r7, rlt⟩ := plan_blk hQ2
       have f23 := fz_blk hQ2 3; have f27 := fz_blk hQ2 7
       have HQ2 := Lib.hid hQ2
       clear hb2 hA2 hQ2 hP2))
  have hsz := Hsz.out
  have hb1 := HB2.out.size
  refine wp_region_lit ?_
  refine wpList_load24 rfl (.tmp 9) rfl (w0.heap.size + 1) rfl (p := (plan0 s p)) HQ2.out ?_
  simp only [Act.put, List.setIfInBounds_toArray, List.set_cons_zero, List.set_cons_succ]
  refine wpList_store24 rfl (.tmp 6) (.tmp 97) rfl (w.heap.size + 1 + 1) rfl (p := (plan0 s p)) rfl HZ2.out ?_
  intro w9 h9 ho9
  simp only [Act.put, List.setIfInBounds_toArray, List.set_cons_zero, List.set_cons_succ]
  go_wp2
  refine bodyPost_ret (results24 rfl _ _ (w.heap.size + 1 + 1) rfl h9) rfl ?_
  exact ⟨rfl, ho9.below HB2.out (fun k hk => by omega) HB2.out.size⟩
set_option maxRecDepth 100000 in
set_option maxHeartbeats 4000000 in
theorem plan_split3 (w : World) (A : Option Addr) (cap : Nat) (a : Atl) (k : Nat) (s : Span) (p : Plan) (hrow : RowAt w w.heap.size 5 A (a.sp.map Span.cells)) (hlen : a.sp.length ≤ 16) (hks : p.key.size ≤ 9223372036854775807)
    (hk : k < a.sp.length) (hs : a.sp[k] = s) (he1 : 1 ≤ s.ep) (he2 : s.ep ≤ 1099511627776) (hl1 : 1 ≤ a.last) (hl2 : a.last ≤ 1099511627776) (kd : p.kind = 2) (g0 : ¬ 1099511627774 < s.ep) (hi : inside s p.key = true) (g2 : ¬ (16 : Int) ≤ (a.sp.length : Int)) (g3 : 1099511627776 ≤ a.last) :
    Calls Try.prog 42 #[a.val (.slice A a.sp.length cap), .int .i64 (k : Int), p.val] w fun e w' => e = .returned (.tuple #[(plan0 s p).val, .int .i64 3]) ∧ Below w.heap.size w w' := by
  obtain ⟨b, off, rfl, hb, p0, p1, p2, p3, p4⟩ := span_cells hrow k hk
  rw [hs] at p0 p1 p2 p3 p4
  have hk1 : (0 : Int) ≤ (k : Int) := by omega
  have hk2 : (k : Int) < (a.sp.length : Int) := by omega
  have hw1 : IntKind.i64.wrap ((k : Int) + 1) = (k : Int) + 1 := IntWalk.i64_in _ (by omega)
  have hw2 : IntKind.i64.wrap (a.last + 1) = a.last + 1 := IntWalk.i64_in _ (by omega)
  have hk3 : (0 : Int) ≤ (k : Int) + 1 := by omega
  have hk4 : ((k : Int) + 1).toNat = k + 1 := by omega
  have Hrow := Lib.hid hrow; clear hrow
  have Hkd := Lib.hid kd
  have Hg0 := Lib.hid g0
  have Hhi := Lib.hid hi
  have Hg2 := Lib.hid g2
  have Hg3 := Lib.hid g3
  clear kd g0 hi g2 g3
  go_enter Try.func42, Try.ntmps42
  go_upto_region 1 with fail
  have hA := al3_at w (a.blk (.slice (some ⟨b, off, none⟩) a.sp.length cap)) p.blk zeroP.blk
  change Code.wp _ _ _ _ (((w.alloc (a.blk (.slice (some ⟨b, off, none⟩) a.sp.length cap))).alloc p.blk).alloc zeroP.blk)
  generalize ((w.alloc (a.blk (.slice (some ⟨b, off, none⟩) a.sp.length cap))).alloc p.blk).alloc zeroP.blk = w0 at *
  obtain ⟨hA0, hP0, hZ0, hB0, hsz⟩ := hA
  have HR0 := Lib.hid (Hrow.out.below hB0 (Nat.le_refl _))
  clear p0 p1 p2 p3 p4
  obtain ⟨_, _, he, _, p0, p1, p2, p3, p4⟩ := span_cells HR0.out k hk
  injection he with he
  injection he with hx1 hx2
  subst hx1; subst hx2
  rw [hs] at p0 p1 p2 p3 p4
  obtain ⟨m0, m1, m2, m3, m4, m5, m6, m7, m8, m9, m10, mlt⟩ := map_cells hA0
  obtain ⟨n0, n1, n2, n3, n4, n5, n6, n7, nlt⟩ := plan_blk hP0
  have HA0 := Lib.hid hA0; have HP0 := Lib.hid hP0; have HZ0 := Lib.hid hZ0; have HB0 := Lib.hid hB0; have Hsz := Lib.hid hsz
  clear hA0 hP0 hZ0 hB0 hsz
  have hb0 : b < w0.heap.size := by have := HB0.out.size; omega
  go_upto_region 3 with fail
  change Code.wp _ _ _ _ ((w0.alloc s.blk).alloc (plan0 s p).blk)
  clear m0 m1 m2 m3 m4 m5 m6 m7 m8 m9 m10 mlt n0 n1 n2 n3 n4 n5 n6 n7 nlt p0 p1 p2 p3 p4
  have hA := blk_below (al2 (w := w0) s.blk (plan0 s p).blk) (lt_of_some HA0.out) HA0.out
  have hP := blk_below (al2 (w := w0) s.blk (plan0 s p).blk) (lt_of_some HP0.out) HP0.out
  have hZ := blk_below (al2 (w := w0) s.blk (plan0 s p).blk) (lt_of_some HZ0.out) HZ0.out
  have hS : ((w0.alloc s.blk).alloc (plan0 s p).blk).heap[w0.heap.size]? = some s.blk := (Below.heap_alloc _ _ _ (by simp)).trans (heap_alloc_new w0 _)
  have hQ : ((w0.alloc s.blk).alloc (plan0 s p).blk).heap[w0.heap.size + 1]? = some (plan0 s p).blk := heap_second _ _ _
  have hB := HB0.out.trans ((al2 (w := w0) s.blk (plan0 s p).blk).mono HB0.out.size)
  have hrow := HR0.out.below (al2 (w := w0) s.blk (plan0 s p).blk) HB0.out.size
  generalize (w0.alloc s.blk).alloc (plan0 s p).blk = w1 at *
  obtain ⟨m0, m1, m2, m3, m4, m5, m6, m7, m8, m9, m10, mlt⟩ := map_cells hA
  obtain ⟨n0, n1, n2, n3, n4, n5, n6, n7, nlt⟩ := plan_blk hP
  obtain ⟨s0, s1, s2, s3, s4, slt⟩ := span_blk hS
  obtain ⟨q0, q1, q2, q3, q4, q5, q6, q7, qlt⟩ := plan_blk hQ
  have f3 := fz_blk hQ 3; have f4 := fz_blk hQ 4; have f5 := fz_blk hQ 5; have f7 := fz_blk hQ 7
  simp only [plan0] at q0 q1 q2 q3 q4 q5 q6 q7
  have kd := Hkd.out
  have g0 := Hg0.out
  have hi := Hhi.out
  have g2 := Hg2.out
  have g3 := Hg3.out

  have HB := Lib.hid hB; have HZ := Lib.hid hZ; have HQ := Lib.hid hQ; have HA := Lib.hid hA; have HP := Lib.hid hP
  clear hA hP hZ hS hQ hB hrow
  go_upto_region 15 with (first
    | (go_at_call 66
       refine (inside_raw _ _ _ _ _ _ _ _ s rfl rfl hi hks).mono ?_
       rintro e w2 ⟨rfl, hb2⟩
       have hA2 := blk_below hb2 (lt_of_some HA.out) HA.out
       have hQ2 := blk_below hb2 (lt_of_some HQ.out) HQ.out
       have hP2 := blk_below hb2 (lt_of_some HP.out) HP.out
       have HZ2 := Lib.hid (blk_below hb2 (lt_of_some HZ.out) HZ.out)
       have HB2 := Lib.hid (HB.out.trans (hb2.mono HB.out.size))
       obtain ⟨x0, x1, x2, x3, x4, x5, x6, x7, x8, x9, x10, xlt⟩ := map_cells hA2
       obtain ⟨y0, y1, y2, y3, y4, y5, y6, y7, ylt⟩ := plan_blk hP2
       obtain ⟨r0, r1, r2, r3, r4, r5, r6, r7, rlt⟩ := plan_blk hQ2
       have f23 := fz_blk hQ2 3; have f27 := fz_blk hQ2 7
       have HQ2 := Lib.hid hQ2
       clear hb2 hA2 hQ2 hP2))
  have hsz := Hsz.out
  have hb1 := HB2.out.size
  refine wp_region_lit ?_
  refine wpList_load24 rfl (.tmp 9) rfl (w0.heap.size + 1) rfl (p := (plan0 s p)) HQ2.out ?_
  simp only [Act.put, List.setIfInBounds_toArray, List.set_cons_zero, List.set_cons_succ]
  refine wpList_store24 rfl (.tmp 6) (.tmp 97) rfl (w.heap.size + 1 + 1) rfl (p := (plan0 s p)) rfl HZ2.out ?_
  intro w9 h9 ho9
  simp only [Act.put, List.setIfInBounds_toArray, List.set_cons_zero, List.set_cons_succ]
  go_wp2
  refine bodyPost_ret (results24 rfl _ _ (w.heap.size + 1 + 1) rfl h9) rfl ?_
  exact ⟨rfl, ho9.below HB2.out (fun k hk => by omega) HB2.out.size⟩
set_option maxRecDepth 100000 in
set_option maxHeartbeats 4000000 in
theorem plan_split (w : World) (A : Option Addr) (cap : Nat) (a : Atl) (k : Nat) (s : Span) (p : Plan) (hrow : RowAt w w.heap.size 5 A (a.sp.map Span.cells)) (hlen : a.sp.length ≤ 16) (hks : p.key.size ≤ 9223372036854775807)
    (hk : k < a.sp.length) (hs : a.sp[k] = s) (he1 : 1 ≤ s.ep) (he2 : s.ep ≤ 1099511627776) (hl1 : 1 ≤ a.last) (hl2 : a.last ≤ 1099511627776) (kd : p.kind = 2) (g0 : ¬ 1099511627774 < s.ep) (hi : inside s p.key = true) (g2 : ¬ (16 : Int) ≤ (a.sp.length : Int)) (g3 : ¬ 1099511627776 ≤ a.last) :
    Calls Try.prog 42 #[a.val (.slice A a.sp.length cap), .int .i64 (k : Int), p.val] w fun e w' => e = .returned (.tuple #[{ plan0 s p with key := p.key, other := a.last + 1 }.val, .int .i64 0]) ∧ Below w.heap.size w w' := by
  obtain ⟨b, off, rfl, hb, p0, p1, p2, p3, p4⟩ := span_cells hrow k hk
  rw [hs] at p0 p1 p2 p3 p4
  have hk1 : (0 : Int) ≤ (k : Int) := by omega
  have hk2 : (k : Int) < (a.sp.length : Int) := by omega
  have hw1 : IntKind.i64.wrap ((k : Int) + 1) = (k : Int) + 1 := IntWalk.i64_in _ (by omega)
  have hw2 : IntKind.i64.wrap (a.last + 1) = a.last + 1 := IntWalk.i64_in _ (by omega)
  have hk3 : (0 : Int) ≤ (k : Int) + 1 := by omega
  have hk4 : ((k : Int) + 1).toNat = k + 1 := by omega
  have Hrow := Lib.hid hrow; clear hrow
  have Hkd := Lib.hid kd
  have Hg0 := Lib.hid g0
  have Hhi := Lib.hid hi
  have Hg2 := Lib.hid g2
  have Hg3 := Lib.hid g3
  clear kd g0 hi g2 g3
  go_enter Try.func42, Try.ntmps42
  go_upto_region 1 with fail
  have hA := al3_at w (a.blk (.slice (some ⟨b, off, none⟩) a.sp.length cap)) p.blk zeroP.blk
  change Code.wp _ _ _ _ (((w.alloc (a.blk (.slice (some ⟨b, off, none⟩) a.sp.length cap))).alloc p.blk).alloc zeroP.blk)
  generalize ((w.alloc (a.blk (.slice (some ⟨b, off, none⟩) a.sp.length cap))).alloc p.blk).alloc zeroP.blk = w0 at *
  obtain ⟨hA0, hP0, hZ0, hB0, hsz⟩ := hA
  have HR0 := Lib.hid (Hrow.out.below hB0 (Nat.le_refl _))
  clear p0 p1 p2 p3 p4
  obtain ⟨_, _, he, _, p0, p1, p2, p3, p4⟩ := span_cells HR0.out k hk
  injection he with he
  injection he with hx1 hx2
  subst hx1; subst hx2
  rw [hs] at p0 p1 p2 p3 p4
  obtain ⟨m0, m1, m2, m3, m4, m5, m6, m7, m8, m9, m10, mlt⟩ := map_cells hA0
  obtain ⟨n0, n1, n2, n3, n4, n5, n6, n7, nlt⟩ := plan_blk hP0
  have HA0 := Lib.hid hA0; have HP0 := Lib.hid hP0; have HZ0 := Lib.hid hZ0; have HB0 := Lib.hid hB0; have Hsz := Lib.hid hsz
  clear hA0 hP0 hZ0 hB0 hsz
  have hb0 : b < w0.heap.size := by have := HB0.out.size; omega
  go_upto_region 3 with fail
  change Code.wp _ _ _ _ ((w0.alloc s.blk).alloc (plan0 s p).blk)
  clear m0 m1 m2 m3 m4 m5 m6 m7 m8 m9 m10 mlt n0 n1 n2 n3 n4 n5 n6 n7 nlt p0 p1 p2 p3 p4
  have hA := blk_below (al2 (w := w0) s.blk (plan0 s p).blk) (lt_of_some HA0.out) HA0.out
  have hP := blk_below (al2 (w := w0) s.blk (plan0 s p).blk) (lt_of_some HP0.out) HP0.out
  have hZ := blk_below (al2 (w := w0) s.blk (plan0 s p).blk) (lt_of_some HZ0.out) HZ0.out
  have hS : ((w0.alloc s.blk).alloc (plan0 s p).blk).heap[w0.heap.size]? = some s.blk := (Below.heap_alloc _ _ _ (by simp)).trans (heap_alloc_new w0 _)
  have hQ : ((w0.alloc s.blk).alloc (plan0 s p).blk).heap[w0.heap.size + 1]? = some (plan0 s p).blk := heap_second _ _ _
  have hB := HB0.out.trans ((al2 (w := w0) s.blk (plan0 s p).blk).mono HB0.out.size)
  have hrow := HR0.out.below (al2 (w := w0) s.blk (plan0 s p).blk) HB0.out.size
  generalize (w0.alloc s.blk).alloc (plan0 s p).blk = w1 at *
  obtain ⟨m0, m1, m2, m3, m4, m5, m6, m7, m8, m9, m10, mlt⟩ := map_cells hA
  obtain ⟨n0, n1, n2, n3, n4, n5, n6, n7, nlt⟩ := plan_blk hP
  obtain ⟨s0, s1, s2, s3, s4, slt⟩ := span_blk hS
  obtain ⟨q0, q1, q2, q3, q4, q5, q6, q7, qlt⟩ := plan_blk hQ
  have f3 := fz_blk hQ 3; have f4 := fz_blk hQ 4; have f5 := fz_blk hQ 5; have f7 := fz_blk hQ 7
  simp only [plan0] at q0 q1 q2 q3 q4 q5 q6 q7
  have kd := Hkd.out
  have g0 := Hg0.out
  have hi := Hhi.out
  have g2 := Hg2.out
  have g3 := Hg3.out

  have HB := Lib.hid hB; have HZ := Lib.hid hZ; have HQ := Lib.hid hQ; have HA := Lib.hid hA; have HP := Lib.hid hP
  clear hA hP hZ hS hQ hB hrow
  go_upto_region 16 with (first
    | (go_at_call 66
       refine (inside_raw _ _ _ _ _ _ _ _ s rfl rfl hi hks).mono ?_
       rintro e w2 ⟨rfl, hb2⟩
       have hA2 := blk_below hb2 (lt_of_some HA.out) HA.out
       have hQ2 := blk_below hb2 (lt_of_some HQ.out) HQ.out
       have hP2 := blk_below hb2 (lt_of_some HP.out) HP.out
       have HZ2 := Lib.hid (blk_below hb2 (lt_of_some HZ.out) HZ.out)
       have HB2 := Lib.hid (HB.out.trans (hb2.mono HB.out.size))
       obtain ⟨x0, x1, x2, x3, x4, x5, x6, x7, x8, x9, x10, xlt⟩ := map_cells hA2
       obtain ⟨y0, y1, y2, y3, y4, y5, y6, y7, ylt⟩ := plan_blk hP2
       obtain ⟨r0, r1, r2, r3, r4, r5, r6, r7, rlt⟩ := plan_blk hQ2
       have f23 := fz_blk hQ2 3; have f27 := fz_blk hQ2 7
       have HQ2 := Lib.hid hQ2
       clear hb2 hA2 hQ2 hP2))
  go_region
  go_upto_region 21 with fail
  have hq9 : (((w2.setCell ⟨w0.heap.size + 1, 7, none⟩ (.string p.key)).setCell ⟨w0.heap.size + 1, 3, none⟩ (.int .i64 (a.last + 1)))).drew.heap[w0.heap.size + 1]? = some (Plan.blk { plan0 s p with key := p.key, other := a.last + 1 }) := by
    have := (heap_setCell_at (i := 3) (heap_setCell_at (i := 7) HQ2.out (.string p.key)) (.int .i64 (a.last + 1)))
    refine (show _ = _ from this).trans ?_
    simp only [Plan.blk, plan0, List.setIfInBounds_toArray, List.set_cons_zero, List.set_cons_succ]
  have hsz := Hsz.out
  have hon : Only (· = w0.heap.size + 1) w2 (((w2.setCell ⟨w0.heap.size + 1, 7, none⟩ (.string p.key)).setCell ⟨w0.heap.size + 1, 3, none⟩ (.int .i64 (a.last + 1)))).drew := (((only_setCell w2 ⟨w0.heap.size + 1, 7, none⟩ (.string p.key)).trans (only_setCell _ ⟨w0.heap.size + 1, 3, none⟩ (.int .i64 (a.last + 1))) (fun _ _ h => h)).trans (drewO _ _) (fun _ _ h => h))
  have hz9 := (hon.block _ (lt_of_some HZ2.out) (by show ¬ _ = _; omega)).trans HZ2.out
  have hb9 := hon.below HB2.out (fun k hk => by have hk : k = _ := hk; omega) HB2.out.size
  have HQ9 := Lib.hid hq9; have HZ9 := Lib.hid hz9; have HB9 := Lib.hid hb9
  clear hq9 hon hz9 hb9
  have hsz := Hsz.out
  have hb1 := HB9.out.size
  refine wp_region_lit ?_
  refine wpList_load24 rfl (.tmp 9) rfl (w0.heap.size + 1) rfl (p := { plan0 s p with key := p.key, other := a.last + 1 }) HQ9.out ?_
  simp only [Act.put, List.setIfInBounds_toArray, List.set_cons_zero, List.set_cons_succ]
  refine wpList_store24 rfl (.tmp 6) (.tmp 131) rfl (w.heap.size + 1 + 1) rfl (p := { plan0 s p with key := p.key, other := a.last + 1 }) rfl HZ9.out ?_
  intro w9 h9 ho9
  simp only [Act.put, List.setIfInBounds_toArray, List.set_cons_zero, List.set_cons_succ]
  go_wp2
  refine bodyPost_ret (results24 rfl _ _ (w.heap.size + 1 + 1) rfl h9) rfl ?_
  exact ⟨rfl, ho9.below HB9.out (fun k hk => by omega) HB9.out.size⟩
set_option maxRecDepth 100000 in
set_option maxHeartbeats 4000000 in
theorem plan_merge1 (w : World) (A : Option Addr) (cap : Nat) (a : Atl) (k : Nat) (s : Span) (p : Plan) (hrow : RowAt w w.heap.size 5 A (a.sp.map Span.cells)) (hlen : a.sp.length ≤ 16) (hks : p.key.size ≤ 9223372036854775807)
    (hk : k < a.sp.length) (hs : a.sp[k] = s) (he1 : 1 ≤ s.ep) (he2 : s.ep ≤ 1099511627776) (hl1 : 1 ≤ a.last) (hl2 : a.last ≤ 1099511627776) (kd : p.kind = 3) (g0 : ¬ 1099511627774 < s.ep) (hl : (k : Int) + 1 = (a.sp.length : Int)) (hl2' : ((k : Int) + 1 == (a.sp.length : Int)) = true) (hl3' : ¬ (k : Int) + 1 < (a.sp.length : Int)) :
    Calls Try.prog 42 #[a.val (.slice A a.sp.length cap), .int .i64 (k : Int), p.val] w fun e w' => e = .returned (.tuple #[(plan0 s p).val, .int .i64 170]) ∧ Below w.heap.size w w' := by
  obtain ⟨b, off, rfl, hb, p0, p1, p2, p3, p4⟩ := span_cells hrow k hk
  rw [hs] at p0 p1 p2 p3 p4
  have hk1 : (0 : Int) ≤ (k : Int) := by omega
  have hk2 : (k : Int) < (a.sp.length : Int) := by omega
  have hw1 : IntKind.i64.wrap ((k : Int) + 1) = (k : Int) + 1 := IntWalk.i64_in _ (by omega)
  have hw2 : IntKind.i64.wrap (a.last + 1) = a.last + 1 := IntWalk.i64_in _ (by omega)
  have hk3 : (0 : Int) ≤ (k : Int) + 1 := by omega
  have hk4 : ((k : Int) + 1).toNat = k + 1 := by omega
  have Hrow := Lib.hid hrow; clear hrow
  have Hkd := Lib.hid kd
  have Hg0 := Lib.hid g0
  have Hhl := Lib.hid hl
  have Hhl2' := Lib.hid hl2'
  have Hhl3' := Lib.hid hl3'
  clear kd g0 hl hl2' hl3'
  go_enter Try.func42, Try.ntmps42
  go_upto_region 1 with fail
  have hA := al3_at w (a.blk (.slice (some ⟨b, off, none⟩) a.sp.length cap)) p.blk zeroP.blk
  change Code.wp _ _ _ _ (((w.alloc (a.blk (.slice (some ⟨b, off, none⟩) a.sp.length cap))).alloc p.blk).alloc zeroP.blk)
  generalize ((w.alloc (a.blk (.slice (some ⟨b, off, none⟩) a.sp.length cap))).alloc p.blk).alloc zeroP.blk = w0 at *
  obtain ⟨hA0, hP0, hZ0, hB0, hsz⟩ := hA
  have HR0 := Lib.hid (Hrow.out.below hB0 (Nat.le_refl _))
  clear p0 p1 p2 p3 p4
  obtain ⟨_, _, he, _, p0, p1, p2, p3, p4⟩ := span_cells HR0.out k hk
  injection he with he
  injection he with hx1 hx2
  subst hx1; subst hx2
  rw [hs] at p0 p1 p2 p3 p4
  obtain ⟨m0, m1, m2, m3, m4, m5, m6, m7, m8, m9, m10, mlt⟩ := map_cells hA0
  obtain ⟨n0, n1, n2, n3, n4, n5, n6, n7, nlt⟩ := plan_blk hP0
  have HA0 := Lib.hid hA0; have HP0 := Lib.hid hP0; have HZ0 := Lib.hid hZ0; have HB0 := Lib.hid hB0; have Hsz := Lib.hid hsz
  clear hA0 hP0 hZ0 hB0 hsz
  have hb0 : b < w0.heap.size := by have := HB0.out.size; omega
  go_upto_region 3 with fail
  change Code.wp _ _ _ _ ((w0.alloc s.blk).alloc (plan0 s p).blk)
  clear m0 m1 m2 m3 m4 m5 m6 m7 m8 m9 m10 mlt n0 n1 n2 n3 n4 n5 n6 n7 nlt p0 p1 p2 p3 p4
  have hA := blk_below (al2 (w := w0) s.blk (plan0 s p).blk) (lt_of_some HA0.out) HA0.out
  have hP := blk_below (al2 (w := w0) s.blk (plan0 s p).blk) (lt_of_some HP0.out) HP0.out
  have hZ := blk_below (al2 (w := w0) s.blk (plan0 s p).blk) (lt_of_some HZ0.out) HZ0.out
  have hS : ((w0.alloc s.blk).alloc (plan0 s p).blk).heap[w0.heap.size]? = some s.blk := (Below.heap_alloc _ _ _ (by simp)).trans (heap_alloc_new w0 _)
  have hQ : ((w0.alloc s.blk).alloc (plan0 s p).blk).heap[w0.heap.size + 1]? = some (plan0 s p).blk := heap_second _ _ _
  have hB := HB0.out.trans ((al2 (w := w0) s.blk (plan0 s p).blk).mono HB0.out.size)
  have hrow := HR0.out.below (al2 (w := w0) s.blk (plan0 s p).blk) HB0.out.size
  generalize (w0.alloc s.blk).alloc (plan0 s p).blk = w1 at *
  obtain ⟨m0, m1, m2, m3, m4, m5, m6, m7, m8, m9, m10, mlt⟩ := map_cells hA
  obtain ⟨n0, n1, n2, n3, n4, n5, n6, n7, nlt⟩ := plan_blk hP
  obtain ⟨s0, s1, s2, s3, s4, slt⟩ := span_blk hS
  obtain ⟨q0, q1, q2, q3, q4, q5, q6, q7, qlt⟩ := plan_blk hQ
  have f3 := fz_blk hQ 3; have f4 := fz_blk hQ 4; have f5 := fz_blk hQ 5; have f7 := fz_blk hQ 7
  simp only [plan0] at q0 q1 q2 q3 q4 q5 q6 q7
  have kd := Hkd.out
  have g0 := Hg0.out
  have hl := Hhl.out
  have hl2' := Hhl2'.out
  have hl3' := Hhl3'.out

  have HB := Lib.hid hB; have HZ := Lib.hid hZ; have HQ := Lib.hid hQ; have HA := Lib.hid hA; have HP := Lib.hid hP
  clear hA hP hZ hS hQ hB hrow
  go_upto_region 18 with fail
  go_quiet (fail)
  have hbn : Below w.heap.size w (w1.drewN nq) := HB.out.trans ⟨rfl, rfl, rfl, Nat.le_refl _, fun _ _ => rfl⟩
  have HBn := Lib.hid hbn; clear hbn
  go_upto_region 19 with fail
  have hsz := Hsz.out
  have hb1 := HBn.out.size
  refine wp_region_lit ?_
  refine wpList_load24 rfl (.tmp 9) rfl (w0.heap.size + 1) rfl (p := (plan0 s p)) HQ.out ?_
  simp only [Act.put, List.setIfInBounds_toArray, List.set_cons_zero, List.set_cons_succ]
  refine wpList_store24 rfl (.tmp 6) (.tmp 123) rfl (w.heap.size + 1 + 1) rfl (p := (plan0 s p)) rfl HZ.out ?_
  intro w9 h9 ho9
  simp only [Act.put, List.setIfInBounds_toArray, List.set_cons_zero, List.set_cons_succ]
  go_wp2
  refine bodyPost_ret (results24 rfl _ _ (w.heap.size + 1 + 1) rfl h9) rfl ?_
  exact ⟨rfl, ho9.below HBn.out (fun k hk => by omega) HBn.out.size⟩
set_option maxRecDepth 100000 in
set_option maxHeartbeats 4000000 in
theorem plan_merge2 (w : World) (A : Option Addr) (cap : Nat) (a : Atl) (k : Nat) (s : Span) (p : Plan) (hrow : RowAt w w.heap.size 5 A (a.sp.map Span.cells)) (hlen : a.sp.length ≤ 16) (hks : p.key.size ≤ 9223372036854775807)
    (hk : k < a.sp.length) (hs : a.sp[k] = s) (he1 : 1 ≤ s.ep) (he2 : s.ep ≤ 1099511627776) (hl1 : 1 ≤ a.last) (hl2 : a.last ≤ 1099511627776) (hk5 : k + 1 < a.sp.length) (u : Span) (hu : a.sp[k+1] = u) (kd : p.kind = 3) (g0 : ¬ 1099511627774 < s.ep) (g1 : ¬ 1099511627774 < u.ep) (g5 : ((k : Int) + 1 == (a.sp.length : Int)) = false) (g6 : ¬ (k : Int) + 1 = (a.sp.length : Int)) (g4 : ¬ u.gr = s.gr) (g7 : (u.gr == s.gr) = false) :
    Calls Try.prog 42 #[a.val (.slice A a.sp.length cap), .int .i64 (k : Int), p.val] w fun e w' => e = .returned (.tuple #[(plan0 s p).val, .int .i64 170]) ∧ Below w.heap.size w w' := by
  obtain ⟨b, off, rfl, hb, p0, p1, p2, p3, p4⟩ := span_cells hrow k hk
  rw [hs] at p0 p1 p2 p3 p4
  have hk1 : (0 : Int) ≤ (k : Int) := by omega
  have hk2 : (k : Int) < (a.sp.length : Int) := by omega
  have hw1 : IntKind.i64.wrap ((k : Int) + 1) = (k : Int) + 1 := IntWalk.i64_in _ (by omega)
  have hw2 : IntKind.i64.wrap (a.last + 1) = a.last + 1 := IntWalk.i64_in _ (by omega)
  have hk3 : (0 : Int) ≤ (k : Int) + 1 := by omega
  have hk4 : ((k : Int) + 1).toNat = k + 1 := by omega
  have Hrow := Lib.hid hrow; clear hrow
  have Hkd := Lib.hid kd
  have Hg0 := Lib.hid g0
  have Hg1 := Lib.hid g1
  have Hg5 := Lib.hid g5
  have Hg6 := Lib.hid g6
  have Hg4 := Lib.hid g4
  have Hg7 := Lib.hid g7
  clear kd g0 g1 g5 g6 g4 g7
  go_enter Try.func42, Try.ntmps42
  go_upto_region 1 with fail
  have hA := al3_at w (a.blk (.slice (some ⟨b, off, none⟩) a.sp.length cap)) p.blk zeroP.blk
  change Code.wp _ _ _ _ (((w.alloc (a.blk (.slice (some ⟨b, off, none⟩) a.sp.length cap))).alloc p.blk).alloc zeroP.blk)
  generalize ((w.alloc (a.blk (.slice (some ⟨b, off, none⟩) a.sp.length cap))).alloc p.blk).alloc zeroP.blk = w0 at *
  obtain ⟨hA0, hP0, hZ0, hB0, hsz⟩ := hA
  have HR0 := Lib.hid (Hrow.out.below hB0 (Nat.le_refl _))
  clear p0 p1 p2 p3 p4
  obtain ⟨_, _, he, _, p0, p1, p2, p3, p4⟩ := span_cells HR0.out k hk
  injection he with he
  injection he with hx1 hx2
  subst hx1; subst hx2
  rw [hs] at p0 p1 p2 p3 p4
  obtain ⟨m0, m1, m2, m3, m4, m5, m6, m7, m8, m9, m10, mlt⟩ := map_cells hA0
  obtain ⟨n0, n1, n2, n3, n4, n5, n6, n7, nlt⟩ := plan_blk hP0
  have HA0 := Lib.hid hA0; have HP0 := Lib.hid hP0; have HZ0 := Lib.hid hZ0; have HB0 := Lib.hid hB0; have Hsz := Lib.hid hsz
  clear hA0 hP0 hZ0 hB0 hsz
  have hb0 : b < w0.heap.size := by have := HB0.out.size; omega
  go_upto_region 3 with fail
  change Code.wp _ _ _ _ ((w0.alloc s.blk).alloc (plan0 s p).blk)
  clear m0 m1 m2 m3 m4 m5 m6 m7 m8 m9 m10 mlt n0 n1 n2 n3 n4 n5 n6 n7 nlt p0 p1 p2 p3 p4
  have hA := blk_below (al2 (w := w0) s.blk (plan0 s p).blk) (lt_of_some HA0.out) HA0.out
  have hP := blk_below (al2 (w := w0) s.blk (plan0 s p).blk) (lt_of_some HP0.out) HP0.out
  have hZ := blk_below (al2 (w := w0) s.blk (plan0 s p).blk) (lt_of_some HZ0.out) HZ0.out
  have hS : ((w0.alloc s.blk).alloc (plan0 s p).blk).heap[w0.heap.size]? = some s.blk := (Below.heap_alloc _ _ _ (by simp)).trans (heap_alloc_new w0 _)
  have hQ : ((w0.alloc s.blk).alloc (plan0 s p).blk).heap[w0.heap.size + 1]? = some (plan0 s p).blk := heap_second _ _ _
  have hB := HB0.out.trans ((al2 (w := w0) s.blk (plan0 s p).blk).mono HB0.out.size)
  have hrow := HR0.out.below (al2 (w := w0) s.blk (plan0 s p).blk) HB0.out.size
  generalize (w0.alloc s.blk).alloc (plan0 s p).blk = w1 at *
  obtain ⟨m0, m1, m2, m3, m4, m5, m6, m7, m8, m9, m10, mlt⟩ := map_cells hA
  obtain ⟨n0, n1, n2, n3, n4, n5, n6, n7, nlt⟩ := plan_blk hP
  obtain ⟨s0, s1, s2, s3, s4, slt⟩ := span_blk hS
  obtain ⟨q0, q1, q2, q3, q4, q5, q6, q7, qlt⟩ := plan_blk hQ
  have f3 := fz_blk hQ 3; have f4 := fz_blk hQ 4; have f5 := fz_blk hQ 5; have f7 := fz_blk hQ 7
  simp only [plan0] at q0 q1 q2 q3 q4 q5 q6 q7
  obtain ⟨_, _, he, blt, v0, v1, v2, v3, v4⟩ := span_cells hrow (k + 1) hk5
  injection he with he
  injection he with hx1 hx2
  subst hx1; subst hx2
  rw [hu] at v0 v1 v2 v3 v4
  have hk6 : (k : Int) + 1 < (a.sp.length : Int) := by omega
  have kd := Hkd.out
  have g0 := Hg0.out
  have g1 := Hg1.out
  have g5 := Hg5.out
  have g6 := Hg6.out
  have g4 := Hg4.out
  have g7 := Hg7.out

  have HB := Lib.hid hB; have HZ := Lib.hid hZ; have HQ := Lib.hid hQ; have HA := Lib.hid hA; have HP := Lib.hid hP
  clear hA hP hZ hS hQ hB hrow
  go_upto_region 18 with fail
  go_quiet (fail)
  have hbn : Below w.heap.size w (w1.drewN nq) := HB.out.trans ⟨rfl, rfl, rfl, Nat.le_refl _, fun _ _ => rfl⟩
  have HBn := Lib.hid hbn; clear hbn
  go_upto_region 19 with fail
  have hsz := Hsz.out
  have hb1 := HBn.out.size
  refine wp_region_lit ?_
  refine wpList_load24 rfl (.tmp 9) rfl (w0.heap.size + 1) rfl (p := (plan0 s p)) HQ.out ?_
  simp only [Act.put, List.setIfInBounds_toArray, List.set_cons_zero, List.set_cons_succ]
  refine wpList_store24 rfl (.tmp 6) (.tmp 123) rfl (w.heap.size + 1 + 1) rfl (p := (plan0 s p)) rfl HZ.out ?_
  intro w9 h9 ho9
  simp only [Act.put, List.setIfInBounds_toArray, List.set_cons_zero, List.set_cons_succ]
  go_wp2
  refine bodyPost_ret (results24 rfl _ _ (w.heap.size + 1 + 1) rfl h9) rfl ?_
  exact ⟨rfl, ho9.below HBn.out (fun k hk => by omega) HBn.out.size⟩
set_option maxRecDepth 100000 in
set_option maxHeartbeats 4000000 in
theorem plan_merge (w : World) (A : Option Addr) (cap : Nat) (a : Atl) (k : Nat) (s : Span) (p : Plan) (hrow : RowAt w w.heap.size 5 A (a.sp.map Span.cells)) (hlen : a.sp.length ≤ 16) (hks : p.key.size ≤ 9223372036854775807)
    (hk : k < a.sp.length) (hs : a.sp[k] = s) (he1 : 1 ≤ s.ep) (he2 : s.ep ≤ 1099511627776) (hl1 : 1 ≤ a.last) (hl2 : a.last ≤ 1099511627776) (hk5 : k + 1 < a.sp.length) (u : Span) (hu : a.sp[k+1] = u) (kd : p.kind = 3) (g0 : ¬ 1099511627774 < s.ep) (g1 : ¬ 1099511627774 < u.ep) (g5 : ((k : Int) + 1 == (a.sp.length : Int)) = false) (g6 : ¬ (k : Int) + 1 = (a.sp.length : Int)) (g4 : u.gr = s.gr) (g7 : (u.gr == s.gr) = true) :
    Calls Try.prog 42 #[a.val (.slice A a.sp.length cap), .int .i64 (k : Int), p.val] w fun e w' => e = .returned (.tuple #[{ plan0 s p with other := u.sh }.val, .int .i64 0]) ∧ Below w.heap.size w w' := by
  obtain ⟨b, off, rfl, hb, p0, p1, p2, p3, p4⟩ := span_cells hrow k hk
  rw [hs] at p0 p1 p2 p3 p4
  have hk1 : (0 : Int) ≤ (k : Int) := by omega
  have hk2 : (k : Int) < (a.sp.length : Int) := by omega
  have hw1 : IntKind.i64.wrap ((k : Int) + 1) = (k : Int) + 1 := IntWalk.i64_in _ (by omega)
  have hw2 : IntKind.i64.wrap (a.last + 1) = a.last + 1 := IntWalk.i64_in _ (by omega)
  have hk3 : (0 : Int) ≤ (k : Int) + 1 := by omega
  have hk4 : ((k : Int) + 1).toNat = k + 1 := by omega
  have Hrow := Lib.hid hrow; clear hrow
  have Hkd := Lib.hid kd
  have Hg0 := Lib.hid g0
  have Hg1 := Lib.hid g1
  have Hg5 := Lib.hid g5
  have Hg6 := Lib.hid g6
  have Hg4 := Lib.hid g4
  have Hg7 := Lib.hid g7
  clear kd g0 g1 g5 g6 g4 g7
  go_enter Try.func42, Try.ntmps42
  go_upto_region 1 with fail
  have hA := al3_at w (a.blk (.slice (some ⟨b, off, none⟩) a.sp.length cap)) p.blk zeroP.blk
  change Code.wp _ _ _ _ (((w.alloc (a.blk (.slice (some ⟨b, off, none⟩) a.sp.length cap))).alloc p.blk).alloc zeroP.blk)
  generalize ((w.alloc (a.blk (.slice (some ⟨b, off, none⟩) a.sp.length cap))).alloc p.blk).alloc zeroP.blk = w0 at *
  obtain ⟨hA0, hP0, hZ0, hB0, hsz⟩ := hA
  have HR0 := Lib.hid (Hrow.out.below hB0 (Nat.le_refl _))
  clear p0 p1 p2 p3 p4
  obtain ⟨_, _, he, _, p0, p1, p2, p3, p4⟩ := span_cells HR0.out k hk
  injection he with he
  injection he with hx1 hx2
  subst hx1; subst hx2
  rw [hs] at p0 p1 p2 p3 p4
  obtain ⟨m0, m1, m2, m3, m4, m5, m6, m7, m8, m9, m10, mlt⟩ := map_cells hA0
  obtain ⟨n0, n1, n2, n3, n4, n5, n6, n7, nlt⟩ := plan_blk hP0
  have HA0 := Lib.hid hA0; have HP0 := Lib.hid hP0; have HZ0 := Lib.hid hZ0; have HB0 := Lib.hid hB0; have Hsz := Lib.hid hsz
  clear hA0 hP0 hZ0 hB0 hsz
  have hb0 : b < w0.heap.size := by have := HB0.out.size; omega
  go_upto_region 3 with fail
  change Code.wp _ _ _ _ ((w0.alloc s.blk).alloc (plan0 s p).blk)
  clear m0 m1 m2 m3 m4 m5 m6 m7 m8 m9 m10 mlt n0 n1 n2 n3 n4 n5 n6 n7 nlt p0 p1 p2 p3 p4
  have hA := blk_below (al2 (w := w0) s.blk (plan0 s p).blk) (lt_of_some HA0.out) HA0.out
  have hP := blk_below (al2 (w := w0) s.blk (plan0 s p).blk) (lt_of_some HP0.out) HP0.out
  have hZ := blk_below (al2 (w := w0) s.blk (plan0 s p).blk) (lt_of_some HZ0.out) HZ0.out
  have hS : ((w0.alloc s.blk).alloc (plan0 s p).blk).heap[w0.heap.size]? = some s.blk := (Below.heap_alloc _ _ _ (by simp)).trans (heap_alloc_new w0 _)
  have hQ : ((w0.alloc s.blk).alloc (plan0 s p).blk).heap[w0.heap.size + 1]? = some (plan0 s p).blk := heap_second _ _ _
  have hB := HB0.out.trans ((al2 (w := w0) s.blk (plan0 s p).blk).mono HB0.out.size)
  have hrow := HR0.out.below (al2 (w := w0) s.blk (plan0 s p).blk) HB0.out.size
  generalize (w0.alloc s.blk).alloc (plan0 s p).blk = w1 at *
  obtain ⟨m0, m1, m2, m3, m4, m5, m6, m7, m8, m9, m10, mlt⟩ := map_cells hA
  obtain ⟨n0, n1, n2, n3, n4, n5, n6, n7, nlt⟩ := plan_blk hP
  obtain ⟨s0, s1, s2, s3, s4, slt⟩ := span_blk hS
  obtain ⟨q0, q1, q2, q3, q4, q5, q6, q7, qlt⟩ := plan_blk hQ
  have f3 := fz_blk hQ 3; have f4 := fz_blk hQ 4; have f5 := fz_blk hQ 5; have f7 := fz_blk hQ 7
  simp only [plan0] at q0 q1 q2 q3 q4 q5 q6 q7
  obtain ⟨_, _, he, blt, v0, v1, v2, v3, v4⟩ := span_cells hrow (k + 1) hk5
  injection he with he
  injection he with hx1 hx2
  subst hx1; subst hx2
  rw [hu] at v0 v1 v2 v3 v4
  have hk6 : (k : Int) + 1 < (a.sp.length : Int) := by omega
  have kd := Hkd.out
  have g0 := Hg0.out
  have g1 := Hg1.out
  have g5 := Hg5.out
  have g6 := Hg6.out
  have g4 := Hg4.out
  have g7 := Hg7.out

  have HB := Lib.hid hB; have HZ := Lib.hid hZ; have HQ := Lib.hid hQ; have HA := Lib.hid hA; have HP := Lib.hid hP
  clear hA hP hZ hS hQ hB hrow
  go_upto_region 18 with fail
  go_quiet (fail)
  have hbn : Below w.heap.size w (w1.drewN nq) := HB.out.trans ⟨rfl, rfl, rfl, Nat.le_refl _, fun _ _ => rfl⟩
  have HBn := Lib.hid hbn; clear hbn
  go_upto_region 21 with fail
  have hq9 : ((w1.drewN nq).setCell ⟨w0.heap.size + 1, 3, none⟩ (.int .i64 u.sh)).heap[w0.heap.size + 1]? = some (Plan.blk { plan0 s p with other := u.sh }) := by
    have := (heap_setCell_at (i := 3) HQ.out (.int .i64 u.sh))
    refine (show _ = _ from this).trans ?_
    simp only [Plan.blk, plan0, List.setIfInBounds_toArray, List.set_cons_zero, List.set_cons_succ]
  have hsz := Hsz.out
  have hon : Only (· = w0.heap.size + 1) (w1.drewN nq) ((w1.drewN nq).setCell ⟨w0.heap.size + 1, 3, none⟩ (.int .i64 u.sh)) := (only_setCell (w1.drewN nq) ⟨w0.heap.size + 1, 3, none⟩ (.int .i64 u.sh))
  have hz9 := (hon.block _ (lt_of_some HZ.out) (by show ¬ _ = _; omega)).trans HZ.out
  have hb9 := hon.below HBn.out (fun k hk => by have hk : k = _ := hk; omega) HBn.out.size
  have HQ9 := Lib.hid hq9; have HZ9 := Lib.hid hz9; have HB9 := Lib.hid hb9
  clear hq9 hon hz9 hb9
  have hsz := Hsz.out
  have hb1 := HB9.out.size
  refine wp_region_lit ?_
  refine wpList_load24 rfl (.tmp 9) rfl (w0.heap.size + 1) rfl (p := { plan0 s p with other := u.sh }) HQ9.out ?_
  simp only [Act.put, List.setIfInBounds_toArray, List.set_cons_zero, List.set_cons_succ]
  refine wpList_store24 rfl (.tmp 6) (.tmp 131) rfl (w.heap.size + 1 + 1) rfl (p := { plan0 s p with other := u.sh }) rfl HZ9.out ?_
  intro w9 h9 ho9
  simp only [Act.put, List.setIfInBounds_toArray, List.set_cons_zero, List.set_cons_succ]
  go_wp2
  refine bodyPost_ret (results24 rfl _ _ (w.heap.size + 1 + 1) rfl h9) rfl ?_
  exact ⟨rfl, ho9.below HB9.out (fun k hk => by omega) HB9.out.size⟩
end Go.Proofs.Ytimondpollbdfaa
