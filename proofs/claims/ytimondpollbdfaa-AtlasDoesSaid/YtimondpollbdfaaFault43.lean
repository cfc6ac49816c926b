/- What is proved: what is wrong with a plan that is asked for: the document's fault, case by case. -/
import Derived.Test.YtimondpollbdfaaPlan42
set_option linter.unusedVariables false
set_option linter.unusedSimpArgs false
namespace Go.Proofs.Ytimondpollbdfaa
open Go.RowKit
attribute [local go_sem] Span.val Atl.val Plan.val

set_option maxRecDepth 100000 in
set_option maxHeartbeats 4000000 in
theorem fault_busy (w : World) (A : Option Addr) (cap : Nat) (a : Atl) (p : Plan) (hrow : RowAt w w.heap.size 5 A (a.sp.map Span.cells)) (hlen : a.sp.length ≤ 16) (hks : p.key.size ≤ 9223372036854775807)
    (b0 : ¬ a.plan.kind = 0) :
    Calls Try.prog 43 #[a.val (.slice A a.sp.length cap), p.val] w fun e w' => e = .returned (.int .i64 180) ∧ Below w.heap.size w w' := by
  clear hrow
  have Hb0 := Lib.hid b0
  clear b0
  go_enter Try.func43, Try.ntmps43
  go_upto_region 1 with fail
  have hA : ((w.alloc (a.blk (.slice A a.sp.length cap))).alloc p.blk).heap[w.heap.size]? = some (a.blk (.slice A a.sp.length cap)) := (Below.heap_alloc _ _ _ (by simp)).trans (heap_alloc_new w _)
  have hP : ((w.alloc (a.blk (.slice A a.sp.length cap))).alloc p.blk).heap[w.heap.size + 1]? = some p.blk := heap_second _ _ _
  have hB : Below w.heap.size w ((w.alloc (a.blk (.slice A a.sp.length cap))).alloc p.blk) := al2 _ _
  change Code.wp _ _ _ _ ((w.alloc (a.blk (.slice A a.sp.length cap))).alloc p.blk)
  generalize (w.alloc (a.blk (.slice A a.sp.length cap))).alloc p.blk = w0 at *
  obtain ⟨m0, m1, m2, m3, m4, m5, m6, m7, m8, m9, m10, mlt⟩ := map_cells hA
  obtain ⟨n0, n1, n2, n3, n4, n5, n6, n7, nlt⟩ := plan_blk hP
  have HA := Lib.hid hA; have HP := Lib.hid hP; have HB := Lib.hid hB
  clear hA hP hB
  have b0 := Hb0.out
  go_wp2_with fail
  go_ret
  exact ⟨rfl, HB.out⟩
set_option maxRecDepth 100000 in
set_option maxHeartbeats 4000000 in
theorem fault_kind1 (w : World) (A : Option Addr) (cap : Nat) (a : Atl) (p : Plan) (hrow : RowAt w w.heap.size 5 A (a.sp.map Span.cells)) (hlen : a.sp.length ≤ 16) (hks : p.key.size ≤ 9223372036854775807)
    (b0 : a.plan.kind = 0) (b1 : p.kind < 1) :
    Calls Try.prog 43 #[a.val (.slice A a.sp.length cap), p.val] w fun e w' => e = .returned (.int .i64 1) ∧ Below w.heap.size w w' := by
  clear hrow
  have Hb0 := Lib.hid b0
  have Hb1 := Lib.hid b1
  clear b0 b1
  go_enter Try.func43, Try.ntmps43
  go_upto_region 1 with fail
  have hA : ((w.alloc (a.blk (.slice A a.sp.length cap))).alloc p.blk).heap[w.heap.size]? = some (a.blk (.slice A a.sp.length cap)) := (Below.heap_alloc _ _ _ (by simp)).trans (heap_alloc_new w _)
  have hP : ((w.alloc (a.blk (.slice A a.sp.length cap))).alloc p.blk).heap[w.heap.size + 1]? = some p.blk := heap_second _ _ _
  have hB : Below w.heap.size w ((w.alloc (a.blk (.slice A a.sp.length cap))).alloc p.blk) := al2 _ _
  change Code.wp _ _ _ _ ((w.alloc (a.blk (.slice A a.sp.length cap))).alloc p.blk)
  generalize (w.alloc (a.blk (.slice A a.sp.length cap))).alloc p.blk = w0 at *
  obtain ⟨m0, m1, m2, m3, m4, m5, m6, m7, m8, m9, m10, mlt⟩ := map_cells hA
  obtain ⟨n0, n1, n2, n3, n4, n5, n6, n7, nlt⟩ := plan_blk hP
  have HA := Lib.hid hA; have HP := Lib.hid hP; have HB := Lib.hid hB
  clear hA hP hB
  have b0 := Hb0.out
  have b1 := Hb1.out
  go_wp2_with fail
  go_ret
  exact ⟨rfl, HB.out⟩
set_option maxRecDepth 100000 in
set_option maxHeartbeats 4000000 in
theorem fault_kind2 (w : World) (A : Option Addr) (cap : Nat) (a : Atl) (p : Plan) (hrow : RowAt w w.heap.size 5 A (a.sp.map Span.cells)) (hlen : a.sp.length ≤ 16) (hks : p.key.size ≤ 9223372036854775807)
    (b0 : a.plan.kind = 0) (b1 : ¬ p.kind < 1) (b2 : 3 < p.kind) :
    Calls Try.prog 43 #[a.val (.slice A a.sp.length cap), p.val] w fun e w' => e = .returned (.int .i64 1) ∧ Below w.heap.size w w' := by
  clear hrow
  have Hb0 := Lib.hid b0
  have Hb1 := Lib.hid b1
  have Hb2 := Lib.hid b2
  clear b0 b1 b2
  go_enter Try.func43, Try.ntmps43
  go_upto_region 1 with fail
  have hA : ((w.alloc (a.blk (.slice A a.sp.length cap))).alloc p.blk).heap[w.heap.size]? = some (a.blk (.slice A a.sp.length cap)) := (Below.heap_alloc _ _ _ (by simp)).trans (heap_alloc_new w _)
  have hP : ((w.alloc (a.blk (.slice A a.sp.length cap))).alloc p.blk).heap[w.heap.size + 1]? = some p.blk := heap_second _ _ _
  have hB : Below w.heap.size w ((w.alloc (a.blk (.slice A a.sp.length cap))).alloc p.blk) := al2 _ _
  change Code.wp _ _ _ _ ((w.alloc (a.blk (.slice A a.sp.length cap))).alloc p.blk)
  generalize (w.alloc (a.blk (.slice A a.sp.length cap))).alloc p.blk = w0 at *
  obtain ⟨m0, m1, m2, m3, m4, m5, m6, m7, m8, m9, m10, mlt⟩ := map_cells hA
  obtain ⟨n0, n1, n2, n3, n4, n5, n6, n7, nlt⟩ := plan_blk hP
  have HA := Lib.hid hA; have HP := Lib.hid hP; have HB := Lib.hid hB
  clear hA hP hB
  have b0 := Hb0.out
  have b1 := Hb1.out
  have b2 := Hb2.out
  go_wp2_with fail
  go_ret
  exact ⟨rfl, HB.out⟩
set_option maxRecDepth 100000 in
set_option maxHeartbeats 4000000 in
theorem fault_none (w : World) (A : Option Addr) (cap : Nat) (a : Atl) (p : Plan) (hrow : RowAt w w.heap.size 5 A (a.sp.map Span.cells)) (hlen : a.sp.length ≤ 16) (hks : p.key.size ≤ 9223372036854775807)
    (b0 : a.plan.kind = 0) (b1 : ¬ p.kind < 1) (b2 : ¬ 3 < p.kind) (hp : place a.sp p.shard = -1) :
    Calls Try.prog 43 #[a.val (.slice A a.sp.length cap), p.val] w fun e w' => e = .returned (.int .i64 172) ∧ Below w.heap.size w w' := by
  have Hrow := Lib.hid hrow; have Hp := Lib.hid hp; clear hrow hp
  have Hb0 := Lib.hid b0
  have Hb1 := Lib.hid b1
  have Hb2 := Lib.hid b2
  clear b0 b1 b2
  go_enter Try.func43, Try.ntmps43
  go_upto_region 1 with fail
  have hA : ((w.alloc (a.blk (.slice A a.sp.length cap))).alloc p.blk).heap[w.heap.size]? = some (a.blk (.slice A a.sp.length cap)) := (Below.heap_alloc _ _ _ (by simp)).trans (heap_alloc_new w _)
  have hP : ((w.alloc (a.blk (.slice A a.sp.length cap))).alloc p.blk).heap[w.heap.size + 1]? = some p.blk := heap_second _ _ _
  have hB : Below w.heap.size w ((w.alloc (a.blk (.slice A a.sp.length cap))).alloc p.blk) := al2 _ _
  change Code.wp _ _ _ _ ((w.alloc (a.blk (.slice A a.sp.length cap))).alloc p.blk)
  generalize (w.alloc (a.blk (.slice A a.sp.length cap))).alloc p.blk = w0 at *
  obtain ⟨m0, m1, m2, m3, m4, m5, m6, m7, m8, m9, m10, mlt⟩ := map_cells hA
  obtain ⟨n0, n1, n2, n3, n4, n5, n6, n7, nlt⟩ := plan_blk hP
  have HA := Lib.hid hA; have HP := Lib.hid hP; have HB := Lib.hid hB
  clear hA hP hB
  have b0 := Hb0.out
  have b1 := Hb1.out
  have b2 := Hb2.out
  go_wp2_with (first
    | (go_at_call 32
       refine (rPlace_raw _ A cap a.sp _ _ _ _ _ _ _ _ _ _ _ ((Hrow.out.below HB.out (Nat.le_refl _)).more HB.out.size) (by omega)).mono ?_
       rintro e w1 ⟨rfl, hb1⟩
       rw [Hp.out]
       have hA1 := blk_below hb1 (lt_of_some HA.out) HA.out
       have hP1 := blk_below hb1 (lt_of_some HP.out) HP.out
       have hB1 := HB.out.trans (hb1.mono HB.out.size)
       have HA1 := Lib.hid hA1; have HP1 := Lib.hid hP1; have HB1 := Lib.hid hB1
       clear hb1 hA1 hP1 hB1))
  go_ret
  exact ⟨rfl, HB1.out⟩
set_option maxRecDepth 100000 in
set_option maxHeartbeats 4000000 in
theorem fault_big (w : World) (A : Option Addr) (cap : Nat) (a : Atl) (k : Nat) (s : Span) (p : Plan) (hrow : RowAt w w.heap.size 5 A (a.sp.map Span.cells)) (hlen : a.sp.length ≤ 16) (hks : p.key.size ≤ 9223372036854775807)
    (b0 : a.plan.kind = 0) (b1 : ¬ p.kind < 1) (b2 : ¬ 3 < p.kind) (hk : k < a.sp.length) (hs : a.sp[k] = s) (hp : place a.sp p.shard = (k : Int)) (g0 : 1099511627774 < s.ep) :
    Calls Try.prog 43 #[a.val (.slice A a.sp.length cap), p.val] w fun e w' => e = .returned (.int .i64 1) ∧ Below w.heap.size w w' := by
  obtain ⟨b, off, rfl, hb, _, _, _, _, _⟩ := span_cells hrow k hk
  have Hrow := Lib.hid hrow; have Hp := Lib.hid hp; clear hrow hp
  have Hb0 := Lib.hid b0
  have Hb1 := Lib.hid b1
  have Hb2 := Lib.hid b2
  clear b0 b1 b2
  have Hg0 := Lib.hid g0
  clear g0
  have hk1 : (0 : Int) ≤ (k : Int) := by omega
  have hk2 : (k : Int) < (a.sp.length : Int) := by omega
  have hk0 : ¬ (k : Int) < 0 := by omega
  have hw1 : IntKind.i64.wrap ((k : Int) + 1) = (k : Int) + 1 := IntWalk.i64_in _ (by omega)
  have hk3 : (0 : Int) ≤ (k : Int) + 1 := by omega
  have hk4 : ((k : Int) + 1).toNat = k + 1 := by omega
  go_enter Try.func43, Try.ntmps43
  go_upto_region 1 with fail
  have hA : ((w.alloc (a.blk (.slice (some ⟨b, off, none⟩) a.sp.length cap))).alloc p.blk).heap[w.heap.size]? = some (a.blk (.slice (some ⟨b, off, none⟩) a.sp.length cap)) := (Below.heap_alloc _ _ _ (by simp)).trans (heap_alloc_new w _)
  have hP : ((w.alloc (a.blk (.slice (some ⟨b, off, none⟩) a.sp.length cap))).alloc p.blk).heap[w.heap.size + 1]? = some p.blk := heap_second _ _ _
  have hB : Below w.heap.size w ((w.alloc (a.blk (.slice (some ⟨b, off, none⟩) a.sp.length cap))).alloc p.blk) := al2 _ _
  change Code.wp _ _ _ _ ((w.alloc (a.blk (.slice (some ⟨b, off, none⟩) a.sp.length cap))).alloc p.blk)
  generalize (w.alloc (a.blk (.slice (some ⟨b, off, none⟩) a.sp.length cap))).alloc p.blk = w0 at *
  obtain ⟨m0, m1, m2, m3, m4, m5, m6, m7, m8, m9, m10, mlt⟩ := map_cells hA
  obtain ⟨n0, n1, n2, n3, n4, n5, n6, n7, nlt⟩ := plan_blk hP
  have HA := Lib.hid hA; have HP := Lib.hid hP; have HB := Lib.hid hB
  clear hA hP hB
  have b0 := Hb0.out
  have b1 := Hb1.out
  have b2 := Hb2.out
  go_upto_region 9 with (first
    | (go_at_call 32
       refine (rPlace_raw _ _ cap a.sp _ _ _ _ _ _ _ _ _ _ _ ((Hrow.out.below HB.out (Nat.le_refl _)).more HB.out.size) (by omega)).mono ?_
       rintro e w1 ⟨rfl, hb1⟩
       rw [Hp.out]
       have hA1 := blk_below hb1 (lt_of_some HA.out) HA.out
       have hP1 := blk_below hb1 (lt_of_some HP.out) HP.out
       have hB1 := HB.out.trans (hb1.mono HB.out.size)
       have hR1 := (Hrow.out.below HB.out (Nat.le_refl _)).below hb1 HB.out.size
       obtain ⟨_, _, he, blt, p0, p1, p2, p3, p4⟩ := span_cells hR1 k hk
       injection he with he
       injection he with hx1 hx2
       subst hx1; subst hx2
       rw [hs] at p0 p1 p2 p3 p4
       have HR1 := Lib.hid hR1
       obtain ⟨m0, m1, m2, m3, m4, m5, m6, m7, m8, m9, m10, mlt⟩ := map_cells hA1
       clear hR1
       have HA1 := Lib.hid hA1; have HP1 := Lib.hid hP1; have HB1 := Lib.hid hB1
       clear hb1 hA1 hP1 hB1))
  have hA2 := blk_below (al (w := w1) s.blk) (lt_of_some HA1.out) HA1.out
  have hP2 := blk_below (al (w := w1) s.blk) (lt_of_some HP1.out) HP1.out
  have hS2 := heap_alloc_new w1 s.blk
  have hB2 := HB1.out.trans ((al (w := w1) s.blk).mono HB1.out.size)
  have hrow := HR1.out.below (al (w := w1) s.blk) HB1.out.size
  change Code.wp _ _ _ _ (w1.alloc s.blk)
  have Hw := Lib.hid (rfl : w1.heap.size = w1.heap.size)
  generalize w1.alloc s.blk = w2 at *
  clear m0 m1 m2 m3 m4 m5 m6 m7 m8 m9 m10 mlt n0 n1 n2 n3 n4 n5 n6 n7 nlt
  obtain ⟨m0, m1, m2, m3, m4, m5, m6, m7, m8, m9, m10, mlt⟩ := map_cells hA2
  obtain ⟨n0, n1, n2, n3, n4, n5, n6, n7, nlt⟩ := plan_blk hP2
  obtain ⟨s0, s1, s2, s3, s4, slt⟩ := span_blk hS2
  have g0 := Hg0.out
  have HB2 := Lib.hid hB2; have HA2 := Lib.hid hA2
  clear hA2 hP2 hS2 hB2 hrow
  go_wp2_with fail
  go_ret
  exact ⟨rfl, HB2.out⟩
set_option maxRecDepth 100000 in
set_option maxHeartbeats 4000000 in
theorem fault_bigNext (w : World) (A : Option Addr) (cap : Nat) (a : Atl) (k : Nat) (s : Span) (p : Plan) (hrow : RowAt w w.heap.size 5 A (a.sp.map Span.cells)) (hlen : a.sp.length ≤ 16) (hks : p.key.size ≤ 9223372036854775807)
    (b0 : a.plan.kind = 0) (b1 : ¬ p.kind < 1) (b2 : ¬ 3 < p.kind) (hk : k < a.sp.length) (hs : a.sp[k] = s) (hp : place a.sp p.shard = (k : Int)) (hk5 : k + 1 < a.sp.length) (u : Span) (hu : a.sp[k+1] = u) (kd : p.kind = 3) (g0 : ¬ 1099511627774 < s.ep) (g1 : 1099511627774 < u.ep) (g5 : ((k : Int) + 1 == (a.sp.length : Int)) = false) (g6 : ¬ (k : Int) + 1 = (a.sp.length : Int)) :
    Calls Try.prog 43 #[a.val (.slice A a.sp.length cap), p.val] w fun e w' => e = .returned (.int .i64 1) ∧ Below w.heap.size w w' := by
  obtain ⟨b, off, rfl, hb, _, _, _, _, _⟩ := span_cells hrow k hk
  have Hrow := Lib.hid hrow; have Hp := Lib.hid hp; clear hrow hp
  have Hb0 := Lib.hid b0
  have Hb1 := Lib.hid b1
  have Hb2 := Lib.hid b2
  clear b0 b1 b2
  have Hkd := Lib.hid kd
  have Hg0 := Lib.hid g0
  have Hg1 := Lib.hid g1
  have Hg5 := Lib.hid g5
  have Hg6 := Lib.hid g6
  clear kd g0 g1 g5 g6
  have hk1 : (0 : Int) ≤ (k : Int) := by omega
  have hk2 : (k : Int) < (a.sp.length : Int) := by omega
  have hk0 : ¬ (k : Int) < 0 := by omega
  have hw1 : IntKind.i64.wrap ((k : Int) + 1) = (k : Int) + 1 := IntWalk.i64_in _ (by omega)
  have hk3 : (0 : Int) ≤ (k : Int) + 1 := by omega
  have hk4 : ((k : Int) + 1).toNat = k + 1 := by omega
  go_enter Try.func43, Try.ntmps43
  go_upto_region 1 with fail
  have hA : ((w.alloc (a.blk (.slice (some ⟨b, off, none⟩) a.sp.length cap))).alloc p.blk).heap[w.heap.size]? = some (a.blk (.slice (some ⟨b, off, none⟩) a.sp.length cap)) := (Below.heap_alloc _ _ _ (by simp)).trans (heap_alloc_new w _)
  have hP : ((w.alloc (a.blk (.slice (some ⟨b, off, none⟩) a.sp.length cap))).alloc p.blk).heap[w.heap.size + 1]? = some p.blk := heap_second _ _ _
  have hB : Below w.heap.size w ((w.alloc (a.blk (.slice (some ⟨b, off, none⟩) a.sp.length cap))).alloc p.blk) := al2 _ _
  change Code.wp _ _ _ _ ((w.alloc (a.blk (.slice (some ⟨b, off, none⟩) a.sp.length cap))).alloc p.blk)
  generalize (w.alloc (a.blk (.slice (some ⟨b, off, none⟩) a.sp.length cap))).alloc p.blk = w0 at *
  obtain ⟨m0, m1, m2, m3, m4, m5, m6, m7, m8, m9, m10, mlt⟩ := map_cells hA
  obtain ⟨n0, n1, n2, n3, n4, n5, n6, n7, nlt⟩ := plan_blk hP
  have HA := Lib.hid hA; have HP := Lib.hid hP; have HB := Lib.hid hB
  clear hA hP hB
  have b0 := Hb0.out
  have b1 := Hb1.out
  have b2 := Hb2.out
  go_upto_region 9 with (first
    | (go_at_call 32
       refine (rPlace_raw _ _ cap a.sp _ _ _ _ _ _ _ _ _ _ _ ((Hrow.out.below HB.out (Nat.le_refl _)).more HB.out.size) (by omega)).mono ?_
       rintro e w1 ⟨rfl, hb1⟩
       rw [Hp.out]
       have hA1 := blk_below hb1 (lt_of_some HA.out) HA.out
       have hP1 := blk_below hb1 (lt_of_some HP.out) HP.out
       have hB1 := HB.out.trans (hb1.mono HB.out.size)
       have hR1 := (Hrow.out.below HB.out (Nat.le_refl _)).below hb1 HB.out.size
       obtain ⟨_, _, he, blt, p0, p1, p2, p3, p4⟩ := span_cells hR1 k hk
       injection he with he
       injection he with hx1 hx2
       subst hx1; subst hx2
       rw [hs] at p0 p1 p2 p3 p4
       have HR1 := Lib.hid hR1
       obtain ⟨m0, m1, m2, m3, m4, m5, m6, m7, m8, m9, m10, mlt⟩ := map_cells hA1
       clear hR1
       have HA1 := Lib.hid hA1; have HP1 := Lib.hid hP1; have HB1 := Lib.hid hB1
       clear hb1 hA1 hP1 hB1))
  have hA2 := blk_below (al (w := w1) s.blk) (lt_of_some HA1.out) HA1.out
  have hP2 := blk_below (al (w := w1) s.blk) (lt_of_some HP1.out) HP1.out
  have hS2 := heap_alloc_new w1 s.blk
  have hB2 := HB1.out.trans ((al (w := w1) s.blk).mono HB1.out.size)
  have hrow := HR1.out.below (al (w := w1) s.blk) HB1.out.size
  change Code.wp _ _ _ _ (w1.alloc s.blk)
  have Hw := Lib.hid (rfl : w1.heap.size = w1.heap.size)
  generalize w1.alloc s.blk = w2 at *
  clear m0 m1 m2 m3 m4 m5 m6 m7 m8 m9 m10 mlt n0 n1 n2 n3 n4 n5 n6 n7 nlt
  obtain ⟨m0, m1, m2, m3, m4, m5, m6, m7, m8, m9, m10, mlt⟩ := map_cells hA2
  obtain ⟨n0, n1, n2, n3, n4, n5, n6, n7, nlt⟩ := plan_blk hP2
  obtain ⟨s0, s1, s2, s3, s4, slt⟩ := span_blk hS2
  obtain ⟨_, _, he, blt, v0, v1, v2, v3, v4⟩ := span_cells hrow (k + 1) hk5
  injection he with he
  injection he with hx1 hx2
  subst hx1; subst hx2
  rw [hu] at v0 v1 v2 v3 v4
  have hk6 : (k : Int) + 1 < (a.sp.length : Int) := by omega
  have kd := Hkd.out
  have g0 := Hg0.out
  have g1 := Hg1.out
  have g5 := Hg5.out
  have g6 := Hg6.out
  have HB2 := Lib.hid hB2; have HA2 := Lib.hid hA2
  clear hA2 hP2 hS2 hB2 hrow
  go_wp2_with fail
  go_ret
  exact ⟨rfl, HB2.out⟩
set_option maxRecDepth 100000 in
set_option maxHeartbeats 4000000 in
theorem fault_move1 (w : World) (A : Option Addr) (cap : Nat) (a : Atl) (k : Nat) (s : Span) (p : Plan) (hrow : RowAt w w.heap.size 5 A (a.sp.map Span.cells)) (hlen : a.sp.length ≤ 16) (hks : p.key.size ≤ 9223372036854775807)
    (b0 : a.plan.kind = 0) (b1 : ¬ p.kind < 1) (b2 : ¬ 3 < p.kind) (hk : k < a.sp.length) (hs : a.sp[k] = s) (hp : place a.sp p.shard = (k : Int)) (kd : p.kind = 1) (g0 : ¬ 1099511627774 < s.ep) (g2 : p.group < 1) :
    Calls Try.prog 43 #[a.val (.slice A a.sp.length cap), p.val] w fun e w' => e = .returned (.int .i64 1) ∧ Below w.heap.size w w' := by
  obtain ⟨b, off, rfl, hb, _, _, _, _, _⟩ := span_cells hrow k hk
  have Hrow := Lib.hid hrow; have Hp := Lib.hid hp; clear hrow hp
  have Hb0 := Lib.hid b0
  have Hb1 := Lib.hid b1
  have Hb2 := Lib.hid b2
  clear b0 b1 b2
  have Hkd := Lib.hid kd
  have Hg0 := Lib.hid g0
  have Hg2 := Lib.hid g2
  clear kd g0 g2
  have hk1 : (0 : Int) ≤ (k : Int) := by omega
  have hk2 : (k : Int) < (a.sp.length : Int) := by omega
  have hk0 : ¬ (k : Int) < 0 := by omega
  have hw1 : IntKind.i64.wrap ((k : Int) + 1) = (k : Int) + 1 := IntWalk.i64_in _ (by omega)
  have hk3 : (0 : Int) ≤ (k : Int) + 1 := by omega
  have hk4 : ((k : Int) + 1).toNat = k + 1 := by omega
  go_enter Try.func43, Try.ntmps43
  go_upto_region 1 with fail
  have hA : ((w.alloc (a.blk (.slice (some ⟨b, off, none⟩) a.sp.length cap))).alloc p.blk).heap[w.heap.size]? = some (a.blk (.slice (some ⟨b, off, none⟩) a.sp.length cap)) := (Below.heap_alloc _ _ _ (by simp)).trans (heap_alloc_new w _)
  have hP : ((w.alloc (a.blk (.slice (some ⟨b, off, none⟩) a.sp.length cap))).alloc p.blk).heap[w.heap.size + 1]? = some p.blk := heap_second _ _ _
  have hB : Below w.heap.size w ((w.alloc (a.blk (.slice (some ⟨b, off, none⟩) a.sp.length cap))).alloc p.blk) := al2 _ _
  change Code.wp _ _ _ _ ((w.alloc (a.blk (.slice (some ⟨b, off, none⟩) a.sp.length cap))).alloc p.blk)
  generalize (w.alloc (a.blk (.slice (some ⟨b, off, none⟩) a.sp.length cap))).alloc p.blk = w0 at *
  obtain ⟨m0, m1, m2, m3, m4, m5, m6, m7, m8, m9, m10, mlt⟩ := map_cells hA
  obtain ⟨n0, n1, n2, n3, n4, n5, n6, n7, nlt⟩ := plan_blk hP
  have HA := Lib.hid hA; have HP := Lib.hid hP; have HB := Lib.hid hB
  clear hA hP hB
  have b0 := Hb0.out
  have b1 := Hb1.out
  have b2 := Hb2.out
  go_upto_region 9 with (first
    | (go_at_call 32
       refine (rPlace_raw _ _ cap a.sp _ _ _ _ _ _ _ _ _ _ _ ((Hrow.out.below HB.out (Nat.le_refl _)).more HB.out.size) (by omega)).mono ?_
       rintro e w1 ⟨rfl, hb1⟩
       rw [Hp.out]
       have hA1 := blk_below hb1 (lt_of_some HA.out) HA.out
       have hP1 := blk_below hb1 (lt_of_some HP.out) HP.out
       have hB1 := HB.out.trans (hb1.mono HB.out.size)
       have hR1 := (Hrow.out.below HB.out (Nat.le_refl _)).below hb1 HB.out.size
       obtain ⟨_, _, he, blt, p0, p1, p2, p3, p4⟩ := span_cells hR1 k hk
       injection he with he
       injection he with hx1 hx2
       subst hx1; subst hx2
       rw [hs] at p0 p1 p2 p3 p4
       have HR1 := Lib.hid hR1
       obtain ⟨m0, m1, m2, m3, m4, m5, m6, m7, m8, m9, m10, mlt⟩ := map_cells hA1
       clear hR1
       have HA1 := Lib.hid hA1; have HP1 := Lib.hid hP1; have HB1 := Lib.hid hB1
       clear hb1 hA1 hP1 hB1))
  have hA2 := blk_below (al (w := w1) s.blk) (lt_of_some HA1.out) HA1.out
  have hP2 := blk_below (al (w := w1) s.blk) (lt_of_some HP1.out) HP1.out
  have hS2 := heap_alloc_new w1 s.blk
  have hB2 := HB1.out.trans ((al (w := w1) s.blk).mono HB1.out.size)
  have hrow := HR1.out.below (al (w := w1) s.blk) HB1.out.size
  change Code.wp _ _ _ _ (w1.alloc s.blk)
  have Hw := Lib.hid (rfl : w1.heap.size = w1.heap.size)
  generalize w1.alloc s.blk = w2 at *
  clear m0 m1 m2 m3 m4 m5 m6 m7 m8 m9 m10 mlt n0 n1 n2 n3 n4 n5 n6 n7 nlt
  obtain ⟨m0, m1, m2, m3, m4, m5, m6, m7, m8, m9, m10, mlt⟩ := map_cells hA2
  obtain ⟨n0, n1, n2, n3, n4, n5, n6, n7, nlt⟩ := plan_blk hP2
  obtain ⟨s0, s1, s2, s3, s4, slt⟩ := span_blk hS2
  have kd := Hkd.out
  have g0 := Hg0.out
  have g2 := Hg2.out
  have HB2 := Lib.hid hB2; have HA2 := Lib.hid hA2
  clear hA2 hP2 hS2 hB2 hrow
  go_wp2_with fail
  go_ret
  exact ⟨rfl, HB2.out⟩
set_option maxRecDepth 100000 in
set_option maxHeartbeats 4000000 in
theorem fault_move2 (w : World) (A : Option Addr) (cap : Nat) (a : Atl) (k : Nat) (s : Span) (p : Plan) (hrow : RowAt w w.heap.size 5 A (a.sp.map Span.cells)) (hlen : a.sp.length ≤ 16) (hks : p.key.size ≤ 9223372036854775807)
    (b0 : a.plan.kind = 0) (b1 : ¬ p.kind < 1) (b2 : ¬ 3 < p.kind) (hk : k < a.sp.length) (hs : a.sp[k] = s) (hp : place a.sp p.shard = (k : Int)) (kd : p.kind = 1) (g0 : ¬ 1099511627774 < s.ep) (g2 : ¬ p.group < 1) (g3 : a.groups < p.group) :
    Calls Try.prog 43 #[a.val (.slice A a.sp.length cap), p.val] w fun e w' => e = .returned (.int .i64 1) ∧ Below w.heap.size w w' := by
  obtain ⟨b, off, rfl, hb, _, _, _, _, _⟩ := span_cells hrow k hk
  have Hrow := Lib.hid hrow; have Hp := Lib.hid hp; clear hrow hp
  have Hb0 := Lib.hid b0
  have Hb1 := Lib.hid b1
  have Hb2 := Lib.hid b2
  clear b0 b1 b2
  have Hkd := Lib.hid kd
  have Hg0 := Lib.hid g0
  have Hg2 := Lib.hid g2
  have Hg3 := Lib.hid g3
  clear kd g0 g2 g3
  have hk1 : (0 : Int) ≤ (k : Int) := by omega
  have hk2 : (k : Int) < (a.sp.length : Int) := by omega
  have hk0 : ¬ (k : Int) < 0 := by omega
  have hw1 : IntKind.i64.wrap ((k : Int) + 1) = (k : Int) + 1 := IntWalk.i64_in _ (by omega)
  have hk3 : (0 : Int) ≤ (k : Int) + 1 := by omega
  have hk4 : ((k : Int) + 1).toNat = k + 1 := by omega
  go_enter Try.func43, Try.ntmps43
  go_upto_region 1 with fail
  have hA : ((w.alloc (a.blk (.slice (some ⟨b, off, none⟩) a.sp.length cap))).alloc p.blk).heap[w.heap.size]? = some (a.blk (.slice (some ⟨b, off, none⟩) a.sp.length cap)) := (Below.heap_alloc _ _ _ (by simp)).trans (heap_alloc_new w _)
  have hP : ((w.alloc (a.blk (.slice (some ⟨b, off, none⟩) a.sp.length cap))).alloc p.blk).heap[w.heap.size + 1]? = some p.blk := heap_second _ _ _
  have hB : Below w.heap.size w ((w.alloc (a.blk (.slice (some ⟨b, off, none⟩) a.sp.length cap))).alloc p.blk) := al2 _ _
  change Code.wp _ _ _ _ ((w.alloc (a.blk (.slice (some ⟨b, off, none⟩) a.sp.length cap))).alloc p.blk)
  generalize (w.alloc (a.blk (.slice (some ⟨b, off, none⟩) a.sp.length cap))).alloc p.blk = w0 at *
  obtain ⟨m0, m1, m2, m3, m4, m5, m6, m7, m8, m9, m10, mlt⟩ := map_cells hA
  obtain ⟨n0, n1, n2, n3, n4, n5, n6, n7, nlt⟩ := plan_blk hP
  have HA := Lib.hid hA; have HP := Lib.hid hP; have HB := Lib.hid hB
  clear hA hP hB
  have b0 := Hb0.out
  have b1 := Hb1.out
  have b2 := Hb2.out
  go_upto_region 9 with (first
    | (go_at_call 32
       refine (rPlace_raw _ _ cap a.sp _ _ _ _ _ _ _ _ _ _ _ ((Hrow.out.below HB.out (Nat.le_refl _)).more HB.out.size) (by omega)).mono ?_
       rintro e w1 ⟨rfl, hb1⟩
       rw [Hp.out]
       have hA1 := blk_below hb1 (lt_of_some HA.out) HA.out
       have hP1 := blk_below hb1 (lt_of_some HP.out) HP.out
       have hB1 := HB.out.trans (hb1.mono HB.out.size)
       have hR1 := (Hrow.out.below HB.out (Nat.le_refl _)).below hb1 HB.out.size
       obtain ⟨_, _, he, blt, p0, p1, p2, p3, p4⟩ := span_cells hR1 k hk
       injection he with he
       injection he with hx1 hx2
       subst hx1; subst hx2
       rw [hs] at p0 p1 p2 p3 p4
       have HR1 := Lib.hid hR1
       obtain ⟨m0, m1, m2, m3, m4, m5, m6, m7, m8, m9, m10, mlt⟩ := map_cells hA1
       clear hR1
       have HA1 := Lib.hid hA1; have HP1 := Lib.hid hP1; have HB1 := Lib.hid hB1
       clear hb1 hA1 hP1 hB1))
  have hA2 := blk_below (al (w := w1) s.blk) (lt_of_some HA1.out) HA1.out
  have hP2 := blk_below (al (w := w1) s.blk) (lt_of_some HP1.out) HP1.out
  have hS2 := heap_alloc_new w1 s.blk
  have hB2 := HB1.out.trans ((al (w := w1) s.blk).mono HB1.out.size)
  have hrow := HR1.out.below (al (w := w1) s.blk) HB1.out.size
  change Code.wp _ _ _ _ (w1.alloc s.blk)
  have Hw := Lib.hid (rfl : w1.heap.size = w1.heap.size)
  generalize w1.alloc s.blk = w2 at *
  clear m0 m1 m2 m3 m4 m5 m6 m7 m8 m9 m10 mlt n0 n1 n2 n3 n4 n5 n6 n7 nlt
  obtain ⟨m0, m1, m2, m3, m4, m5, m6, m7, m8, m9, m10, mlt⟩ := map_cells hA2
  obtain ⟨n0, n1, n2, n3, n4, n5, n6, n7, nlt⟩ := plan_blk hP2
  obtain ⟨s0, s1, s2, s3, s4, slt⟩ := span_blk hS2
  have kd := Hkd.out
  have g0 := Hg0.out
  have g2 := Hg2.out
  have g3 := Hg3.out
  have HB2 := Lib.hid hB2; have HA2 := Lib.hid hA2
  clear hA2 hP2 hS2 hB2 hrow
  go_wp2_with fail
  go_ret
  exact ⟨rfl, HB2.out⟩
set_option maxRecDepth 100000 in
set_option maxHeartbeats 4000000 in
theorem fault_move3 (w : World) (A : Option Addr) (cap : Nat) (a : Atl) (k : Nat) (s : Span) (p : Plan) (hrow : RowAt w w.heap.size 5 A (a.sp.map Span.cells)) (hlen : a.sp.length ≤ 16) (hks : p.key.size ≤ 9223372036854775807)
    (b0 : a.plan.kind = 0) (b1 : ¬ p.kind < 1) (b2 : ¬ 3 < p.kind) (hk : k < a.sp.length) (hs : a.sp[k] = s) (hp : place a.sp p.shard = (k : Int)) (kd : p.kind = 1) (g0 : ¬ 1099511627774 < s.ep) (g2 : ¬ p.group < 1) (g3 : ¬ a.groups < p.group) (g4 : p.group = s.gr) :
    Calls Try.prog 43 #[a.val (.slice A a.sp.length cap), p.val] w fun e w' => e = .returned (.int .i64 1) ∧ Below w.heap.size w w' := by
  obtain ⟨b, off, rfl, hb, _, _, _, _, _⟩ := span_cells hrow k hk
  have Hrow := Lib.hid hrow; have Hp := Lib.hid hp; clear hrow hp
  have Hb0 := Lib.hid b0
  have Hb1 := Lib.hid b1
  have Hb2 := Lib.hid b2
  clear b0 b1 b2
  have Hkd := Lib.hid kd
  have Hg0 := Lib.hid g0
  have Hg2 := Lib.hid g2
  have Hg3 := Lib.hid g3
  have Hg4 := Lib.hid g4
  clear kd g0 g2 g3 g4
  have hk1 : (0 : Int) ≤ (k : Int) := by omega
  have hk2 : (k : Int) < (a.sp.length : Int) := by omega
  have hk0 : ¬ (k : Int) < 0 := by omega
  have hw1 : IntKind.i64.wrap ((k : Int) + 1) = (k : Int) + 1 := IntWalk.i64_in _ (by omega)
  have hk3 : (0 : Int) ≤ (k : Int) + 1 := by omega
  have hk4 : ((k : Int) + 1).toNat = k + 1 := by omega
  go_enter Try.func43, Try.ntmps43
  go_upto_region 1 with fail
  have hA : ((w.alloc (a.blk (.slice (some ⟨b, off, none⟩) a.sp.length cap))).alloc p.blk).heap[w.heap.size]? = some (a.blk (.slice (some ⟨b, off, none⟩) a.sp.length cap)) := (Below.heap_alloc _ _ _ (by simp)).trans (heap_alloc_new w _)
  have hP : ((w.alloc (a.blk (.slice (some ⟨b, off, none⟩) a.sp.length cap))).alloc p.blk).heap[w.heap.size + 1]? = some p.blk := heap_second _ _ _
  have hB : Below w.heap.size w ((w.alloc (a.blk (.slice (some ⟨b, off, none⟩) a.sp.length cap))).alloc p.blk) := al2 _ _
  change Code.wp _ _ _ _ ((w.alloc (a.blk (.slice (some ⟨b, off, none⟩) a.sp.length cap))).alloc p.blk)
  generalize (w.alloc (a.blk (.slice (some ⟨b, off, none⟩) a.sp.length cap))).alloc p.blk = w0 at *
  obtain ⟨m0, m1, m2, m3, m4, m5, m6, m7, m8, m9, m10, mlt⟩ := map_cells hA
  obtain ⟨n0, n1, n2, n3, n4, n5, n6, n7, nlt⟩ := plan_blk hP
  have HA := Lib.hid hA; have HP := Lib.hid hP; have HB := Lib.hid hB
  clear hA hP hB
  have b0 := Hb0.out
  have b1 := Hb1.out
  have b2 := Hb2.out
  go_upto_region 9 with (first
    | (go_at_call 32
       refine (rPlace_raw _ _ cap a.sp _ _ _ _ _ _ _ _ _ _ _ ((Hrow.out.below HB.out (Nat.le_refl _)).more HB.out.size) (by omega)).mono ?_
       rintro e w1 ⟨rfl, hb1⟩
       rw [Hp.out]
       have hA1 := blk_below hb1 (lt_of_some HA.out) HA.out
       have hP1 := blk_below hb1 (lt_of_some HP.out) HP.out
       have hB1 := HB.out.trans (hb1.mono HB.out.size)
       have hR1 := (Hrow.out.below HB.out (Nat.le_refl _)).below hb1 HB.out.size
       obtain ⟨_, _, he, blt, p0, p1, p2, p3, p4⟩ := span_cells hR1 k hk
       injection he with he
       injection he with hx1 hx2
       subst hx1; subst hx2
       rw [hs] at p0 p1 p2 p3 p4
       have HR1 := Lib.hid hR1
       obtain ⟨m0, m1, m2, m3, m4, m5, m6, m7, m8, m9, m10, mlt⟩ := map_cells hA1
       clear hR1
       have HA1 := Lib.hid hA1; have HP1 := Lib.hid hP1; have HB1 := Lib.hid hB1
       clear hb1 hA1 hP1 hB1))
  have hA2 := blk_below (al (w := w1) s.blk) (lt_of_some HA1.out) HA1.out
  have hP2 := blk_below (al (w := w1) s.blk) (lt_of_some HP1.out) HP1.out
  have hS2 := heap_alloc_new w1 s.blk
  have hB2 := HB1.out.trans ((al (w := w1) s.blk).mono HB1.out.size)
  have hrow := HR1.out.below (al (w := w1) s.blk) HB1.out.size
  change Code.wp _ _ _ _ (w1.alloc s.blk)
  have Hw := Lib.hid (rfl : w1.heap.size = w1.heap.size)
  generalize w1.alloc s.blk = w2 at *
  clear m0 m1 m2 m3 m4 m5 m6 m7 m8 m9 m10 mlt n0 n1 n2 n3 n4 n5 n6 n7 nlt
  obtain ⟨m0, m1, m2, m3, m4, m5, m6, m7, m8, m9, m10, mlt⟩ := map_cells hA2
  obtain ⟨n0, n1, n2, n3, n4, n5, n6, n7, nlt⟩ := plan_blk hP2
  obtain ⟨s0, s1, s2, s3, s4, slt⟩ := span_blk hS2
  have kd := Hkd.out
  have g0 := Hg0.out
  have g2 := Hg2.out
  have g3 := Hg3.out
  have g4 := Hg4.out
  have HB2 := Lib.hid hB2; have HA2 := Lib.hid hA2
  clear hA2 hP2 hS2 hB2 hrow
  go_wp2_with fail
  go_ret
  exact ⟨rfl, HB2.out⟩
set_option maxRecDepth 100000 in
set_option maxHeartbeats 4000000 in
theorem fault_move (w : World) (A : Option Addr) (cap : Nat) (a : Atl) (k : Nat) (s : Span) (p : Plan) (hrow : RowAt w w.heap.size 5 A (a.sp.map Span.cells)) (hlen : a.sp.length ≤ 16) (hks : p.key.size ≤ 9223372036854775807)
    (b0 : a.plan.kind = 0) (b1 : ¬ p.kind < 1) (b2 : ¬ 3 < p.kind) (hk : k < a.sp.length) (hs : a.sp[k] = s) (hp : place a.sp p.shard = (k : Int)) (kd : p.kind = 1) (g0 : ¬ 1099511627774 < s.ep) (g2 : ¬ p.group < 1) (g3 : ¬ a.groups < p.group) (g4 : ¬ p.group = s.gr) (g5 : (p.group == s.gr) = false) :
    Calls Try.prog 43 #[a.val (.slice A a.sp.length cap), p.val] w fun e w' => e = .returned (.int .i64 0) ∧ Below w.heap.size w w' := by
  obtain ⟨b, off, rfl, hb, _, _, _, _, _⟩ := span_cells hrow k hk
  have Hrow := Lib.hid hrow; have Hp := Lib.hid hp; clear hrow hp
  have Hb0 := Lib.hid b0
  have Hb1 := Lib.hid b1
  have Hb2 := Lib.hid b2
  clear b0 b1 b2
  have Hkd := Lib.hid kd
  have Hg0 := Lib.hid g0
  have Hg2 := Lib.hid g2
  have Hg3 := Lib.hid g3
  have Hg4 := Lib.hid g4
  have Hg5 := Lib.hid g5
  clear kd g0 g2 g3 g4 g5
  have hk1 : (0 : Int) ≤ (k : Int) := by omega
  have hk2 : (k : Int) < (a.sp.length : Int) := by omega
  have hk0 : ¬ (k : Int) < 0 := by omega
  have hw1 : IntKind.i64.wrap ((k : Int) + 1) = (k : Int) + 1 := IntWalk.i64_in _ (by omega)
  have hk3 : (0 : Int) ≤ (k : Int) + 1 := by omega
  have hk4 : ((k : Int) + 1).toNat = k + 1 := by omega
  go_enter Try.func43, Try.ntmps43
  go_upto_region 1 with fail
  have hA : ((w.alloc (a.blk (.slice (some ⟨b, off, none⟩) a.sp.length cap))).alloc p.blk).heap[w.heap.size]? = some (a.blk (.slice (some ⟨b, off, none⟩) a.sp.length cap)) := (Below.heap_alloc _ _ _ (by simp)).trans (heap_alloc_new w _)
  have hP : ((w.alloc (a.blk (.slice (some ⟨b, off, none⟩) a.sp.length cap))).alloc p.blk).heap[w.heap.size + 1]? = some p.blk := heap_second _ _ _
  have hB : Below w.heap.size w ((w.alloc (a.blk (.slice (some ⟨b, off, none⟩) a.sp.length cap))).alloc p.blk) := al2 _ _
  change Code.wp _ _ _ _ ((w.alloc (a.blk (.slice (some ⟨b, off, none⟩) a.sp.length cap))).alloc p.blk)
  generalize (w.alloc (a.blk (.slice (some ⟨b, off, none⟩) a.sp.length cap))).alloc p.blk = w0 at *
  obtain ⟨m0, m1, m2, m3, m4, m5, m6, m7, m8, m9, m10, mlt⟩ := map_cells hA
  obtain ⟨n0, n1, n2, n3, n4, n5, n6, n7, nlt⟩ := plan_blk hP
  have HA := Lib.hid hA; have HP := Lib.hid hP; have HB := Lib.hid hB
  clear hA hP hB
  have b0 := Hb0.out
  have b1 := Hb1.out
  have b2 := Hb2.out
  go_upto_region 9 with (first
    | (go_at_call 32
       refine (rPlace_raw _ _ cap a.sp _ _ _ _ _ _ _ _ _ _ _ ((Hrow.out.below HB.out (Nat.le_refl _)).more HB.out.size) (by omega)).mono ?_
       rintro e w1 ⟨rfl, hb1⟩
       rw [Hp.out]
       have hA1 := blk_below hb1 (lt_of_some HA.out) HA.out
       have hP1 := blk_below hb1 (lt_of_some HP.out) HP.out
       have hB1 := HB.out.trans (hb1.mono HB.out.size)
       have hR1 := (Hrow.out.below HB.out (Nat.le_refl _)).below hb1 HB.out.size
       obtain ⟨_, _, he, blt, p0, p1, p2, p3, p4⟩ := span_cells hR1 k hk
       injection he with he
       injection he with hx1 hx2
       subst hx1; subst hx2
       rw [hs] at p0 p1 p2 p3 p4
       have HR1 := Lib.hid hR1
       obtain ⟨m0, m1, m2, m3, m4, m5, m6, m7, m8, m9, m10, mlt⟩ := map_cells hA1
       clear hR1
       have HA1 := Lib.hid hA1; have HP1 := Lib.hid hP1; have HB1 := Lib.hid hB1
       clear hb1 hA1 hP1 hB1))
  have hA2 := blk_below (al (w := w1) s.blk) (lt_of_some HA1.out) HA1.out
  have hP2 := blk_below (al (w := w1) s.blk) (lt_of_some HP1.out) HP1.out
  have hS2 := heap_alloc_new w1 s.blk
  have hB2 := HB1.out.trans ((al (w := w1) s.blk).mono HB1.out.size)
  have hrow := HR1.out.below (al (w := w1) s.blk) HB1.out.size
  change Code.wp _ _ _ _ (w1.alloc s.blk)
  have Hw := Lib.hid (rfl : w1.heap.size = w1.heap.size)
  generalize w1.alloc s.blk = w2 at *
  clear m0 m1 m2 m3 m4 m5 m6 m7 m8 m9 m10 mlt n0 n1 n2 n3 n4 n5 n6 n7 nlt
  obtain ⟨m0, m1, m2, m3, m4, m5, m6, m7, m8, m9, m10, mlt⟩ := map_cells hA2
  obtain ⟨n0, n1, n2, n3, n4, n5, n6, n7, nlt⟩ := plan_blk hP2
  obtain ⟨s0, s1, s2, s3, s4, slt⟩ := span_blk hS2
  have kd := Hkd.out
  have g0 := Hg0.out
  have g2 := Hg2.out
  have g3 := Hg3.out
  have g4 := Hg4.out
  have g5 := Hg5.out
  have HB2 := Lib.hid hB2; have HA2 := Lib.hid hA2
  clear hA2 hP2 hS2 hB2 hrow
  go_wp2_with fail
  go_ret
  exact ⟨rfl, HB2.out⟩
set_option maxRecDepth 100000 in
set_option maxHeartbeats 4000000 in
theorem fault_split1 (w : World) (A : Option Addr) (cap : Nat) (a : Atl) (k : Nat) (s : Span) (p : Plan) (hrow : RowAt w w.heap.size 5 A (a.sp.map Span.cells)) (hlen : a.sp.length ≤ 16) (hks : p.key.size ≤ 9223372036854775807)
    (b0 : a.plan.kind = 0) (b1 : ¬ p.kind < 1) (b2 : ¬ 3 < p.kind) (hk : k < a.sp.length) (hs : a.sp[k] = s) (hp : place a.sp p.shard = (k : Int)) (kd : p.kind = 2) (g0 : ¬ 1099511627774 < s.ep) (hi : inside s p.key = false) :
    Calls Try.prog 43 #[a.val (.slice A a.sp.length cap), p.val] w fun e w' => e = .returned (.int .i64 170) ∧ Below w.heap.size w w' := by
  obtain ⟨b, off, rfl, hb, _, _, _, _, _⟩ := span_cells hrow k hk
  have Hrow := Lib.hid hrow; have Hp := Lib.hid hp; clear hrow hp
  have Hb0 := Lib.hid b0
  have Hb1 := Lib.hid b1
  have Hb2 := Lib.hid b2
  clear b0 b1 b2
  have Hkd := Lib.hid kd
  have Hg0 := Lib.hid g0
  have Hhi := Lib.hid hi
  clear kd g0 hi
  have hk1 : (0 : Int) ≤ (k : Int) := by omega
  have hk2 : (k : Int) < (a.sp.length : Int) := by omega
  have hk0 : ¬ (k : Int) < 0 := by omega
  have hw1 : IntKind.i64.wrap ((k : Int) + 1) = (k : Int) + 1 := IntWalk.i64_in _ (by omega)
  have hk3 : (0 : Int) ≤ (k : Int) + 1 := by omega
  have hk4 : ((k : Int) + 1).toNat = k + 1 := by omega
  go_enter Try.func43, Try.ntmps43
  go_upto_region 1 with fail
  have hA : ((w.alloc (a.blk (.slice (some ⟨b, off, none⟩) a.sp.length cap))).alloc p.blk).heap[w.heap.size]? = some (a.blk (.slice (some ⟨b, off, none⟩) a.sp.length cap)) := (Below.heap_alloc _ _ _ (by simp)).trans (heap_alloc_new w _)
  have hP : ((w.alloc (a.blk (.slice (some ⟨b, off, none⟩) a.sp.length cap))).alloc p.blk).heap[w.heap.size + 1]? = some p.blk := heap_second _ _ _
  have hB : Below w.heap.size w ((w.alloc (a.blk (.slice (some ⟨b, off, none⟩) a.sp.length cap))).alloc p.blk) := al2 _ _
  change Code.wp _ _ _ _ ((w.alloc (a.blk (.slice (some ⟨b, off, none⟩) a.sp.length cap))).alloc p.blk)
  generalize (w.alloc (a.blk (.slice (some ⟨b, off, none⟩) a.sp.length cap))).alloc p.blk = w0 at *
  obtain ⟨m0, m1, m2, m3, m4, m5, m6, m7, m8, m9, m10, mlt⟩ := map_cells hA
  obtain ⟨n0, n1, n2, n3, n4, n5, n6, n7, nlt⟩ := plan_blk hP
  have HA := Lib.hid hA; have HP := Lib.hid hP; have HB := Lib.hid hB
  clear hA hP hB
  have b0 := Hb0.out
  have b1 := Hb1.out
  have b2 := Hb2.out
  go_upto_region 9 with (first
    | (go_at_call 32
       refine (rPlace_raw _ _ cap a.sp _ _ _ _ _ _ _ _ _ _ _ ((Hrow.out.below HB.out (Nat.le_refl _)).more HB.out.size) (by omega)).mono ?_
       rintro e w1 ⟨rfl, hb1⟩
       rw [Hp.out]
       have hA1 := blk_below hb1 (lt_of_some HA.out) HA.out
       have hP1 := blk_below hb1 (lt_of_some HP.out) HP.out
       have hB1 := HB.out.trans (hb1.mono HB.out.size)
       have hR1 := (Hrow.out.below HB.out (Nat.le_refl _)).below hb1 HB.out.size
       obtain ⟨_, _, he, blt, p0, p1, p2, p3, p4⟩ := span_cells hR1 k hk
       injection he with he
       injection he with hx1 hx2
       subst hx1; subst hx2
       rw [hs] at p0 p1 p2 p3 p4
       have HR1 := Lib.hid hR1
       obtain ⟨m0, m1, m2, m3, m4, m5, m6, m7, m8, m9, m10, mlt⟩ := map_cells hA1
       clear hR1
       have HA1 := Lib.hid hA1; have HP1 := Lib.hid hP1; have HB1 := Lib.hid hB1
       clear hb1 hA1 hP1 hB1))
  have hA2 := blk_below (al (w := w1) s.blk) (lt_of_some HA1.out) HA1.out
  have hP2 := blk_below (al (w := w1) s.blk) (lt_of_some HP1.out) HP1.out
  have hS2 := heap_alloc_new w1 s.blk
  have hB2 := HB1.out.trans ((al (w := w1) s.blk).mono HB1.out.size)
  have hrow := HR1.out.below (al (w := w1) s.blk) HB1.out.size
  change Code.wp _ _ _ _ (w1.alloc s.blk)
  have Hw := Lib.hid (rfl : w1.heap.size = w1.heap.size)
  generalize w1.alloc s.blk = w2 at *
  clear m0 m1 m2 m3 m4 m5 m6 m7 m8 m9 m10 mlt n0 n1 n2 n3 n4 n5 n6 n7 nlt
  obtain ⟨m0, m1, m2, m3, m4, m5, m6, m7, m8, m9, m10, mlt⟩ := map_cells hA2
  obtain ⟨n0, n1, n2, n3, n4, n5, n6, n7, nlt⟩ := plan_blk hP2
  obtain ⟨s0, s1, s2, s3, s4, slt⟩ := span_blk hS2
  have kd := Hkd.out
  have g0 := Hg0.out
  have hi := Hhi.out
  have HB2 := Lib.hid hB2; have HA2 := Lib.hid hA2
  clear hA2 hP2 hS2 hB2 hrow
  go_wp2_with (first
    | (go_at_call 63
       refine (rInside_raw _ _ _ _ _ _ _ _ s rfl rfl hi hks).mono ?_
       rintro e w3 ⟨rfl, hb3⟩
       have hA3 := blk_below hb3 (lt_of_some HA2.out) HA2.out
       have HB3 := Lib.hid (HB2.out.trans (hb3.mono HB2.out.size))
       obtain ⟨x0, x1, x2, x3, x4, x5, x6, x7, x8, x9, x10, xlt⟩ := map_cells hA3
       clear hb3 hA3))
  go_ret
  exact ⟨rfl, HB3.out⟩
set_option maxRecDepth 100000 in
set_option maxHeartbeats 4000000 in
theorem fault_split2 (w : World) (A : Option Addr) (cap : Nat) (a : Atl) (k : Nat) (s : Span) (p : Plan) (hrow : RowAt w w.heap.size 5 A (a.sp.map Span.cells)) (hlen : a.sp.length ≤ 16) (hks : p.key.size ≤ 9223372036854775807)
    (b0 : a.plan.kind = 0) (b1 : ¬ p.kind < 1) (b2 : ¬ 3 < p.kind) (hk : k < a.sp.length) (hs : a.sp[k] = s) (hp : place a.sp p.shard = (k : Int)) (kd : p.kind = 2) (g0 : ¬ 1099511627774 < s.ep) (hi : inside s p.key = true) (g2 : (16 : Int) ≤ (a.sp.length : Int)) :
    Calls Try.prog 43 #[a.val (.slice A a.sp.length cap), p.val] w fun e w' => e = .returned (.int .i64 3) ∧ Below w.heap.size w w' := by
  obtain ⟨b, off, rfl, hb, _, _, _, _, _⟩ := span_cells hrow k hk
  have Hrow := Lib.hid hrow; have Hp := Lib.hid hp; clear hrow hp
  have Hb0 := Lib.hid b0
  have Hb1 := Lib.hid b1
  have Hb2 := Lib.hid b2
  clear b0 b1 b2
  have Hkd := Lib.hid kd
  have Hg0 := Lib.hid g0
  have Hhi := Lib.hid hi
  have Hg2 := Lib.hid g2
  clear kd g0 hi g2
  have hk1 : (0 : Int) ≤ (k : Int) := by omega
  have hk2 : (k : Int) < (a.sp.length : Int) := by omega
  have hk0 : ¬ (k : Int) < 0 := by omega
  have hw1 : IntKind.i64.wrap ((k : Int) + 1) = (k : Int) + 1 := IntWalk.i64_in _ (by omega)
  have hk3 : (0 : Int) ≤ (k : Int) + 1 := by omega
  have hk4 : ((k : Int) + 1).toNat = k + 1 := by omega
  go_enter Try.func43, Try.ntmps43
  go_upto_region 1 with fail
  have hA : ((w.alloc (a.blk (.slice (some ⟨b, off, none⟩) a.sp.length cap))).alloc p.blk).heap[w.heap.size]? = some (a.blk (.slice (some ⟨b, off, none⟩) a.sp.length cap)) := (Below.heap_alloc _ _ _ (by simp)).trans (heap_alloc_new w _)
  have hP : ((w.alloc (a.blk (.slice (some ⟨b, off, none⟩) a.sp.length cap))).alloc p.blk).heap[w.heap.size + 1]? = some p.blk := heap_second _ _ _
  have hB : Below w.heap.size w ((w.alloc (a.blk (.slice (some ⟨b, off, none⟩) a.sp.length cap))).alloc p.blk) := al2 _ _
  change Code.wp _ _ _ _ ((w.alloc (a.blk (.slice (some ⟨b, off, none⟩) a.sp.length cap))).alloc p.blk)
  generalize (w.alloc (a.blk (.slice (some ⟨b, off, none⟩) a.sp.length cap))).alloc p.blk = w0 at *
  obtain ⟨m0, m1, m2, m3, m4, m5, m6, m7, m8, m9, m10, mlt⟩ := map_cells hA
  obtain ⟨n0, n1, n2, n3, n4, n5, n6, n7, nlt⟩ := plan_blk hP
  have HA := Lib.hid hA; have HP := Lib.hid hP; have HB := Lib.hid hB
  clear hA hP hB
  have b0 := Hb0.out
  have b1 := Hb1.out
  have b2 := Hb2.out
  go_upto_region 9 with (first
    | (go_at_call 32
       refine (rPlace_raw _ _ cap a.sp _ _ _ _ _ _ _ _ _ _ _ ((Hrow.out.below HB.out (Nat.le_refl _)).more HB.out.size) (by omega)).mono ?_
       rintro e w1 ⟨rfl, hb1⟩
       rw [Hp.out]
       have hA1 := blk_below hb1 (lt_of_some HA.out) HA.out
       have hP1 := blk_below hb1 (lt_of_some HP.out) HP.out
       have hB1 := HB.out.trans (hb1.mono HB.out.size)
       have hR1 := (Hrow.out.below HB.out (Nat.le_refl _)).below hb1 HB.out.size
       obtain ⟨_, _, he, blt, p0, p1, p2, p3, p4⟩ := span_cells hR1 k hk
       injection he with he
       injection he with hx1 hx2
       subst hx1; subst hx2
       rw [hs] at p0 p1 p2 p3 p4
       have HR1 := Lib.hid hR1
       obtain ⟨m0, m1, m2, m3, m4, m5, m6, m7, m8, m9, m10, mlt⟩ := map_cells hA1
       clear hR1
       have HA1 := Lib.hid hA1; have HP1 := Lib.hid hP1; have HB1 := Lib.hid hB1
       clear hb1 hA1 hP1 hB1))
  have hA2 := blk_below (al (w := w1) s.blk) (lt_of_some HA1.out) HA1.out
  have hP2 := blk_below (al (w := w1) s.blk) (lt_of_some HP1.out) HP1.out
  have hS2 := heap_alloc_new w1 s.blk
  have hB2 := HB1.out.trans ((al (w := w1) s.blk).mono HB1.out.size)
  have hrow := HR1.out.below (al (w := w1) s.blk) HB1.out.size
  change Code.wp _ _ _ _ (w1.alloc s.blk)
  have Hw := Lib.hid (rfl : w1.heap.size = w1.heap.size)
  generalize w1.alloc s.blk = w2 at *
  clear m0 m1 m2 m3 m4 m5 m6 m7 m8 m9 m10 mlt n0 n1 n2 n3 n4 n5 n6 n7 nlt
  obtain ⟨m0, m1, m2, m3, m4, m5, m6, m7, m8, m9, m10, mlt⟩ := map_cells hA2
  obtain ⟨n0, n1, n2, n3, n4, n5, n6, n7, nlt⟩ := plan_blk hP2
  obtain ⟨s0, s1, s2, s3, s4, slt⟩ := span_blk hS2
  have kd := Hkd.out
  have g0 := Hg0.out
  have hi := Hhi.out
  have g2 := Hg2.out
  have HB2 := Lib.hid hB2; have HA2 := Lib.hid hA2
  clear hA2 hP2 hS2 hB2 hrow
  go_wp2_with (first
    | (go_at_call 63
       refine (rInside_raw _ _ _ _ _ _ _ _ s rfl rfl hi hks).mono ?_
       rintro e w3 ⟨rfl, hb3⟩
       have hA3 := blk_below hb3 (lt_of_some HA2.out) HA2.out
       have HB3 := Lib.hid (HB2.out.trans (hb3.mono HB2.out.size))
       obtain ⟨x0, x1, x2, x3, x4, x5, x6, x7, x8, x9, x10, xlt⟩ := map_cells hA3
       clear hb3 hA3))
  go_ret
  exact ⟨rfl, HB3.out⟩
set_option maxRecDepth 100000 in
set_option maxHeartbeats 4000000 in
theorem fault_split3 (w : World) (A : Option Addr) (cap : Nat) (a : Atl) (k : Nat) (s : Span) (p : Plan) (hrow : RowAt w w.heap.size 5 A (a.sp.map Span.cells)) (hlen : a.sp.length ≤ 16) (hks : p.key.size ≤ 9223372036854775807)
    (b0 : a.plan.kind = 0) (b1 : ¬ p.kind < 1) (b2 : ¬ 3 < p.kind) (hk : k < a.sp.length) (hs : a.sp[k] = s) (hp : place a.sp p.shard = (k : Int)) (kd : p.kind = 2) (g0 : ¬ 1099511627774 < s.ep) (hi : inside s p.key = true) (g2 : ¬ (16 : Int) ≤ (a.sp.length : Int)) (g3 : 1099511627776 ≤ a.last) :
    Calls Try.prog 43 #[a.val (.slice A a.sp.length cap), p.val] w fun e w' => e = .returned (.int .i64 3) ∧ Below w.heap.size w w' := by
  obtain ⟨b, off, rfl, hb, _, _, _, _, _⟩ := span_cells hrow k hk
  have Hrow := Lib.hid hrow; have Hp := Lib.hid hp; clear hrow hp
  have Hb0 := Lib.hid b0
  have Hb1 := Lib.hid b1
  have Hb2 := Lib.hid b2
  clear b0 b1 b2
  have Hkd := Lib.hid kd
  have Hg0 := Lib.hid g0
  have Hhi := Lib.hid hi
  have Hg2 := Lib.hid g2
  have Hg3 := Lib.hid g3
  clear kd g0 hi g2 g3
  have hk1 : (0 : Int) ≤ (k : Int) := by omega
  have hk2 : (k : Int) < (a.sp.length : Int) := by omega
  have hk0 : ¬ (k : Int) < 0 := by omega
  have hw1 : IntKind.i64.wrap ((k : Int) + 1) = (k : Int) + 1 := IntWalk.i64_in _ (by omega)
  have hk3 : (0 : Int) ≤ (k : Int) + 1 := by omega
  have hk4 : ((k : Int) + 1).toNat = k + 1 := by omega
  go_enter Try.func43, Try.ntmps43
  go_upto_region 1 with fail
  have hA : ((w.alloc (a.blk (.slice (some ⟨b, off, none⟩) a.sp.length cap))).alloc p.blk).heap[w.heap.size]? = some (a.blk (.slice (some ⟨b, off, none⟩) a.sp.length cap)) := (Below.heap_alloc _ _ _ (by simp)).trans (heap_alloc_new w _)
  have hP : ((w.alloc (a.blk (.slice (some ⟨b, off, none⟩) a.sp.length cap))).alloc p.blk).heap[w.heap.size + 1]? = some p.blk := heap_second _ _ _
  have hB : Below w.heap.size w ((w.alloc (a.blk (.slice (some ⟨b, off, none⟩) a.sp.length cap))).alloc p.blk) := al2 _ _
  change Code.wp _ _ _ _ ((w.alloc (a.blk (.slice (some ⟨b, off, none⟩) a.sp.length cap))).alloc p.blk)
  generalize (w.alloc (a.blk (.slice (some ⟨b, off, none⟩) a.sp.length cap))).alloc p.blk = w0 at *
  obtain ⟨m0, m1, m2, m3, m4, m5, m6, m7, m8, m9, m10, mlt⟩ := map_cells hA
  obtain ⟨n0, n1, n2, n3, n4, n5, n6, n7, nlt⟩ := plan_blk hP
  have HA := Lib.hid hA; have HP := Lib.hid hP; have HB := Lib.hid hB
  clear hA hP hB
  have b0 := Hb0.out
  have b1 := Hb1.out
  have b2 := Hb2.out
  go_upto_region 9 with (first
    | (go_at_call 32
       refine (rPlace_raw _ _ cap a.sp _ _ _ _ _ _ _ _ _ _ _ ((Hrow.out.below HB.out (Nat.le_refl _)).more HB.out.size) (by omega)).mono ?_
       rintro e w1 ⟨rfl, hb1⟩
       rw [Hp.out]
       have hA1 := blk_below hb1 (lt_of_some HA.out) HA.out
       have hP1 := blk_below hb1 (lt_of_some HP.out) HP.out
       have hB1 := HB.out.trans (hb1.mono HB.out.size)
       have hR1 := (Hrow.out.below HB.out (Nat.le_refl _)).below hb1 HB.out.size
       obtain ⟨_, _, he, blt, p0, p1, p2, p3, p4⟩ := span_cells hR1 k hk
       injection he with he
       injection he with hx1 hx2
       subst hx1; subst hx2
       rw [hs] at p0 p1 p2 p3 p4
       have HR1 := Lib.hid hR1
       obtain ⟨m0, m1, m2, m3, m4, m5, m6, m7, m8, m9, m10, mlt⟩ := map_cells hA1
       clear hR1
       have HA1 := Lib.hid hA1; have HP1 := Lib.hid hP1; have HB1 := Lib.hid hB1
       clear hb1 hA1 hP1 hB1))
  have hA2 := blk_below (al (w := w1) s.blk) (lt_of_some HA1.out) HA1.out
  have hP2 := blk_below (al (w := w1) s.blk) (lt_of_some HP1.out) HP1.out
  have hS2 := heap_alloc_new w1 s.blk
  have hB2 := HB1.out.trans ((al (w := w1) s.blk).mono HB1.out.size)
  have hrow := HR1.out.below (al (w := w1) s.blk) HB1.out.size
  change Code.wp _ _ _ _ (w1.alloc s.blk)
  have Hw := Lib.hid (rfl : w1.heap.size = w1.heap.size)
  generalize w1.alloc s.blk = w2 at *
  clear m0 m1 m2 m3 m4 m5 m6 m7 m8 m9 m10 mlt n0 n1 n2 n3 n4 n5 n6 n7 nlt
  obtain ⟨m0, m1, m2, m3, m4, m5, m6, m7, m8, m9, m10, mlt⟩ := map_cells hA2
  obtain ⟨n0, n1, n2, n3, n4, n5, n6, n7, nlt⟩ := plan_blk hP2
  obtain ⟨s0, s1, s2, s3, s4, slt⟩ := span_blk hS2
  have kd := Hkd.out
  have g0 := Hg0.out
  have hi := Hhi.out
  have g2 := Hg2.out
  have g3 := Hg3.out
  have HB2 := Lib.hid hB2; have HA2 := Lib.hid hA2
  clear hA2 hP2 hS2 hB2 hrow
  go_wp2_with (first
    | (go_at_call 63
       refine (rInside_raw _ _ _ _ _ _ _ _ s rfl rfl hi hks).mono ?_
       rintro e w3 ⟨rfl, hb3⟩
       have hA3 := blk_below hb3 (lt_of_some HA2.out) HA2.out
       have HB3 := Lib.hid (HB2.out.trans (hb3.mono HB2.out.size))
       obtain ⟨x0, x1, x2, x3, x4, x5, x6, x7, x8, x9, x10, xlt⟩ := map_cells hA3
       clear hb3 hA3))
  go_ret
  exact ⟨rfl, HB3.out⟩
set_option maxRecDepth 100000 in
set_option maxHeartbeats 4000000 in
theorem fault_split (w : World) (A : Option Addr) (cap : Nat) (a : Atl) (k : Nat) (s : Span) (p : Plan) (hrow : RowAt w w.heap.size 5 A (a.sp.map Span.cells)) (hlen : a.sp.length ≤ 16) (hks : p.key.size ≤ 9223372036854775807)
    (b0 : a.plan.kind = 0) (b1 : ¬ p.kind < 1) (b2 : ¬ 3 < p.kind) (hk : k < a.sp.length) (hs : a.sp[k] = s) (hp : place a.sp p.shard = (k : Int)) (kd : p.kind = 2) (g0 : ¬ 1099511627774 < s.ep) (hi : inside s p.key = true) (g2 : ¬ (16 : Int) ≤ (a.sp.length : Int)) (g3 : ¬ 1099511627776 ≤ a.last) :
    Calls Try.prog 43 #[a.val (.slice A a.sp.length cap), p.val] w fun e w' => e = .returned (.int .i64 0) ∧ Below w.heap.size w w' := by
  obtain ⟨b, off, rfl, hb, _, _, _, _, _⟩ := span_cells hrow k hk
  have Hrow := Lib.hid hrow; have Hp := Lib.hid hp; clear hrow hp
  have Hb0 := Lib.hid b0
  have Hb1 := Lib.hid b1
  have Hb2 := Lib.hid b2
  clear b0 b1 b2
  have Hkd := Lib.hid kd
  have Hg0 := Lib.hid g0
  have Hhi := Lib.hid hi
  have Hg2 := Lib.hid g2
  have Hg3 := Lib.hid g3
  clear kd g0 hi g2 g3
  have hk1 : (0 : Int) ≤ (k : Int) := by omega
  have hk2 : (k : Int) < (a.sp.length : Int) := by omega
  have hk0 : ¬ (k : Int) < 0 := by omega
  have hw1 : IntKind.i64.wrap ((k : Int) + 1) = (k : Int) + 1 := IntWalk.i64_in _ (by omega)
  have hk3 : (0 : Int) ≤ (k : Int) + 1 := by omega
  have hk4 : ((k : Int) + 1).toNat = k + 1 := by omega
  go_enter Try.func43, Try.ntmps43
  go_upto_region 1 with fail
  have hA : ((w.alloc (a.blk (.slice (some ⟨b, off, none⟩) a.sp.length cap))).alloc p.blk).heap[w.heap.size]? = some (a.blk (.slice (some ⟨b, off, none⟩) a.sp.length cap)) := (Below.heap_alloc _ _ _ (by simp)).trans (heap_alloc_new w _)
  have hP : ((w.alloc (a.blk (.slice (some ⟨b, off, none⟩) a.sp.length cap))).alloc p.blk).heap[w.heap.size + 1]? = some p.blk := heap_second _ _ _
  have hB : Below w.heap.size w ((w.alloc (a.blk (.slice (some ⟨b, off, none⟩) a.sp.length cap))).alloc p.blk) := al2 _ _
  change Code.wp _ _ _ _ ((w.alloc (a.blk (.slice (some ⟨b, off, none⟩) a.sp.length cap))).alloc p.blk)
  generalize (w.alloc (a.blk (.slice (some ⟨b, off, none⟩) a.sp.length cap))).alloc p.blk = w0 at *
  obtain ⟨m0, m1, m2, m3, m4, m5, m6, m7, m8, m9, m10, mlt⟩ := map_cells hA
  obtain ⟨n0, n1, n2, n3, n4, n5, n6, n7, nlt⟩ := plan_blk hP
  have HA := Lib.hid hA; have HP := Lib.hid hP; have HB := Lib.hid hB
  clear hA hP hB
  have b0 := Hb0.out
  have b1 := Hb1.out
  have b2 := Hb2.out
  go_upto_region 9 with (first
    | (go_at_call 32
       refine (rPlace_raw _ _ cap a.sp _ _ _ _ _ _ _ _ _ _ _ ((Hrow.out.below HB.out (Nat.le_refl _)).more HB.out.size) (by omega)).mono ?_
       rintro e w1 ⟨rfl, hb1⟩
       rw [Hp.out]
       have hA1 := blk_below hb1 (lt_of_some HA.out) HA.out
       have hP1 := blk_below hb1 (lt_of_some HP.out) HP.out
       have hB1 := HB.out.trans (hb1.mono HB.out.size)
       have hR1 := (Hrow.out.below HB.out (Nat.le_refl _)).below hb1 HB.out.size
       obtain ⟨_, _, he, blt, p0, p1, p2, p3, p4⟩ := span_cells hR1 k hk
       injection he with he
       injection he with hx1 hx2
       subst hx1; subst hx2
       rw [hs] at p0 p1 p2 p3 p4
       have HR1 := Lib.hid hR1
       obtain ⟨m0, m1, m2, m3, m4, m5, m6, m7, m8, m9, m10, mlt⟩ := map_cells hA1
       clear hR1
       have HA1 := Lib.hid hA1; have HP1 := Lib.hid hP1; have HB1 := Lib.hid hB1
       clear hb1 hA1 hP1 hB1))
  have hA2 := blk_below (al (w := w1) s.blk) (lt_of_some HA1.out) HA1.out
  have hP2 := blk_below (al (w := w1) s.blk) (lt_of_some HP1.out) HP1.out
  have hS2 := heap_alloc_new w1 s.blk
  have hB2 := HB1.out.trans ((al (w := w1) s.blk).mono HB1.out.size)
  have hrow := HR1.out.below (al (w := w1) s.blk) HB1.out.size
  change Code.wp _ _ _ _ (w1.alloc s.blk)
  have Hw := Lib.hid (rfl : w1.heap.size = w1.heap.size)
  generalize w1.alloc s.blk = w2 at *
  clear m0 m1 m2 m3 m4 m5 m6 m7 m8 m9 m10 mlt n0 n1 n2 n3 n4 n5 n6 n7 nlt
  obtain ⟨m0, m1, m2, m3, m4, m5, m6, m7, m8, m9, m10, mlt⟩ := map_cells hA2
  obtain ⟨n0, n1, n2, n3, n4, n5, n6, n7, nlt⟩ := plan_blk hP2
  obtain ⟨s0, s1, s2, s3, s4, slt⟩ := span_blk hS2
  have kd := Hkd.out
  have g0 := Hg0.out
  have hi := Hhi.out
  have g2 := Hg2.out
  have g3 := Hg3.out
  have HB2 := Lib.hid hB2; have HA2 := Lib.hid hA2
  clear hA2 hP2 hS2 hB2 hrow
  go_wp2_with (first
    | (go_at_call 63
       refine (rInside_raw _ _ _ _ _ _ _ _ s rfl rfl hi hks).mono ?_
       rintro e w3 ⟨rfl, hb3⟩
       have hA3 := blk_below hb3 (lt_of_some HA2.out) HA2.out
       have HB3 := Lib.hid (HB2.out.trans (hb3.mono HB2.out.size))
       obtain ⟨x0, x1, x2, x3, x4, x5, x6, x7, x8, x9, x10, xlt⟩ := map_cells hA3
       clear hb3 hA3))
  go_ret
  exact ⟨rfl, HB3.out⟩
set_option maxRecDepth 100000 in
set_option maxHeartbeats 4000000 in
theorem fault_merge1 (w : World) (A : Option Addr) (cap : Nat) (a : Atl) (k : Nat) (s : Span) (p : Plan) (hrow : RowAt w w.heap.size 5 A (a.sp.map Span.cells)) (hlen : a.sp.length ≤ 16) (hks : p.key.size ≤ 9223372036854775807)
    (b0 : a.plan.kind = 0) (b1 : ¬ p.kind < 1) (b2 : ¬ 3 < p.kind) (hk : k < a.sp.length) (hs : a.sp[k] = s) (hp : place a.sp p.shard = (k : Int)) (kd : p.kind = 3) (g0 : ¬ 1099511627774 < s.ep) (hl : (k : Int) + 1 = (a.sp.length : Int)) (hl2' : ((k : Int) + 1 == (a.sp.length : Int)) = true) :
    Calls Try.prog 43 #[a.val (.slice A a.sp.length cap), p.val] w fun e w' => e = .returned (.int .i64 170) ∧ Below w.heap.size w w' := by
  obtain ⟨b, off, rfl, hb, _, _, _, _, _⟩ := span_cells hrow k hk
  have Hrow := Lib.hid hrow; have Hp := Lib.hid hp; clear hrow hp
  have Hb0 := Lib.hid b0
  have Hb1 := Lib.hid b1
  have Hb2 := Lib.hid b2
  clear b0 b1 b2
  have Hkd := Lib.hid kd
  have Hg0 := Lib.hid g0
  have Hhl := Lib.hid hl
  have Hhl2' := Lib.hid hl2'
  clear kd g0 hl hl2'
  have hk1 : (0 : Int) ≤ (k : Int) := by omega
  have hk2 : (k : Int) < (a.sp.length : Int) := by omega
  have hk0 : ¬ (k : Int) < 0 := by omega
  have hw1 : IntKind.i64.wrap ((k : Int) + 1) = (k : Int) + 1 := IntWalk.i64_in _ (by omega)
  have hk3 : (0 : Int) ≤ (k : Int) + 1 := by omega
  have hk4 : ((k : Int) + 1).toNat = k + 1 := by omega
  go_enter Try.func43, Try.ntmps43
  go_upto_region 1 with fail
  have hA : ((w.alloc (a.blk (.slice (some ⟨b, off, none⟩) a.sp.length cap))).alloc p.blk).heap[w.heap.size]? = some (a.blk (.slice (some ⟨b, off, none⟩) a.sp.length cap)) := (Below.heap_alloc _ _ _ (by simp)).trans (heap_alloc_new w _)
  have hP : ((w.alloc (a.blk (.slice (some ⟨b, off, none⟩) a.sp.length cap))).alloc p.blk).heap[w.heap.size + 1]? = some p.blk := heap_second _ _ _
  have hB : Below w.heap.size w ((w.alloc (a.blk (.slice (some ⟨b, off, none⟩) a.sp.length cap))).alloc p.blk) := al2 _ _
  change Code.wp _ _ _ _ ((w.alloc (a.blk (.slice (some ⟨b, off, none⟩) a.sp.length cap))).alloc p.blk)
  generalize (w.alloc (a.blk (.slice (some ⟨b, off, none⟩) a.sp.length cap))).alloc p.blk = w0 at *
  obtain ⟨m0, m1, m2, m3, m4, m5, m6, m7, m8, m9, m10, mlt⟩ := map_cells hA
  obtain ⟨n0, n1, n2, n3, n4, n5, n6, n7, nlt⟩ := plan_blk hP
  have HA := Lib.hid hA; have HP := Lib.hid hP; have HB := Lib.hid hB
  clear hA hP hB
  have b0 := Hb0.out
  have b1 := Hb1.out
  have b2 := Hb2.out
  go_upto_region 9 with (first
    | (go_at_call 32
       refine (rPlace_raw _ _ cap a.sp _ _ _ _ _ _ _ _ _ _ _ ((Hrow.out.below HB.out (Nat.le_refl _)).more HB.out.size) (by omega)).mono ?_
       rintro e w1 ⟨rfl, hb1⟩
       rw [Hp.out]
       have hA1 := blk_below hb1 (lt_of_some HA.out) HA.out
       have hP1 := blk_below hb1 (lt_of_some HP.out) HP.out
       have hB1 := HB.out.trans (hb1.mono HB.out.size)
       have hR1 := (Hrow.out.below HB.out (Nat.le_refl _)).below hb1 HB.out.size
       obtain ⟨_, _, he, blt, p0, p1, p2, p3, p4⟩ := span_cells hR1 k hk
       injection he with he
       injection he with hx1 hx2
       subst hx1; subst hx2
       rw [hs] at p0 p1 p2 p3 p4
       have HR1 := Lib.hid hR1
       obtain ⟨m0, m1, m2, m3, m4, m5, m6, m7, m8, m9, m10, mlt⟩ := map_cells hA1
       clear hR1
       have HA1 := Lib.hid hA1; have HP1 := Lib.hid hP1; have HB1 := Lib.hid hB1
       clear hb1 hA1 hP1 hB1))
  have hA2 := blk_below (al (w := w1) s.blk) (lt_of_some HA1.out) HA1.out
  have hP2 := blk_below (al (w := w1) s.blk) (lt_of_some HP1.out) HP1.out
  have hS2 := heap_alloc_new w1 s.blk
  have hB2 := HB1.out.trans ((al (w := w1) s.blk).mono HB1.out.size)
  have hrow := HR1.out.below (al (w := w1) s.blk) HB1.out.size
  change Code.wp _ _ _ _ (w1.alloc s.blk)
  have Hw := Lib.hid (rfl : w1.heap.size = w1.heap.size)
  generalize w1.alloc s.blk = w2 at *
  clear m0 m1 m2 m3 m4 m5 m6 m7 m8 m9 m10 mlt n0 n1 n2 n3 n4 n5 n6 n7 nlt
  obtain ⟨m0, m1, m2, m3, m4, m5, m6, m7, m8, m9, m10, mlt⟩ := map_cells hA2
  obtain ⟨n0, n1, n2, n3, n4, n5, n6, n7, nlt⟩ := plan_blk hP2
  obtain ⟨s0, s1, s2, s3, s4, slt⟩ := span_blk hS2
  have kd := Hkd.out
  have g0 := Hg0.out
  have hl := Hhl.out
  have hl2' := Hhl2'.out
  have HB2 := Lib.hid hB2; have HA2 := Lib.hid hA2
  clear hA2 hP2 hS2 hB2 hrow
  go_upto_region 22 with fail
  go_quiet (fail)
  go_wp2_with fail
  go_ret
  exact ⟨rfl, HB2.out.trans ⟨rfl, rfl, rfl, Nat.le_refl _, fun _ _ => rfl⟩⟩
set_option maxRecDepth 100000 in
set_option maxHeartbeats 4000000 in
theorem fault_merge2 (w : World) (A : Option Addr) (cap : Nat) (a : Atl) (k : Nat) (s : Span) (p : Plan) (hrow : RowAt w w.heap.size 5 A (a.sp.map Span.cells)) (hlen : a.sp.length ≤ 16) (hks : p.key.size ≤ 9223372036854775807)
    (b0 : a.plan.kind = 0) (b1 : ¬ p.kind < 1) (b2 : ¬ 3 < p.kind) (hk : k < a.sp.length) (hs : a.sp[k] = s) (hp : place a.sp p.shard = (k : Int)) (hk5 : k + 1 < a.sp.length) (u : Span) (hu : a.sp[k+1] = u) (kd : p.kind = 3) (g0 : ¬ 1099511627774 < s.ep) (g1 : ¬ 1099511627774 < u.ep) (g5 : ((k : Int) + 1 == (a.sp.length : Int)) = false) (g6 : ¬ (k : Int) + 1 = (a.sp.length : Int)) (g4 : ¬ u.gr = s.gr) (g7 : (u.gr == s.gr) = false) :
    Calls Try.prog 43 #[a.val (.slice A a.sp.length cap), p.val] w fun e w' => e = .returned (.int .i64 170) ∧ Below w.heap.size w w' := by
  obtain ⟨b, off, rfl, hb, _, _, _, _, _⟩ := span_cells hrow k hk
  have Hrow := Lib.hid hrow; have Hp := Lib.hid hp; clear hrow hp
  have Hb0 := Lib.hid b0
  have Hb1 := Lib.hid b1
  have Hb2 := Lib.hid b2
  clear b0 b1 b2
  have Hkd := Lib.hid kd
  have Hg0 := Lib.hid g0
  have Hg1 := Lib.hid g1
  have Hg5 := Lib.hid g5
  have Hg6 := Lib.hid g6
  have Hg4 := Lib.hid g4
  have Hg7 := Lib.hid g7
  clear kd g0 g1 g5 g6 g4 g7
  have hk1 : (0 : Int) ≤ (k : Int) := by omega
  have hk2 : (k : Int) < (a.sp.length : Int) := by omega
  have hk0 : ¬ (k : Int) < 0 := by omega
  have hw1 : IntKind.i64.wrap ((k : Int) + 1) = (k : Int) + 1 := IntWalk.i64_in _ (by omega)
  have hk3 : (0 : Int) ≤ (k : Int) + 1 := by omega
  have hk4 : ((k : Int) + 1).toNat = k + 1 := by omega
  go_enter Try.func43, Try.ntmps43
  go_upto_region 1 with fail
  have hA : ((w.alloc (a.blk (.slice (some ⟨b, off, none⟩) a.sp.length cap))).alloc p.blk).heap[w.heap.size]? = some (a.blk (.slice (some ⟨b, off, none⟩) a.sp.length cap)) := (Below.heap_alloc _ _ _ (by simp)).trans (heap_alloc_new w _)
  have hP : ((w.alloc (a.blk (.slice (some ⟨b, off, none⟩) a.sp.length cap))).alloc p.blk).heap[w.heap.size + 1]? = some p.blk := heap_second _ _ _
  have hB : Below w.heap.size w ((w.alloc (a.blk (.slice (some ⟨b, off, none⟩) a.sp.length cap))).alloc p.blk) := al2 _ _
  change Code.wp _ _ _ _ ((w.alloc (a.blk (.slice (some ⟨b, off, none⟩) a.sp.length cap))).alloc p.blk)
  generalize (w.alloc (a.blk (.slice (some ⟨b, off, none⟩) a.sp.length cap))).alloc p.blk = w0 at *
  obtain ⟨m0, m1, m2, m3, m4, m5, m6, m7, m8, m9, m10, mlt⟩ := map_cells hA
  obtain ⟨n0, n1, n2, n3, n4, n5, n6, n7, nlt⟩ := plan_blk hP
  have HA := Lib.hid hA; have HP := Lib.hid hP; have HB := Lib.hid hB
  clear hA hP hB
  have b0 := Hb0.out
  have b1 := Hb1.out
  have b2 := Hb2.out
  go_upto_region 9 with (first
    | (go_at_call 32
       refine (rPlace_raw _ _ cap a.sp _ _ _ _ _ _ _ _ _ _ _ ((Hrow.out.below HB.out (Nat.le_refl _)).more HB.out.size) (by omega)).mono ?_
       rintro e w1 ⟨rfl, hb1⟩
       rw [Hp.out]
       have hA1 := blk_below hb1 (lt_of_some HA.out) HA.out
       have hP1 := blk_below hb1 (lt_of_some HP.out) HP.out
       have hB1 := HB.out.trans (hb1.mono HB.out.size)
       have hR1 := (Hrow.out.below HB.out (Nat.le_refl _)).below hb1 HB.out.size
       obtain ⟨_, _, he, blt, p0, p1, p2, p3, p4⟩ := span_cells hR1 k hk
       injection he with he
       injection he with hx1 hx2
       subst hx1; subst hx2
       rw [hs] at p0 p1 p2 p3 p4
       have HR1 := Lib.hid hR1
       obtain ⟨m0, m1, m2, m3, m4, m5, m6, m7, m8, m9, m10, mlt⟩ := map_cells hA1
       clear hR1
       have HA1 := Lib.hid hA1; have HP1 := Lib.hid hP1; have HB1 := Lib.hid hB1
       clear hb1 hA1 hP1 hB1))
  have hA2 := blk_below (al (w := w1) s.blk) (lt_of_some HA1.out) HA1.out
  have hP2 := blk_below (al (w := w1) s.blk) (lt_of_some HP1.out) HP1.out
  have hS2 := heap_alloc_new w1 s.blk
  have hB2 := HB1.out.trans ((al (w := w1) s.blk).mono HB1.out.size)
  have hrow := HR1.out.below (al (w := w1) s.blk) HB1.out.size
  change Code.wp _ _ _ _ (w1.alloc s.blk)
  have Hw := Lib.hid (rfl : w1.heap.size = w1.heap.size)
  generalize w1.alloc s.blk = w2 at *
  clear m0 m1 m2 m3 m4 m5 m6 m7 m8 m9 m10 mlt n0 n1 n2 n3 n4 n5 n6 n7 nlt
  obtain ⟨m0, m1, m2, m3, m4, m5, m6, m7, m8, m9, m10, mlt⟩ := map_cells hA2
  obtain ⟨n0, n1, n2, n3, n4, n5, n6, n7, nlt⟩ := plan_blk hP2
  obtain ⟨s0, s1, s2, s3, s4, slt⟩ := span_blk hS2
  obtain ⟨_, _, he, blt, v0, v1, v2, v3, v4⟩ := span_cells hrow (k + 1) hk5
  injection he with he
  injection he with hx1 hx2
  subst hx1; subst hx2
  rw [hu] at v0 v1 v2 v3 v4
  have hk6 : (k : Int) + 1 < (a.sp.length : Int) := by omega
  have kd := Hkd.out
  have g0 := Hg0.out
  have g1 := Hg1.out
  have g5 := Hg5.out
  have g6 := Hg6.out
  have g4 := Hg4.out
  have g7 := Hg7.out
  have HB2 := Lib.hid hB2; have HA2 := Lib.hid hA2
  clear hA2 hP2 hS2 hB2 hrow
  go_upto_region 22 with fail
  go_quiet (fail)
  go_wp2_with fail
  go_ret
  exact ⟨rfl, HB2.out.trans ⟨rfl, rfl, rfl, Nat.le_refl _, fun _ _ => rfl⟩⟩
set_option maxRecDepth 100000 in
set_option maxHeartbeats 4000000 in
theorem fault_merge (w : World) (A : Option Addr) (cap : Nat) (a : Atl) (k : Nat) (s : Span) (p : Plan) (hrow : RowAt w w.heap.size 5 A (a.sp.map Span.cells)) (hlen : a.sp.length ≤ 16) (hks : p.key.size ≤ 9223372036854775807)
    (b0 : a.plan.kind = 0) (b1 : ¬ p.kind < 1) (b2 : ¬ 3 < p.kind) (hk : k < a.sp.length) (hs : a.sp[k] = s) (hp : place a.sp p.shard = (k : Int)) (hk5 : k + 1 < a.sp.length) (u : Span) (hu : a.sp[k+1] = u) (kd : p.kind = 3) (g0 : ¬ 1099511627774 < s.ep) (g1 : ¬ 1099511627774 < u.ep) (g5 : ((k : Int) + 1 == (a.sp.length : Int)) = false) (g6 : ¬ (k : Int) + 1 = (a.sp.length : Int)) (g4 : u.gr = s.gr) (g7 : (u.gr == s.gr) = true) :
    Calls Try.prog 43 #[a.val (.slice A a.sp.length cap), p.val] w fun e w' => e = .returned (.int .i64 0) ∧ Below w.heap.size w w' := by
  obtain ⟨b, off, rfl, hb, _, _, _, _, _⟩ := span_cells hrow k hk
  have Hrow := Lib.hid hrow; have Hp := Lib.hid hp; clear hrow hp
  have Hb0 := Lib.hid b0
  have Hb1 := Lib.hid b1
  have Hb2 := Lib.hid b2
  clear b0 b1 b2
  have Hkd := Lib.hid kd
  have Hg0 := Lib.hid g0
  have Hg1 := Lib.hid g1
  have Hg5 := Lib.hid g5
  have Hg6 := Lib.hid g6
  have Hg4 := Lib.hid g4
  have Hg7 := Lib.hid g7
  clear kd g0 g1 g5 g6 g4 g7
  have hk1 : (0 : Int) ≤ (k : Int) := by omega
  have hk2 : (k : Int) < (a.sp.length : Int) := by omega
  have hk0 : ¬ (k : Int) < 0 := by omega
  have hw1 : IntKind.i64.wrap ((k : Int) + 1) = (k : Int) + 1 := IntWalk.i64_in _ (by omega)
  have hk3 : (0 : Int) ≤ (k : Int) + 1 := by omega
  have hk4 : ((k : Int) + 1).toNat = k + 1 := by omega
  go_enter Try.func43, Try.ntmps43
  go_upto_region 1 with fail
  have hA : ((w.alloc (a.blk (.slice (some ⟨b, off, none⟩) a.sp.length cap))).alloc p.blk).heap[w.heap.size]? = some (a.blk (.slice (some ⟨b, off, none⟩) a.sp.length cap)) := (Below.heap_alloc _ _ _ (by simp)).trans (heap_alloc_new w _)
  have hP : ((w.alloc (a.blk (.slice (some ⟨b, off, none⟩) a.sp.length cap))).alloc p.blk).heap[w.heap.size + 1]? = some p.blk := heap_second _ _ _
  have hB : Below w.heap.size w ((w.alloc (a.blk (.slice (some ⟨b, off, none⟩) a.sp.length cap))).alloc p.blk) := al2 _ _
  change Code.wp _ _ _ _ ((w.alloc (a.blk (.slice (some ⟨b, off, none⟩) a.sp.length cap))).alloc p.blk)
  generalize (w.alloc (a.blk (.slice (some ⟨b, off, none⟩) a.sp.length cap))).alloc p.blk = w0 at *
  obtain ⟨m0, m1, m2, m3, m4, m5, m6, m7, m8, m9, m10, mlt⟩ := map_cells hA
  obtain ⟨n0, n1, n2, n3, n4, n5, n6, n7, nlt⟩ := plan_blk hP
  have HA := Lib.hid hA; have HP := Lib.hid hP; have HB := Lib.hid hB
  clear hA hP hB
  have b0 := Hb0.out
  have b1 := Hb1.out
  have b2 := Hb2.out
  go_upto_region 9 with (first
    | (go_at_call 32
       refine (rPlace_raw _ _ cap a.sp _ _ _ _ _ _ _ _ _ _ _ ((Hrow.out.below HB.out (Nat.le_refl _)).more HB.out.size) (by omega)).mono ?_
       rintro e w1 ⟨rfl, hb1⟩
       rw [Hp.out]
       have hA1 := blk_below hb1 (lt_of_some HA.out) HA.out
       have hP1 := blk_below hb1 (lt_of_some HP.out) HP.out
       have hB1 := HB.out.trans (hb1.mono HB.out.size)
       have hR1 := (Hrow.out.below HB.out (Nat.le_refl _)).below hb1 HB.out.size
       obtain ⟨_, _, he, blt, p0, p1, p2, p3, p4⟩ := span_cells hR1 k hk
       injection he with he
       injection he with hx1 hx2
       subst hx1; subst hx2
       rw [hs] at p0 p1 p2 p3 p4
       have HR1 := Lib.hid hR1
       obtain ⟨m0, m1, m2, m3, m4, m5, m6, m7, m8, m9, m10, mlt⟩ := map_cells hA1
       clear hR1
       have HA1 := Lib.hid hA1; have HP1 := Lib.hid hP1; have HB1 := Lib.hid hB1
       clear hb1 hA1 hP1 hB1))
  have hA2 := blk_below (al (w := w1) s.blk) (lt_of_some HA1.out) HA1.out
  have hP2 := blk_below (al (w := w1) s.blk) (lt_of_some HP1.out) HP1.out
  have hS2 := heap_alloc_new w1 s.blk
  have hB2 := HB1.out.trans ((al (w := w1) s.blk).mono HB1.out.size)
  have hrow := HR1.out.below (al (w := w1) s.blk) HB1.out.size
  change Code.wp _ _ _ _ (w1.alloc s.blk)
  have Hw := Lib.hid (rfl : w1.heap.size = w1.heap.size)
  generalize w1.alloc s.blk = w2 at *
  clear m0 m1 m2 m3 m4 m5 m6 m7 m8 m9 m10 mlt n0 n1 n2 n3 n4 n5 n6 n7 nlt
  obtain ⟨m0, m1, m2, m3, m4, m5, m6, m7, m8, m9, m10, mlt⟩ := map_cells hA2
  obtain ⟨n0, n1, n2, n3, n4, n5, n6, n7, nlt⟩ := plan_blk hP2
  obtain ⟨s0, s1, s2, s3, s4, slt⟩ := span_blk hS2
  obtain ⟨_, _, he, blt, v0, v1, v2, v3, v4⟩ := span_cells hrow (k + 1) hk5
  injection he with he
  injection he with hx1 hx2
  subst hx1; subst hx2
  rw [hu] at v0 v1 v2 v3 v4
  have hk6 : (k : Int) + 1 < (a.sp.length : Int) := by omega
  have kd := Hkd.out
  have g0 := Hg0.out
  have g1 := Hg1.out
  have g5 := Hg5.out
  have g6 := Hg6.out
  have g4 := Hg4.out
  have g7 := Hg7.out
  have HB2 := Lib.hid hB2; have HA2 := Lib.hid hA2
  clear hA2 hP2 hS2 hB2 hrow
  go_upto_region 22 with fail
  go_quiet (fail)
  go_wp2_with fail
  go_ret
  exact ⟨rfl, HB2.out.trans ⟨rfl, rfl, rfl, Nat.le_refl _, fun _ _ => rfl⟩⟩
end Go.Proofs.Ytimondpollbdfaa
