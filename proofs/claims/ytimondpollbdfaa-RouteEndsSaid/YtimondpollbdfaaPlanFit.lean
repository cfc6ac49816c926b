/- What is proved: whether a plan fits its map: the program's planned, case by case. -/
import Derived.Test.YtimondpollbdfaaPlanSplit
set_option linter.unusedVariables false
set_option linter.unusedSimpArgs false
namespace Go.Proofs.Ytimondpollbdfaa
open Go.RowKit
attribute [local go_sem] Span.val Atl.val Plan.val
attribute [local go_sem high] run_eql_eqP run_neq_eqP run_eql_eqS run_neq_eqS

theorem place_raw (w : World) (A : Option Addr) (cap : Nat) (sp : List Span) (x g l k ph sh ot gr pa ep : Int) (key : ByteArray) (hrow : RowAt w w.heap.size 5 A (sp.map Span.cells)) (hlen : sp.length ≤ 9223372036854775807) :
    Calls Try.prog 41 #[.agg #[.int .i64 g, .int .i64 l, .slice A sp.length cap, .int .i64 k, .int .i64 ph, .int .i64 sh, .int .i64 ot, .int .i64 gr, .int .i64 pa, .int .i64 ep, .string key], .int .i64 x] w fun e w' => e = .returned (.int .i64 (place sp x)) ∧ Below w.heap.size w w' :=
  place_any w A cap ⟨g, l, sp, ⟨k, ph, sh, ot, gr, pa, ep, key⟩⟩ x hrow hlen
theorem inside_raw (w : World) (fr tt key : ByteArray) (x y z : Int) (b : Bool) (s : Span) (h1 : s.fr = fr) (h2 : s.to = tt) (hb : inside s key = b) (hk : key.size ≤ 9223372036854775807) :
    Calls Try.prog 66 #[.agg #[.string fr, .string tt, .int .i64 x, .int .i64 y, .int .i64 z], .string key] w fun e w' => e = .returned (.bool b) ∧ Below w.heap.size w w' := by
  subst h1; subst h2; subst hb
  exact inside_any ⟨s.fr, s.to, x, y, z⟩ key hk w
theorem blk5 {w : World} {g ty : Nat} {p q r s t : Value} (h : w.heap[g]? = some (.cells #[p, q, r, s, t] ty (0, 0))) :
    w.cell? ⟨g, 0, none⟩ = some p ∧ w.cell? ⟨g, 1, none⟩ = some q ∧ w.cell? ⟨g, 2, none⟩ = some r ∧ w.cell? ⟨g, 3, none⟩ = some s ∧ w.cell? ⟨g, 4, none⟩ = some t ∧ g < w.heap.size := by
  refine ⟨?_, ?_, ?_, ?_, ?_, lt_of_some h⟩
  all_goals simp [World.cell?, h]
set_option maxRecDepth 100000 in
set_option maxHeartbeats 4000000 in
theorem split00 (w : World) (A : Option Addr) (cap : Nat) (a : Atl) (k : Nat) (s : Span) (hz : isZ a.plan = false) (hrow : RowAt w w.heap.size 5 A (a.sp.map Span.cells)) (hlen : a.sp.length ≤ 16) (he1 : 1 ≤ s.ep) (he2 : s.ep ≤ 1099511627776) (hks : a.plan.key.size ≤ 9223372036854775807)
    (hk : k < a.sp.length) (hs : a.sp[k] = s) (hp : place a.sp a.plan.shard = (k : Int)) (hq1 : 1 ≤ a.plan.epoch) (hq2 : a.plan.epoch ≤ 1099511627774) (k0 : a.plan.kind = 2) (f0 : a.plan.past = 0) (f1 : s.gr = a.plan.group) (f2 : a.plan.phase = 1) (f3 : s.ep = a.plan.epoch) (f4 : ¬ a.plan.other = a.last) :
    Calls Try.prog 53 #[a.val (.slice A a.sp.length cap)] w fun e w' => e = .returned (.bool false) ∧ Below w.heap.size w w' := by
  unfold isZ at hz
  have hpl := fun w hr => place_any w A cap a a.plan.shard hr (by omega)
  rw [hp] at hpl
  obtain ⟨b, off, rfl, hb, p0, p1, p2, p3, p4⟩ := span_cells hrow k hk
  have Hrow := Lib.hid hrow; have Hpl := Lib.hid hpl
  clear hrow hpl hp p0 p1 p2 p3 p4
  have hk1 : (0 : Int) ≤ (k : Int) := by omega
  have hk2 : (k : Int) < (a.sp.length : Int) := by omega
  have hw6 : IntKind.i64.wrap (s.ep - 2) = s.ep - 2 := IntWalk.i64_in _ (by omega)
  have hw7 : IntKind.i64.wrap (a.plan.epoch - 2) = a.plan.epoch - 2 := IntWalk.i64_in _ (by omega)
  have F0 := Lib.hid f0; have F1 := Lib.hid f1; have F2 := Lib.hid f2; have F3 := Lib.hid f3; have F4 := Lib.hid f4; clear f0 f1 f2 f3 f4
  have Hk := Lib.hid k0; clear k0
  go_enter Try.func53, Try.ntmps53
  go_wp2_with (first
    | (go_at_call 41
       have _h := HK
       refine (place_raw _ _ cap a.sp _ _ _ _ _ _ _ _ _ _ _ (HK.out.later (al _)).row (by omega)).mono ?_
       rintro e w4 ⟨rfl, hb4⟩
       have hK4 := HK.out.later ((al (w := w1) _).trans (hb4.mono (by simp)))
       have hS4 := blk_below hb4 (by simp) (heap_alloc_new w1 _)
       obtain ⟨m0, m1, m2, m3, m4, m5, m6, m7, m8, m9, m10, mlt⟩ := map_cells hK4.map
       obtain ⟨n0, n1, n2, n3, n4, n5, n6, n7, nlt⟩ := plan_blk hK4.plan
       obtain ⟨t0, t1, t2, t3, t4, tlt⟩ := blk5 hS4
       have HK4 := Lib.hid hK4
       clear hb4 hK4 hS4)
    | (go_at_call 66
       have _h := F6
       refine (inside_raw _ _ _ _ _ _ _ _ s rfl rfl F6.out hks).mono ?_
       rintro e w5 ⟨rfl, hb5⟩
       have hK5 := HK4.out.later hb5
       obtain ⟨m0, m1, m2, m3, m4, m5, m6, m7, m8, m9, m10, mlt⟩ := map_cells hK5.map
       have HK5 := Lib.hid hK5
       clear hb5 hK5)
    | (go_at_call 41
       refine (Hpl.out _ (Hrow.out.below (al2 _ _) (Nat.le_refl _) |>.more (by simp; omega))).mono ?_
       rintro e w1 ⟨rfl, hb1⟩
       have hK : Known w w1 b off cap k a s := known_of Hrow.out hb1
       obtain ⟨m0, m1, m2, m3, m4, m5, m6, m7, m8, m9, m10, mlt⟩ := map_cells hK.map
       obtain ⟨n0, n1, n2, n3, n4, n5, n6, n7, nlt⟩ := plan_blk hK.plan
       obtain ⟨_, _, he, blt, s0, s1, s2, s3, s4⟩ := span_cells hK.row k hk
       injection he with he
       injection he with hx1 hx2
       subst hx1; subst hx2
       rw [hs] at s0 s1 s2 s3 s4
       skip
       have HK := Lib.hid hK
       have f0 := F0.out; have f1 := F1.out; have f2 := F2.out; have f3 := F3.out; have f4 := F4.out; have k0 := Hk.out
       clear hb1 hK))
  go_ret
  exact ⟨rfl, (HK.out.later (al _)).bel⟩
set_option maxRecDepth 100000 in
set_option maxHeartbeats 4000000 in
theorem split01 (w : World) (A : Option Addr) (cap : Nat) (a : Atl) (k : Nat) (s : Span) (hz : isZ a.plan = false) (hrow : RowAt w w.heap.size 5 A (a.sp.map Span.cells)) (hlen : a.sp.length ≤ 16) (he1 : 1 ≤ s.ep) (he2 : s.ep ≤ 1099511627776) (hks : a.plan.key.size ≤ 9223372036854775807)
    (hk : k < a.sp.length) (hs : a.sp[k] = s) (hp : place a.sp a.plan.shard = (k : Int)) (hq1 : 1 ≤ a.plan.epoch) (hq2 : a.plan.epoch ≤ 1099511627774) (k0 : a.plan.kind = 2) (f0 : a.plan.past = 0) (f1 : s.gr = a.plan.group) (f2 : a.plan.phase = 1) (f3 : s.ep = a.plan.epoch) (f4 : a.plan.other = a.last) (f5 : ¬ place a.sp a.last < 0) :
    Calls Try.prog 53 #[a.val (.slice A a.sp.length cap)] w fun e w' => e = .returned (.bool false) ∧ Below w.heap.size w w' := by
  unfold isZ at hz
  have hpl := fun w hr => place_any w A cap a a.plan.shard hr (by omega)
  rw [hp] at hpl
  obtain ⟨b, off, rfl, hb, p0, p1, p2, p3, p4⟩ := span_cells hrow k hk
  have Hrow := Lib.hid hrow; have Hpl := Lib.hid hpl
  clear hrow hpl hp p0 p1 p2 p3 p4
  have hk1 : (0 : Int) ≤ (k : Int) := by omega
  have hk2 : (k : Int) < (a.sp.length : Int) := by omega
  have hw6 : IntKind.i64.wrap (s.ep - 2) = s.ep - 2 := IntWalk.i64_in _ (by omega)
  have hw7 : IntKind.i64.wrap (a.plan.epoch - 2) = a.plan.epoch - 2 := IntWalk.i64_in _ (by omega)
  have F0 := Lib.hid f0; have F1 := Lib.hid f1; have F2 := Lib.hid f2; have F3 := Lib.hid f3; have F4 := Lib.hid f4; have F5 := Lib.hid f5; clear f0 f1 f2 f3 f4 f5
  have Hk := Lib.hid k0; clear k0
  go_enter Try.func53, Try.ntmps53
  go_wp2_with (first
    | (go_at_call 41
       have _h := HK
       refine (place_raw _ _ cap a.sp _ _ _ _ _ _ _ _ _ _ _ (HK.out.later (al _)).row (by omega)).mono ?_
       rintro e w4 ⟨rfl, hb4⟩
       have hK4 := HK.out.later ((al (w := w1) _).trans (hb4.mono (by simp)))
       have hS4 := blk_below hb4 (by simp) (heap_alloc_new w1 _)
       obtain ⟨m0, m1, m2, m3, m4, m5, m6, m7, m8, m9, m10, mlt⟩ := map_cells hK4.map
       obtain ⟨n0, n1, n2, n3, n4, n5, n6, n7, nlt⟩ := plan_blk hK4.plan
       obtain ⟨t0, t1, t2, t3, t4, tlt⟩ := blk5 hS4
       have HK4 := Lib.hid hK4
       clear hb4 hK4 hS4)
    | (go_at_call 66
       have _h := F6
       refine (inside_raw _ _ _ _ _ _ _ _ s rfl rfl F6.out hks).mono ?_
       rintro e w5 ⟨rfl, hb5⟩
       have hK5 := HK4.out.later hb5
       obtain ⟨m0, m1, m2, m3, m4, m5, m6, m7, m8, m9, m10, mlt⟩ := map_cells hK5.map
       have HK5 := Lib.hid hK5
       clear hb5 hK5)
    | (go_at_call 41
       refine (Hpl.out _ (Hrow.out.below (al2 _ _) (Nat.le_refl _) |>.more (by simp; omega))).mono ?_
       rintro e w1 ⟨rfl, hb1⟩
       have hK : Known w w1 b off cap k a s := known_of Hrow.out hb1
       obtain ⟨m0, m1, m2, m3, m4, m5, m6, m7, m8, m9, m10, mlt⟩ := map_cells hK.map
       obtain ⟨n0, n1, n2, n3, n4, n5, n6, n7, nlt⟩ := plan_blk hK.plan
       obtain ⟨_, _, he, blt, s0, s1, s2, s3, s4⟩ := span_cells hK.row k hk
       injection he with he
       injection he with hx1 hx2
       subst hx1; subst hx2
       rw [hs] at s0 s1 s2 s3 s4
       skip
       have HK := Lib.hid hK
       have f0 := F0.out; have f1 := F1.out; have f2 := F2.out; have f3 := F3.out; have f4 := F4.out; have f5 := F5.out; have k0 := Hk.out
       clear hb1 hK))
  go_ret
  exact ⟨rfl, HK4.out.bel⟩
set_option maxRecDepth 100000 in
set_option maxHeartbeats 4000000 in
theorem split02 (w : World) (A : Option Addr) (cap : Nat) (a : Atl) (k : Nat) (s : Span) (hz : isZ a.plan = false) (hrow : RowAt w w.heap.size 5 A (a.sp.map Span.cells)) (hlen : a.sp.length ≤ 16) (he1 : 1 ≤ s.ep) (he2 : s.ep ≤ 1099511627776) (hks : a.plan.key.size ≤ 9223372036854775807)
    (hk : k < a.sp.length) (hs : a.sp[k] = s) (hp : place a.sp a.plan.shard = (k : Int)) (hq1 : 1 ≤ a.plan.epoch) (hq2 : a.plan.epoch ≤ 1099511627774) (k0 : a.plan.kind = 2) (f0 : a.plan.past = 0) (f1 : s.gr = a.plan.group) (f2 : a.plan.phase = 1) (f3 : s.ep = a.plan.epoch) (f4 : a.plan.other = a.last) (f5 : place a.sp a.last < 0) (f6 : inside s a.plan.key = false) :
    Calls Try.prog 53 #[a.val (.slice A a.sp.length cap)] w fun e w' => e = .returned (.bool false) ∧ Below w.heap.size w w' := by
  unfold isZ at hz
  have hpl := fun w hr => place_any w A cap a a.plan.shard hr (by omega)
  rw [hp] at hpl
  obtain ⟨b, off, rfl, hb, p0, p1, p2, p3, p4⟩ := span_cells hrow k hk
  have Hrow := Lib.hid hrow; have Hpl := Lib.hid hpl
  clear hrow hpl hp p0 p1 p2 p3 p4
  have hk1 : (0 : Int) ≤ (k : Int) := by omega
  have hk2 : (k : Int) < (a.sp.length : Int) := by omega
  have hw6 : IntKind.i64.wrap (s.ep - 2) = s.ep - 2 := IntWalk.i64_in _ (by omega)
  have hw7 : IntKind.i64.wrap (a.plan.epoch - 2) = a.plan.epoch - 2 := IntWalk.i64_in _ (by omega)
  have F0 := Lib.hid f0; have F1 := Lib.hid f1; have F2 := Lib.hid f2; have F3 := Lib.hid f3; have F4 := Lib.hid f4; have F5 := Lib.hid f5; have F6 := Lib.hid f6; clear f0 f1 f2 f3 f4 f5 f6
  have Hk := Lib.hid k0; clear k0
  go_enter Try.func53, Try.ntmps53
  go_wp2_with (first
    | (go_at_call 41
       have _h := HK
       refine (place_raw _ _ cap a.sp _ _ _ _ _ _ _ _ _ _ _ (HK.out.later (al _)).row (by omega)).mono ?_
       rintro e w4 ⟨rfl, hb4⟩
       have hK4 := HK.out.later ((al (w := w1) _).trans (hb4.mono (by simp)))
       have hS4 := blk_below hb4 (by simp) (heap_alloc_new w1 _)
       obtain ⟨m0, m1, m2, m3, m4, m5, m6, m7, m8, m9, m10, mlt⟩ := map_cells hK4.map
       obtain ⟨n0, n1, n2, n3, n4, n5, n6, n7, nlt⟩ := plan_blk hK4.plan
       obtain ⟨t0, t1, t2, t3, t4, tlt⟩ := blk5 hS4
       have HK4 := Lib.hid hK4
       clear hb4 hK4 hS4)
    | (go_at_call 66
       refine (inside_raw _ _ _ _ _ _ _ _ s rfl rfl F6.out hks).mono ?_
       rintro e w5 ⟨rfl, hb5⟩
       have hK5 := HK4.out.later hb5
       obtain ⟨m0, m1, m2, m3, m4, m5, m6, m7, m8, m9, m10, mlt⟩ := map_cells hK5.map
       have HK5 := Lib.hid hK5
       clear hb5 hK5)
    | (go_at_call 41
       refine (Hpl.out _ (Hrow.out.below (al2 _ _) (Nat.le_refl _) |>.more (by simp; omega))).mono ?_
       rintro e w1 ⟨rfl, hb1⟩
       have hK : Known w w1 b off cap k a s := known_of Hrow.out hb1
       obtain ⟨m0, m1, m2, m3, m4, m5, m6, m7, m8, m9, m10, mlt⟩ := map_cells hK.map
       obtain ⟨n0, n1, n2, n3, n4, n5, n6, n7, nlt⟩ := plan_blk hK.plan
       obtain ⟨_, _, he, blt, s0, s1, s2, s3, s4⟩ := span_cells hK.row k hk
       injection he with he
       injection he with hx1 hx2
       subst hx1; subst hx2
       rw [hs] at s0 s1 s2 s3 s4
       skip
       have HK := Lib.hid hK
       have f0 := F0.out; have f1 := F1.out; have f2 := F2.out; have f3 := F3.out; have f4 := F4.out; have f5 := F5.out; have f6 := F6.out; have k0 := Hk.out
       clear hb1 hK))
  go_ret
  exact ⟨rfl, HK5.out.bel⟩
set_option maxRecDepth 100000 in
set_option maxHeartbeats 4000000 in
theorem split03 (w : World) (A : Option Addr) (cap : Nat) (a : Atl) (k : Nat) (s : Span) (hz : isZ a.plan = false) (hrow : RowAt w w.heap.size 5 A (a.sp.map Span.cells)) (hlen : a.sp.length ≤ 16) (he1 : 1 ≤ s.ep) (he2 : s.ep ≤ 1099511627776) (hks : a.plan.key.size ≤ 9223372036854775807)
    (hk : k < a.sp.length) (hs : a.sp[k] = s) (hp : place a.sp a.plan.shard = (k : Int)) (hq1 : 1 ≤ a.plan.epoch) (hq2 : a.plan.epoch ≤ 1099511627774) (k0 : a.plan.kind = 2) (f0 : a.plan.past = 0) (f1 : s.gr = a.plan.group) (f2 : a.plan.phase = 1) (f3 : s.ep = a.plan.epoch) (f4 : a.plan.other = a.last) (f5 : place a.sp a.last < 0) (f6 : inside s a.plan.key = true) :
    Calls Try.prog 53 #[a.val (.slice A a.sp.length cap)] w fun e w' => e = .returned (.bool (decide ((a.sp.length : Int) < 16))) ∧ Below w.heap.size w w' := by
  unfold isZ at hz
  have hpl := fun w hr => place_any w A cap a a.plan.shard hr (by omega)
  rw [hp] at hpl
  obtain ⟨b, off, rfl, hb, p0, p1, p2, p3, p4⟩ := span_cells hrow k hk
  have Hrow := Lib.hid hrow; have Hpl := Lib.hid hpl
  clear hrow hpl hp p0 p1 p2 p3 p4
  have hk1 : (0 : Int) ≤ (k : Int) := by omega
  have hk2 : (k : Int) < (a.sp.length : Int) := by omega
  have hw6 : IntKind.i64.wrap (s.ep - 2) = s.ep - 2 := IntWalk.i64_in _ (by omega)
  have hw7 : IntKind.i64.wrap (a.plan.epoch - 2) = a.plan.epoch - 2 := IntWalk.i64_in _ (by omega)
  have F0 := Lib.hid f0; have F1 := Lib.hid f1; have F2 := Lib.hid f2; have F3 := Lib.hid f3; have F4 := Lib.hid f4; have F5 := Lib.hid f5; have F6 := Lib.hid f6; clear f0 f1 f2 f3 f4 f5 f6
  have Hk := Lib.hid k0; clear k0
  go_enter Try.func53, Try.ntmps53
  go_wp2_with (first
    | (go_at_call 41
       have _h := HK
       refine (place_raw _ _ cap a.sp _ _ _ _ _ _ _ _ _ _ _ (HK.out.later (al _)).row (by omega)).mono ?_
       rintro e w4 ⟨rfl, hb4⟩
       have hK4 := HK.out.later ((al (w := w1) _).trans (hb4.mono (by simp)))
       have hS4 := blk_below hb4 (by simp) (heap_alloc_new w1 _)
       obtain ⟨m0, m1, m2, m3, m4, m5, m6, m7, m8, m9, m10, mlt⟩ := map_cells hK4.map
       obtain ⟨n0, n1, n2, n3, n4, n5, n6, n7, nlt⟩ := plan_blk hK4.plan
       obtain ⟨t0, t1, t2, t3, t4, tlt⟩ := blk5 hS4
       have HK4 := Lib.hid hK4
       clear hb4 hK4 hS4)
    | (go_at_call 66
       refine (inside_raw _ _ _ _ _ _ _ _ s rfl rfl F6.out hks).mono ?_
       rintro e w5 ⟨rfl, hb5⟩
       have hK5 := HK4.out.later hb5
       obtain ⟨m0, m1, m2, m3, m4, m5, m6, m7, m8, m9, m10, mlt⟩ := map_cells hK5.map
       have HK5 := Lib.hid hK5
       clear hb5 hK5)
    | (go_at_call 41
       refine (Hpl.out _ (Hrow.out.below (al2 _ _) (Nat.le_refl _) |>.more (by simp; omega))).mono ?_
       rintro e w1 ⟨rfl, hb1⟩
       have hK : Known w w1 b off cap k a s := known_of Hrow.out hb1
       obtain ⟨m0, m1, m2, m3, m4, m5, m6, m7, m8, m9, m10, mlt⟩ := map_cells hK.map
       obtain ⟨n0, n1, n2, n3, n4, n5, n6, n7, nlt⟩ := plan_blk hK.plan
       obtain ⟨_, _, he, blt, s0, s1, s2, s3, s4⟩ := span_cells hK.row k hk
       injection he with he
       injection he with hx1 hx2
       subst hx1; subst hx2
       rw [hs] at s0 s1 s2 s3 s4
       skip
       have HK := Lib.hid hK
       have f0 := F0.out; have f1 := F1.out; have f2 := F2.out; have f3 := F3.out; have f4 := F4.out; have f5 := F5.out; have f6 := F6.out; have k0 := Hk.out
       clear hb1 hK))
  go_ret
  exact ⟨rfl, HK5.out.bel⟩
set_option maxRecDepth 100000 in
set_option maxHeartbeats 4000000 in
theorem split10 (w : World) (A : Option Addr) (cap : Nat) (a : Atl) (k : Nat) (s : Span) (hz : isZ a.plan = false) (hrow : RowAt w w.heap.size 5 A (a.sp.map Span.cells)) (hlen : a.sp.length ≤ 16) (he1 : 1 ≤ s.ep) (he2 : s.ep ≤ 1099511627776) (hks : a.plan.key.size ≤ 9223372036854775807)
    (hk : k < a.sp.length) (hs : a.sp[k] = s) (hp : place a.sp a.plan.shard = (k : Int)) (hq1 : 1 ≤ a.plan.epoch) (hq2 : a.plan.epoch ≤ 1099511627774) (k0 : a.plan.kind = 2) (f0 : a.plan.past = 0) (f1 : s.gr = a.plan.group) (f2 : a.plan.phase = 9) (f3 : s.ep - 2 = a.plan.epoch) (f4 : ¬ a.plan.other = a.last) :
    Calls Try.prog 53 #[a.val (.slice A a.sp.length cap)] w fun e w' => e = .returned (.bool false) ∧ Below w.heap.size w w' := by
  unfold isZ at hz
  have hpl := fun w hr => place_any w A cap a a.plan.shard hr (by omega)
  rw [hp] at hpl
  obtain ⟨b, off, rfl, hb, p0, p1, p2, p3, p4⟩ := span_cells hrow k hk
  have Hrow := Lib.hid hrow; have Hpl := Lib.hid hpl
  clear hrow hpl hp p0 p1 p2 p3 p4
  have hk1 : (0 : Int) ≤ (k : Int) := by omega
  have hk2 : (k : Int) < (a.sp.length : Int) := by omega
  have hw6 : IntKind.i64.wrap (s.ep - 2) = s.ep - 2 := IntWalk.i64_in _ (by omega)
  have hw7 : IntKind.i64.wrap (a.plan.epoch - 2) = a.plan.epoch - 2 := IntWalk.i64_in _ (by omega)
  have F0 := Lib.hid f0; have F1 := Lib.hid f1; have F2 := Lib.hid f2; have F3 := Lib.hid f3; have F4 := Lib.hid f4; clear f0 f1 f2 f3 f4
  have Hk := Lib.hid k0; clear k0
  go_enter Try.func53, Try.ntmps53
  go_wp2_with (first
    | (go_at_call 41
       have _h := HK
       refine (place_raw _ _ cap a.sp _ _ _ _ _ _ _ _ _ _ _ (HK.out.later (al _)).row (by omega)).mono ?_
       rintro e w4 ⟨rfl, hb4⟩
       have hK4 := HK.out.later ((al (w := w1) _).trans (hb4.mono (by simp)))
       have hS4 := blk_below hb4 (by simp) (heap_alloc_new w1 _)
       obtain ⟨m0, m1, m2, m3, m4, m5, m6, m7, m8, m9, m10, mlt⟩ := map_cells hK4.map
       obtain ⟨n0, n1, n2, n3, n4, n5, n6, n7, nlt⟩ := plan_blk hK4.plan
       obtain ⟨t0, t1, t2, t3, t4, tlt⟩ := blk5 hS4
       have HK4 := Lib.hid hK4
       clear hb4 hK4 hS4)
    | (go_at_call 66
       have _h := F6
       refine (inside_raw _ _ _ _ _ _ _ _ s rfl rfl F6.out hks).mono ?_
       rintro e w5 ⟨rfl, hb5⟩
       have hK5 := HK4.out.later hb5
       obtain ⟨m0, m1, m2, m3, m4, m5, m6, m7, m8, m9, m10, mlt⟩ := map_cells hK5.map
       have HK5 := Lib.hid hK5
       clear hb5 hK5)
    | (go_at_call 41
       refine (Hpl.out _ (Hrow.out.below (al2 _ _) (Nat.le_refl _) |>.more (by simp; omega))).mono ?_
       rintro e w1 ⟨rfl, hb1⟩
       have hK : Known w w1 b off cap k a s := known_of Hrow.out hb1
       obtain ⟨m0, m1, m2, m3, m4, m5, m6, m7, m8, m9, m10, mlt⟩ := map_cells hK.map
       obtain ⟨n0, n1, n2, n3, n4, n5, n6, n7, nlt⟩ := plan_blk hK.plan
       obtain ⟨_, _, he, blt, s0, s1, s2, s3, s4⟩ := span_cells hK.row k hk
       injection he with he
       injection he with hx1 hx2
       subst hx1; subst hx2
       rw [hs] at s0 s1 s2 s3 s4
       skip
       have HK := Lib.hid hK
       have f0 := F0.out; have f1 := F1.out; have f2 := F2.out; have f3 := F3.out; have f4 := F4.out; have k0 := Hk.out
       clear hb1 hK))
  go_ret
  exact ⟨rfl, (HK.out.later (al _)).bel⟩
set_option maxRecDepth 100000 in
set_option maxHeartbeats 4000000 in
theorem split11 (w : World) (A : Option Addr) (cap : Nat) (a : Atl) (k : Nat) (s : Span) (hz : isZ a.plan = false) (hrow : RowAt w w.heap.size 5 A (a.sp.map Span.cells)) (hlen : a.sp.length ≤ 16) (he1 : 1 ≤ s.ep) (he2 : s.ep ≤ 1099511627776) (hks : a.plan.key.size ≤ 9223372036854775807)
    (hk : k < a.sp.length) (hs : a.sp[k] = s) (hp : place a.sp a.plan.shard = (k : Int)) (hq1 : 1 ≤ a.plan.epoch) (hq2 : a.plan.epoch ≤ 1099511627774) (k0 : a.plan.kind = 2) (f0 : a.plan.past = 0) (f1 : s.gr = a.plan.group) (f2 : a.plan.phase = 9) (f3 : s.ep - 2 = a.plan.epoch) (f4 : a.plan.other = a.last) (f5 : ¬ place a.sp a.last < 0) :
    Calls Try.prog 53 #[a.val (.slice A a.sp.length cap)] w fun e w' => e = .returned (.bool false) ∧ Below w.heap.size w w' := by
  unfold isZ at hz
  have hpl := fun w hr => place_any w A cap a a.plan.shard hr (by omega)
  rw [hp] at hpl
  obtain ⟨b, off, rfl, hb, p0, p1, p2, p3, p4⟩ := span_cells hrow k hk
  have Hrow := Lib.hid hrow; have Hpl := Lib.hid hpl
  clear hrow hpl hp p0 p1 p2 p3 p4
  have hk1 : (0 : Int) ≤ (k : Int) := by omega
  have hk2 : (k : Int) < (a.sp.length : Int) := by omega
  have hw6 : IntKind.i64.wrap (s.ep - 2) = s.ep - 2 := IntWalk.i64_in _ (by omega)
  have hw7 : IntKind.i64.wrap (a.plan.epoch - 2) = a.plan.epoch - 2 := IntWalk.i64_in _ (by omega)
  have F0 := Lib.hid f0; have F1 := Lib.hid f1; have F2 := Lib.hid f2; have F3 := Lib.hid f3; have F4 := Lib.hid f4; have F5 := Lib.hid f5; clear f0 f1 f2 f3 f4 f5
  have Hk := Lib.hid k0; clear k0
  go_enter Try.func53, Try.ntmps53
  go_wp2_with (first
    | (go_at_call 41
       have _h := HK
       refine (place_raw _ _ cap a.sp _ _ _ _ _ _ _ _ _ _ _ (HK.out.later (al _)).row (by omega)).mono ?_
       rintro e w4 ⟨rfl, hb4⟩
       have hK4 := HK.out.later ((al (w := w1) _).trans (hb4.mono (by simp)))
       have hS4 := blk_below hb4 (by simp) (heap_alloc_new w1 _)
       obtain ⟨m0, m1, m2, m3, m4, m5, m6, m7, m8, m9, m10, mlt⟩ := map_cells hK4.map
       obtain ⟨n0, n1, n2, n3, n4, n5, n6, n7, nlt⟩ := plan_blk hK4.plan
       obtain ⟨t0, t1, t2, t3, t4, tlt⟩ := blk5 hS4
       have HK4 := Lib.hid hK4
       clear hb4 hK4 hS4)
    | (go_at_call 66
       have _h := F6
       refine (inside_raw _ _ _ _ _ _ _ _ s rfl rfl F6.out hks).mono ?_
       rintro e w5 ⟨rfl, hb5⟩
       have hK5 := HK4.out.later hb5
       obtain ⟨m0, m1, m2, m3, m4, m5, m6, m7, m8, m9, m10, mlt⟩ := map_cells hK5.map
       have HK5 := Lib.hid hK5
       clear hb5 hK5)
    | (go_at_call 41
       refine (Hpl.out _ (Hrow.out.below (al2 _ _) (Nat.le_refl _) |>.more (by simp; omega))).mono ?_
       rintro e w1 ⟨rfl, hb1⟩
       have hK : Known w w1 b off cap k a s := known_of Hrow.out hb1
       obtain ⟨m0, m1, m2, m3, m4, m5, m6, m7, m8, m9, m10, mlt⟩ := map_cells hK.map
       obtain ⟨n0, n1, n2, n3, n4, n5, n6, n7, nlt⟩ := plan_blk hK.plan
       obtain ⟨_, _, he, blt, s0, s1, s2, s3, s4⟩ := span_cells hK.row k hk
       injection he with he
       injection he with hx1 hx2
       subst hx1; subst hx2
       rw [hs] at s0 s1 s2 s3 s4
       skip
       have HK := Lib.hid hK
       have f0 := F0.out; have f1 := F1.out; have f2 := F2.out; have f3 := F3.out; have f4 := F4.out; have f5 := F5.out; have k0 := Hk.out
       clear hb1 hK))
  go_ret
  exact ⟨rfl, HK4.out.bel⟩
set_option maxRecDepth 100000 in
set_option maxHeartbeats 4000000 in
theorem split12 (w : World) (A : Option Addr) (cap : Nat) (a : Atl) (k : Nat) (s : Span) (hz : isZ a.plan = false) (hrow : RowAt w w.heap.size 5 A (a.sp.map Span.cells)) (hlen : a.sp.length ≤ 16) (he1 : 1 ≤ s.ep) (he2 : s.ep ≤ 1099511627776) (hks : a.plan.key.size ≤ 9223372036854775807)
    (hk : k < a.sp.length) (hs : a.sp[k] = s) (hp : place a.sp a.plan.shard = (k : Int)) (hq1 : 1 ≤ a.plan.epoch) (hq2 : a.plan.epoch ≤ 1099511627774) (k0 : a.plan.kind = 2) (f0 : a.plan.past = 0) (f1 : s.gr = a.plan.group) (f2 : a.plan.phase = 9) (f3 : s.ep - 2 = a.plan.epoch) (f4 : a.plan.other = a.last) (f5 : place a.sp a.last < 0) (f6 : inside s a.plan.key = false) :
    Calls Try.prog 53 #[a.val (.slice A a.sp.length cap)] w fun e w' => e = .returned (.bool false) ∧ Below w.heap.size w w' := by
  unfold isZ at hz
  have hpl := fun w hr => place_any w A cap a a.plan.shard hr (by omega)
  rw [hp] at hpl
  obtain ⟨b, off, rfl, hb, p0, p1, p2, p3, p4⟩ := span_cells hrow k hk
  have Hrow := Lib.hid hrow; have Hpl := Lib.hid hpl
  clear hrow hpl hp p0 p1 p2 p3 p4
  have hk1 : (0 : Int) ≤ (k : Int) := by omega
  have hk2 : (k : Int) < (a.sp.length : Int) := by omega
  have hw6 : IntKind.i64.wrap (s.ep - 2) = s.ep - 2 := IntWalk.i64_in _ (by omega)
  have hw7 : IntKind.i64.wrap (a.plan.epoch - 2) = a.plan.epoch - 2 := IntWalk.i64_in _ (by omega)
  have F0 := Lib.hid f0; have F1 := Lib.hid f1; have F2 := Lib.hid f2; have F3 := Lib.hid f3; have F4 := Lib.hid f4; have F5 := Lib.hid f5; have F6 := Lib.hid f6; clear f0 f1 f2 f3 f4 f5 f6
  have Hk := Lib.hid k0; clear k0
  go_enter Try.func53, Try.ntmps53
  go_wp2_with (first
    | (go_at_call 41
       have _h := HK
       refine (place_raw _ _ cap a.sp _ _ _ _ _ _ _ _ _ _ _ (HK.out.later (al _)).row (by omega)).mono ?_
       rintro e w4 ⟨rfl, hb4⟩
       have hK4 := HK.out.later ((al (w := w1) _).trans (hb4.mono (by simp)))
       have hS4 := blk_below hb4 (by simp) (heap_alloc_new w1 _)
       obtain ⟨m0, m1, m2, m3, m4, m5, m6, m7, m8, m9, m10, mlt⟩ := map_cells hK4.map
       obtain ⟨n0, n1, n2, n3, n4, n5, n6, n7, nlt⟩ := plan_blk hK4.plan
       obtain ⟨t0, t1, t2, t3, t4, tlt⟩ := blk5 hS4
       have HK4 := Lib.hid hK4
       clear hb4 hK4 hS4)
    | (go_at_call 66
       refine (inside_raw _ _ _ _ _ _ _ _ s rfl rfl F6.out hks).mono ?_
       rintro e w5 ⟨rfl, hb5⟩
       have hK5 := HK4.out.later hb5
       obtain ⟨m0, m1, m2, m3, m4, m5, m6, m7, m8, m9, m10, mlt⟩ := map_cells hK5.map
       have HK5 := Lib.hid hK5
       clear hb5 hK5)
    | (go_at_call 41
       refine (Hpl.out _ (Hrow.out.below (al2 _ _) (Nat.le_refl _) |>.more (by simp; omega))).mono ?_
       rintro e w1 ⟨rfl, hb1⟩
       have hK : Known w w1 b off cap k a s := known_of Hrow.out hb1
       obtain ⟨m0, m1, m2, m3, m4, m5, m6, m7, m8, m9, m10, mlt⟩ := map_cells hK.map
       obtain ⟨n0, n1, n2, n3, n4, n5, n6, n7, nlt⟩ := plan_blk hK.plan
       obtain ⟨_, _, he, blt, s0, s1, s2, s3, s4⟩ := span_cells hK.row k hk
       injection he with he
       injection he with hx1 hx2
       subst hx1; subst hx2
       rw [hs] at s0 s1 s2 s3 s4
       skip
       have HK := Lib.hid hK
       have f0 := F0.out; have f1 := F1.out; have f2 := F2.out; have f3 := F3.out; have f4 := F4.out; have f5 := F5.out; have f6 := F6.out; have k0 := Hk.out
       clear hb1 hK))
  go_ret
  exact ⟨rfl, HK5.out.bel⟩
set_option maxRecDepth 100000 in
set_option maxHeartbeats 4000000 in
theorem split13 (w : World) (A : Option Addr) (cap : Nat) (a : Atl) (k : Nat) (s : Span) (hz : isZ a.plan = false) (hrow : RowAt w w.heap.size 5 A (a.sp.map Span.cells)) (hlen : a.sp.length ≤ 16) (he1 : 1 ≤ s.ep) (he2 : s.ep ≤ 1099511627776) (hks : a.plan.key.size ≤ 9223372036854775807)
    (hk : k < a.sp.length) (hs : a.sp[k] = s) (hp : place a.sp a.plan.shard = (k : Int)) (hq1 : 1 ≤ a.plan.epoch) (hq2 : a.plan.epoch ≤ 1099511627774) (k0 : a.plan.kind = 2) (f0 : a.plan.past = 0) (f1 : s.gr = a.plan.group) (f2 : a.plan.phase = 9) (f3 : s.ep - 2 = a.plan.epoch) (f4 : a.plan.other = a.last) (f5 : place a.sp a.last < 0) (f6 : inside s a.plan.key = true) :
    Calls Try.prog 53 #[a.val (.slice A a.sp.length cap)] w fun e w' => e = .returned (.bool (decide ((a.sp.length : Int) < 16))) ∧ Below w.heap.size w w' := by
  unfold isZ at hz
  have hpl := fun w hr => place_any w A cap a a.plan.shard hr (by omega)
  rw [hp] at hpl
  obtain ⟨b, off, rfl, hb, p0, p1, p2, p3, p4⟩ := span_cells hrow k hk
  have Hrow := Lib.hid hrow; have Hpl := Lib.hid hpl
  clear hrow hpl hp p0 p1 p2 p3 p4
  have hk1 : (0 : Int) ≤ (k : Int) := by omega
  have hk2 : (k : Int) < (a.sp.length : Int) := by omega
  have hw6 : IntKind.i64.wrap (s.ep - 2) = s.ep - 2 := IntWalk.i64_in _ (by omega)
  have hw7 : IntKind.i64.wrap (a.plan.epoch - 2) = a.plan.epoch - 2 := IntWalk.i64_in _ (by omega)
  have F0 := Lib.hid f0; have F1 := Lib.hid f1; have F2 := Lib.hid f2; have F3 := Lib.hid f3; have F4 := Lib.hid f4; have F5 := Lib.hid f5; have F6 := Lib.hid f6; clear f0 f1 f2 f3 f4 f5 f6
  have Hk := Lib.hid k0; clear k0
  go_enter Try.func53, Try.ntmps53
  go_wp2_with (first
    | (go_at_call 41
       have _h := HK
       refine (place_raw _ _ cap a.sp _ _ _ _ _ _ _ _ _ _ _ (HK.out.later (al _)).row (by omega)).mono ?_
       rintro e w4 ⟨rfl, hb4⟩
       have hK4 := HK.out.later ((al (w := w1) _).trans (hb4.mono (by simp)))
       have hS4 := blk_below hb4 (by simp) (heap_alloc_new w1 _)
       obtain ⟨m0, m1, m2, m3, m4, m5, m6, m7, m8, m9, m10, mlt⟩ := map_cells hK4.map
       obtain ⟨n0, n1, n2, n3, n4, n5, n6, n7, nlt⟩ := plan_blk hK4.plan
       obtain ⟨t0, t1, t2, t3, t4, tlt⟩ := blk5 hS4
       have HK4 := Lib.hid hK4
       clear hb4 hK4 hS4)
    | (go_at_call 66
       refine (inside_raw _ _ _ _ _ _ _ _ s rfl rfl F6.out hks).mono ?_
       rintro e w5 ⟨rfl, hb5⟩
       have hK5 := HK4.out.later hb5
       obtain ⟨m0, m1, m2, m3, m4, m5, m6, m7, m8, m9, m10, mlt⟩ := map_cells hK5.map
       have HK5 := Lib.hid hK5
       clear hb5 hK5)
    | (go_at_call 41
       refine (Hpl.out _ (Hrow.out.below (al2 _ _) (Nat.le_refl _) |>.more (by simp; omega))).mono ?_
       rintro e w1 ⟨rfl, hb1⟩
       have hK : Known w w1 b off cap k a s := known_of Hrow.out hb1
       obtain ⟨m0, m1, m2, m3, m4, m5, m6, m7, m8, m9, m10, mlt⟩ := map_cells hK.map
       obtain ⟨n0, n1, n2, n3, n4, n5, n6, n7, nlt⟩ := plan_blk hK.plan
       obtain ⟨_, _, he, blt, s0, s1, s2, s3, s4⟩ := span_cells hK.row k hk
       injection he with he
       injection he with hx1 hx2
       subst hx1; subst hx2
       rw [hs] at s0 s1 s2 s3 s4
       skip
       have HK := Lib.hid hK
       have f0 := F0.out; have f1 := F1.out; have f2 := F2.out; have f3 := F3.out; have f4 := F4.out; have f5 := F5.out; have f6 := F6.out; have k0 := Hk.out
       clear hb1 hK))
  go_ret
  exact ⟨rfl, HK5.out.bel⟩
end Go.Proofs.Ytimondpollbdfaa
