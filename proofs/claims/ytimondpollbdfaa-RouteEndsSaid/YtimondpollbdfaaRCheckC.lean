/- What is proved: whether a map is right: the document's Check, a joining. -/
import Derived.Test.YtimondpollbdfaaRCheckA
set_option linter.unusedVariables false
set_option linter.unusedSimpArgs false
namespace Go.Proofs.Ytimondpollbdfaa
open Go.RowKit
attribute [local go_sem] Span.val Atl.val Plan.val
attribute [local go_sem high] run_eql_eqP run_neq_eqP run_eql_eqS run_neq_eqS

set_option maxRecDepth 100000 in
set_option maxHeartbeats 4000000 in
theorem rc_join00 (w : World) (A : Option Addr) (cap : Nat) (a : Atl) (k : Nat) (s : Span) (hz : isZ a.plan = false) (hI : MapIn w A cap a) (hsp : SpansOk a) (he1 : 1 ≤ s.ep) (he2 : s.ep ≤ 1099511627776)
    (hk : k < a.sp.length) (hs : a.sp[k] = s) (hp : place a.sp a.plan.shard = (k : Int)) (hq1 : 1 ≤ a.plan.epoch) (hq2 : a.plan.epoch ≤ 1099511627774) (k0 : a.plan.kind = 3) (f0 : a.plan.past = 0) (f1 : s.gr = a.plan.group) (f2 : a.plan.phase = 1) (f3 : s.ep = a.plan.epoch) (f4 : a.plan.key.toList.isEmpty = false) (f5 : ¬ a.plan.key.toList = []) :
    Calls Try.prog 39 #[a.val (.slice A a.sp.length cap)] w fun e w' => e = .returned (.bool false) ∧ Below w.heap.size w w' := by
  unfold isZ at hz
  have hlen := hsp.2.2.2.1.1
  have hks := hI.key
  have hpl := fun w hr => rPlace_any w A cap a a.plan.shard hr (by omega)
  rw [hp] at hpl
  have hspn := fun w hr => rSpans_any w A cap a hr
  rw [tr_true hsp] at hspn
  obtain ⟨b, off, rfl, hb, p0, p1, p2, p3, p4⟩ := span_cells hI.row k hk
  have Hrow := Lib.hid hI.row; have Hpl := Lib.hid hpl; have Hsp := Lib.hid hspn; have HI := Lib.hid hI
  clear hI hpl hp p0 p1 p2 p3 p4 hspn hsp
  have hk1 : (0 : Int) ≤ (k : Int) := by omega
  have hk2 : (k : Int) < (a.sp.length : Int) := by omega
  have hw6 : IntKind.i64.wrap (s.ep - 2) = s.ep - 2 := IntWalk.i64_in _ (by omega)
  have hw7 : IntKind.i64.wrap (a.plan.epoch - 2) = a.plan.epoch - 2 := IntWalk.i64_in _ (by omega)
  have hw1 : IntKind.i64.wrap ((k : Int) + 1) = (k : Int) + 1 := IntWalk.i64_in _ (by omega)
  have hk3 : (0 : Int) ≤ (k : Int) + 1 := by omega
  have hk4 : ((k : Int) + 1).toNat = k + 1 := by omega
  have F0 := Lib.hid f0; have F1 := Lib.hid f1; have F2 := Lib.hid f2; have F3 := Lib.hid f3; have F4 := Lib.hid f4; have F5 := Lib.hid f5; clear f0 f1 f2 f3 f4 f5
  have K0 := Lib.hid k0; clear k0
  have tok : True := trivial
  go_enter Try.func39, Try.ntmps39
  go_wp2_with (first
    | (go_at_call 61
       refine (Hsp.out _ (HI.out.below (al _))).mono ?_
       rintro e w1 ⟨rfl, hb1⟩
       have hM := blk_below (o := a.blk (.slice (some ⟨b, off, none⟩) a.sp.length cap)) hb1 (by simp) (heap_alloc_new w _)
       have hB := (al (w := w) (a.blk (.slice (some ⟨b, off, none⟩) a.sp.length cap))).trans (hb1.mono (by simp))
       obtain ⟨m0, m1, m2, m3, m4, m5, m6, m7, m8, m9, m10, mlt⟩ := map_cells hM
       have HM := Lib.hid hM; have HB := Lib.hid hB
       clear hb1 hM hB)
    | (go_at_call 32
       have _h : True := tok
       refine (Hpl.out _ ((HI.out.below HB.out).below (al _)).row).mono ?_
       rintro e w2 ⟨rfl, hb2⟩
       have hK := knownR_of Hrow.out HB.out HM.out hb2
       obtain ⟨m0, m1, m2, m3, m4, m5, m6, m7, m8, m9, m10, mlt⟩ := map_cells hK.map
       obtain ⟨n0, n1, n2, n3, n4, n5, n6, n7, nlt⟩ := plan_blk hK.plan
       obtain ⟨_, _, he, blt, s0, s1, s2, s3, s4⟩ := span_cells hK.row k hk
       injection he with he
       injection he with hx1 hx2
       subst hx1; subst hx2
       rw [hs] at s0 s1 s2 s3 s4
       skip
       have HK := Lib.hid hK
       have f0 := F0.out; have f1 := F1.out; have f2 := F2.out; have f3 := F3.out; have f4 := F4.out; have f5 := F5.out; have k0 := K0.out
       clear hb2 hK tok))
  go_quiet (fail)
  go_wp2_with fail
  go_ret
  exact ⟨rfl, (HK.out.later (al _)).bel.trans ⟨rfl, rfl, rfl, Nat.le_refl _, fun _ _ => rfl⟩⟩
set_option maxRecDepth 100000 in
set_option maxHeartbeats 4000000 in
theorem rc_join01 (w : World) (A : Option Addr) (cap : Nat) (a : Atl) (k : Nat) (s : Span) (hz : isZ a.plan = false) (hI : MapIn w A cap a) (hsp : SpansOk a) (he1 : 1 ≤ s.ep) (he2 : s.ep ≤ 1099511627776)
    (hk : k < a.sp.length) (hs : a.sp[k] = s) (hp : place a.sp a.plan.shard = (k : Int)) (hq1 : 1 ≤ a.plan.epoch) (hq2 : a.plan.epoch ≤ 1099511627774) (k0 : a.plan.kind = 3) (f0 : a.plan.past = 0) (f1 : s.gr = a.plan.group) (f2 : a.plan.phase = 1) (f3 : s.ep = a.plan.epoch) (f4 : a.plan.key.toList = []) (f5 : decide ((k : Int) + 1 < (a.sp.length : Int)) = false) (f6 : ¬ (k : Int) + 1 < (a.sp.length : Int)) :
    Calls Try.prog 39 #[a.val (.slice A a.sp.length cap)] w fun e w' => e = .returned (.bool false) ∧ Below w.heap.size w w' := by
  unfold isZ at hz
  have hlen := hsp.2.2.2.1.1
  have hks := hI.key
  have hpl := fun w hr => rPlace_any w A cap a a.plan.shard hr (by omega)
  rw [hp] at hpl
  have hspn := fun w hr => rSpans_any w A cap a hr
  rw [tr_true hsp] at hspn
  obtain ⟨b, off, rfl, hb, p0, p1, p2, p3, p4⟩ := span_cells hI.row k hk
  have Hrow := Lib.hid hI.row; have Hpl := Lib.hid hpl; have Hsp := Lib.hid hspn; have HI := Lib.hid hI
  clear hI hpl hp p0 p1 p2 p3 p4 hspn hsp
  have hk1 : (0 : Int) ≤ (k : Int) := by omega
  have hk2 : (k : Int) < (a.sp.length : Int) := by omega
  have hw6 : IntKind.i64.wrap (s.ep - 2) = s.ep - 2 := IntWalk.i64_in _ (by omega)
  have hw7 : IntKind.i64.wrap (a.plan.epoch - 2) = a.plan.epoch - 2 := IntWalk.i64_in _ (by omega)
  have hw1 : IntKind.i64.wrap ((k : Int) + 1) = (k : Int) + 1 := IntWalk.i64_in _ (by omega)
  have hk3 : (0 : Int) ≤ (k : Int) + 1 := by omega
  have hk4 : ((k : Int) + 1).toNat = k + 1 := by omega
  have F0 := Lib.hid f0; have F1 := Lib.hid f1; have F2 := Lib.hid f2; have F3 := Lib.hid f3; have F4 := Lib.hid f4; have F5 := Lib.hid f5; have F6 := Lib.hid f6; clear f0 f1 f2 f3 f4 f5 f6
  have K0 := Lib.hid k0; clear k0
  have tok : True := trivial
  go_enter Try.func39, Try.ntmps39
  go_wp2_with (first
    | (go_at_call 61
       refine (Hsp.out _ (HI.out.below (al _))).mono ?_
       rintro e w1 ⟨rfl, hb1⟩
       have hM := blk_below (o := a.blk (.slice (some ⟨b, off, none⟩) a.sp.length cap)) hb1 (by simp) (heap_alloc_new w _)
       have hB := (al (w := w) (a.blk (.slice (some ⟨b, off, none⟩) a.sp.length cap))).trans (hb1.mono (by simp))
       obtain ⟨m0, m1, m2, m3, m4, m5, m6, m7, m8, m9, m10, mlt⟩ := map_cells hM
       have HM := Lib.hid hM; have HB := Lib.hid hB
       clear hb1 hM hB)
    | (go_at_call 32
       have _h : True := tok
       refine (Hpl.out _ ((HI.out.below HB.out).below (al _)).row).mono ?_
       rintro e w2 ⟨rfl, hb2⟩
       have hK := knownR_of Hrow.out HB.out HM.out hb2
       obtain ⟨m0, m1, m2, m3, m4, m5, m6, m7, m8, m9, m10, mlt⟩ := map_cells hK.map
       obtain ⟨n0, n1, n2, n3, n4, n5, n6, n7, nlt⟩ := plan_blk hK.plan
       obtain ⟨_, _, he, blt, s0, s1, s2, s3, s4⟩ := span_cells hK.row k hk
       injection he with he
       injection he with hx1 hx2
       subst hx1; subst hx2
       rw [hs] at s0 s1 s2 s3 s4
       skip
       have HK := Lib.hid hK
       have f0 := F0.out; have f1 := F1.out; have f2 := F2.out; have f3 := F3.out; have f4 := F4.out; have f5 := F5.out; have f6 := F6.out; have k0 := K0.out
       clear hb2 hK tok))
  go_quiet (fail)
  go_wp2_with fail
  go_ret
  exact ⟨rfl, (HK.out.later (al _)).bel.trans ⟨rfl, rfl, rfl, Nat.le_refl _, fun _ _ => rfl⟩⟩
set_option maxRecDepth 100000 in
set_option maxHeartbeats 4000000 in
theorem rc_join02 (w : World) (A : Option Addr) (cap : Nat) (a : Atl) (k : Nat) (s : Span) (hz : isZ a.plan = false) (hI : MapIn w A cap a) (hsp : SpansOk a) (he1 : 1 ≤ s.ep) (he2 : s.ep ≤ 1099511627776)
    (hk : k < a.sp.length) (hs : a.sp[k] = s) (hp : place a.sp a.plan.shard = (k : Int)) (hq1 : 1 ≤ a.plan.epoch) (hq2 : a.plan.epoch ≤ 1099511627774) (k0 : a.plan.kind = 3) (hk5 : k + 1 < a.sp.length) (u : Span) (hu : a.sp[k+1] = u) (f0 : a.plan.past = 0) (f1 : s.gr = a.plan.group) (f2 : a.plan.phase = 1) (f3 : s.ep = a.plan.epoch) (f4 : a.plan.key.toList = []) (f5 : (u.sh == a.plan.other) = false) (f6 : ¬ u.sh = a.plan.other) :
    Calls Try.prog 39 #[a.val (.slice A a.sp.length cap)] w fun e w' => e = .returned (.bool false) ∧ Below w.heap.size w w' := by
  unfold isZ at hz
  have hlen := hsp.2.2.2.1.1
  have hks := hI.key
  have hpl := fun w hr => rPlace_any w A cap a a.plan.shard hr (by omega)
  rw [hp] at hpl
  have hspn := fun w hr => rSpans_any w A cap a hr
  rw [tr_true hsp] at hspn
  obtain ⟨b, off, rfl, hb, p0, p1, p2, p3, p4⟩ := span_cells hI.row k hk
  have Hrow := Lib.hid hI.row; have Hpl := Lib.hid hpl; have Hsp := Lib.hid hspn; have HI := Lib.hid hI
  clear hI hpl hp p0 p1 p2 p3 p4 hspn hsp
  have hk1 : (0 : Int) ≤ (k : Int) := by omega
  have hk2 : (k : Int) < (a.sp.length : Int) := by omega
  have hw6 : IntKind.i64.wrap (s.ep - 2) = s.ep - 2 := IntWalk.i64_in _ (by omega)
  have hw7 : IntKind.i64.wrap (a.plan.epoch - 2) = a.plan.epoch - 2 := IntWalk.i64_in _ (by omega)
  have hw1 : IntKind.i64.wrap ((k : Int) + 1) = (k : Int) + 1 := IntWalk.i64_in _ (by omega)
  have hk3 : (0 : Int) ≤ (k : Int) + 1 := by omega
  have hk4 : ((k : Int) + 1).toNat = k + 1 := by omega
  have F0 := Lib.hid f0; have F1 := Lib.hid f1; have F2 := Lib.hid f2; have F3 := Lib.hid f3; have F4 := Lib.hid f4; have F5 := Lib.hid f5; have F6 := Lib.hid f6; clear f0 f1 f2 f3 f4 f5 f6
  have K0 := Lib.hid k0; clear k0
  have tok : True := trivial
  go_enter Try.func39, Try.ntmps39
  go_wp2_with (first
    | (go_at_call 61
       refine (Hsp.out _ (HI.out.below (al _))).mono ?_
       rintro e w1 ⟨rfl, hb1⟩
       have hM := blk_below (o := a.blk (.slice (some ⟨b, off, none⟩) a.sp.length cap)) hb1 (by simp) (heap_alloc_new w _)
       have hB := (al (w := w) (a.blk (.slice (some ⟨b, off, none⟩) a.sp.length cap))).trans (hb1.mono (by simp))
       obtain ⟨m0, m1, m2, m3, m4, m5, m6, m7, m8, m9, m10, mlt⟩ := map_cells hM
       have HM := Lib.hid hM; have HB := Lib.hid hB
       clear hb1 hM hB)
    | (go_at_call 32
       have _h : True := tok
       refine (Hpl.out _ ((HI.out.below HB.out).below (al _)).row).mono ?_
       rintro e w2 ⟨rfl, hb2⟩
       have hK := knownR_of Hrow.out HB.out HM.out hb2
       obtain ⟨m0, m1, m2, m3, m4, m5, m6, m7, m8, m9, m10, mlt⟩ := map_cells hK.map
       obtain ⟨n0, n1, n2, n3, n4, n5, n6, n7, nlt⟩ := plan_blk hK.plan
       obtain ⟨_, _, he, blt, s0, s1, s2, s3, s4⟩ := span_cells hK.row k hk
       injection he with he
       injection he with hx1 hx2
       subst hx1; subst hx2
       rw [hs] at s0 s1 s2 s3 s4
       obtain ⟨_, _, he, _, v0, v1, v2, v3, v4⟩ := span_cells hK.row (k + 1) hk5
       injection he with he
       injection he with hx1 hx2
       subst hx1; subst hx2
       rw [hu] at v0 v1 v2 v3 v4
       have hk6 : (k : Int) + 1 < (a.sp.length : Int) := by omega
       have HK := Lib.hid hK
       have f0 := F0.out; have f1 := F1.out; have f2 := F2.out; have f3 := F3.out; have f4 := F4.out; have f5 := F5.out; have f6 := F6.out; have k0 := K0.out
       clear hb2 hK tok))
  go_quiet (fail)
  go_wp2_with fail
  go_ret
  exact ⟨rfl, (HK.out.later (al _)).bel.trans ⟨rfl, rfl, rfl, Nat.le_refl _, fun _ _ => rfl⟩⟩
set_option maxRecDepth 100000 in
set_option maxHeartbeats 4000000 in
theorem rc_join03 (w : World) (A : Option Addr) (cap : Nat) (a : Atl) (k : Nat) (s : Span) (hz : isZ a.plan = false) (hI : MapIn w A cap a) (hsp : SpansOk a) (he1 : 1 ≤ s.ep) (he2 : s.ep ≤ 1099511627776)
    (hk : k < a.sp.length) (hs : a.sp[k] = s) (hp : place a.sp a.plan.shard = (k : Int)) (hq1 : 1 ≤ a.plan.epoch) (hq2 : a.plan.epoch ≤ 1099511627774) (k0 : a.plan.kind = 3) (hk5 : k + 1 < a.sp.length) (u : Span) (hu : a.sp[k+1] = u) (f0 : a.plan.past = 0) (f1 : s.gr = a.plan.group) (f2 : a.plan.phase = 1) (f3 : s.ep = a.plan.epoch) (f4 : a.plan.key.toList = []) (f5 : u.sh = a.plan.other) (f6 : (u.gr == a.plan.group) = false) (f7 : ¬ u.gr = a.plan.group) :
    Calls Try.prog 39 #[a.val (.slice A a.sp.length cap)] w fun e w' => e = .returned (.bool false) ∧ Below w.heap.size w w' := by
  unfold isZ at hz
  have hlen := hsp.2.2.2.1.1
  have hks := hI.key
  have hpl := fun w hr => rPlace_any w A cap a a.plan.shard hr (by omega)
  rw [hp] at hpl
  have hspn := fun w hr => rSpans_any w A cap a hr
  rw [tr_true hsp] at hspn
  obtain ⟨b, off, rfl, hb, p0, p1, p2, p3, p4⟩ := span_cells hI.row k hk
  have Hrow := Lib.hid hI.row; have Hpl := Lib.hid hpl; have Hsp := Lib.hid hspn; have HI := Lib.hid hI
  clear hI hpl hp p0 p1 p2 p3 p4 hspn hsp
  have hk1 : (0 : Int) ≤ (k : Int) := by omega
  have hk2 : (k : Int) < (a.sp.length : Int) := by omega
  have hw6 : IntKind.i64.wrap (s.ep - 2) = s.ep - 2 := IntWalk.i64_in _ (by omega)
  have hw7 : IntKind.i64.wrap (a.plan.epoch - 2) = a.plan.epoch - 2 := IntWalk.i64_in _ (by omega)
  have hw1 : IntKind.i64.wrap ((k : Int) + 1) = (k : Int) + 1 := IntWalk.i64_in _ (by omega)
  have hk3 : (0 : Int) ≤ (k : Int) + 1 := by omega
  have hk4 : ((k : Int) + 1).toNat = k + 1 := by omega
  have F0 := Lib.hid f0; have F1 := Lib.hid f1; have F2 := Lib.hid f2; have F3 := Lib.hid f3; have F4 := Lib.hid f4; have F5 := Lib.hid f5; have F6 := Lib.hid f6; have F7 := Lib.hid f7; clear f0 f1 f2 f3 f4 f5 f6 f7
  have K0 := Lib.hid k0; clear k0
  have tok : True := trivial
  go_enter Try.func39, Try.ntmps39
  go_wp2_with (first
    | (go_at_call 61
       refine (Hsp.out _ (HI.out.below (al _))).mono ?_
       rintro e w1 ⟨rfl, hb1⟩
       have hM := blk_below (o := a.blk (.slice (some ⟨b, off, none⟩) a.sp.length cap)) hb1 (by simp) (heap_alloc_new w _)
       have hB := (al (w := w) (a.blk (.slice (some ⟨b, off, none⟩) a.sp.length cap))).trans (hb1.mono (by simp))
       obtain ⟨m0, m1, m2, m3, m4, m5, m6, m7, m8, m9, m10, mlt⟩ := map_cells hM
       have HM := Lib.hid hM; have HB := Lib.hid hB
       clear hb1 hM hB)
    | (go_at_call 32
       have _h : True := tok
       refine (Hpl.out _ ((HI.out.below HB.out).below (al _)).row).mono ?_
       rintro e w2 ⟨rfl, hb2⟩
       have hK := knownR_of Hrow.out HB.out HM.out hb2
       obtain ⟨m0, m1, m2, m3, m4, m5, m6, m7, m8, m9, m10, mlt⟩ := map_cells hK.map
       obtain ⟨n0, n1, n2, n3, n4, n5, n6, n7, nlt⟩ := plan_blk hK.plan
       obtain ⟨_, _, he, blt, s0, s1, s2, s3, s4⟩ := span_cells hK.row k hk
       injection he with he
       injection he with hx1 hx2
       subst hx1; subst hx2
       rw [hs] at s0 s1 s2 s3 s4
       obtain ⟨_, _, he, _, v0, v1, v2, v3, v4⟩ := span_cells hK.row (k + 1) hk5
       injection he with he
       injection he with hx1 hx2
       subst hx1; subst hx2
       rw [hu] at v0 v1 v2 v3 v4
       have hk6 : (k : Int) + 1 < (a.sp.length : Int) := by omega
       have HK := Lib.hid hK
       have f0 := F0.out; have f1 := F1.out; have f2 := F2.out; have f3 := F3.out; have f4 := F4.out; have f5 := F5.out; have f6 := F6.out; have f7 := F7.out; have k0 := K0.out
       clear hb2 hK tok))
  go_quiet (fail)
  go_wp2_with fail
  go_ret
  exact ⟨rfl, (HK.out.later (al _)).bel.trans ⟨rfl, rfl, rfl, Nat.le_refl _, fun _ _ => rfl⟩⟩
set_option maxRecDepth 100000 in
set_option maxHeartbeats 4000000 in
theorem rc_join04 (w : World) (A : Option Addr) (cap : Nat) (a : Atl) (k : Nat) (s : Span) (hz : isZ a.plan = false) (hI : MapIn w A cap a) (hsp : SpansOk a) (he1 : 1 ≤ s.ep) (he2 : s.ep ≤ 1099511627776)
    (hk : k < a.sp.length) (hs : a.sp[k] = s) (hp : place a.sp a.plan.shard = (k : Int)) (hq1 : 1 ≤ a.plan.epoch) (hq2 : a.plan.epoch ≤ 1099511627774) (k0 : a.plan.kind = 3) (hk5 : k + 1 < a.sp.length) (u : Span) (hu : a.sp[k+1] = u) (f0 : a.plan.past = 0) (f1 : s.gr = a.plan.group) (f2 : a.plan.phase = 1) (f3 : s.ep = a.plan.epoch) (f4 : a.plan.key.toList = []) (f5 : u.sh = a.plan.other) (f6 : u.gr = a.plan.group) :
    Calls Try.prog 39 #[a.val (.slice A a.sp.length cap)] w fun e w' => e = .returned (.bool (decide (u.ep ≤ 1099511627774))) ∧ Below w.heap.size w w' := by
  unfold isZ at hz
  have hlen := hsp.2.2.2.1.1
  have hks := hI.key
  have hpl := fun w hr => rPlace_any w A cap a a.plan.shard hr (by omega)
  rw [hp] at hpl
  have hspn := fun w hr => rSpans_any w A cap a hr
  rw [tr_true hsp] at hspn
  obtain ⟨b, off, rfl, hb, p0, p1, p2, p3, p4⟩ := span_cells hI.row k hk
  have Hrow := Lib.hid hI.row; have Hpl := Lib.hid hpl; have Hsp := Lib.hid hspn; have HI := Lib.hid hI
  clear hI hpl hp p0 p1 p2 p3 p4 hspn hsp
  have hk1 : (0 : Int) ≤ (k : Int) := by omega
  have hk2 : (k : Int) < (a.sp.length : Int) := by omega
  have hw6 : IntKind.i64.wrap (s.ep - 2) = s.ep - 2 := IntWalk.i64_in _ (by omega)
  have hw7 : IntKind.i64.wrap (a.plan.epoch - 2) = a.plan.epoch - 2 := IntWalk.i64_in _ (by omega)
  have hw1 : IntKind.i64.wrap ((k : Int) + 1) = (k : Int) + 1 := IntWalk.i64_in _ (by omega)
  have hk3 : (0 : Int) ≤ (k : Int) + 1 := by omega
  have hk4 : ((k : Int) + 1).toNat = k + 1 := by omega
  have F0 := Lib.hid f0; have F1 := Lib.hid f1; have F2 := Lib.hid f2; have F3 := Lib.hid f3; have F4 := Lib.hid f4; have F5 := Lib.hid f5; have F6 := Lib.hid f6; clear f0 f1 f2 f3 f4 f5 f6
  have K0 := Lib.hid k0; clear k0
  have tok : True := trivial
  go_enter Try.func39, Try.ntmps39
  go_wp2_with (first
    | (go_at_call 61
       refine (Hsp.out _ (HI.out.below (al _))).mono ?_
       rintro e w1 ⟨rfl, hb1⟩
       have hM := blk_below (o := a.blk (.slice (some ⟨b, off, none⟩) a.sp.length cap)) hb1 (by simp) (heap_alloc_new w _)
       have hB := (al (w := w) (a.blk (.slice (some ⟨b, off, none⟩) a.sp.length cap))).trans (hb1.mono (by simp))
       obtain ⟨m0, m1, m2, m3, m4, m5, m6, m7, m8, m9, m10, mlt⟩ := map_cells hM
       have HM := Lib.hid hM; have HB := Lib.hid hB
       clear hb1 hM hB)
    | (go_at_call 32
       have _h : True := tok
       refine (Hpl.out _ ((HI.out.below HB.out).below (al _)).row).mono ?_
       rintro e w2 ⟨rfl, hb2⟩
       have hK := knownR_of Hrow.out HB.out HM.out hb2
       obtain ⟨m0, m1, m2, m3, m4, m5, m6, m7, m8, m9, m10, mlt⟩ := map_cells hK.map
       obtain ⟨n0, n1, n2, n3, n4, n5, n6, n7, nlt⟩ := plan_blk hK.plan
       obtain ⟨_, _, he, blt, s0, s1, s2, s3, s4⟩ := span_cells hK.row k hk
       injection he with he
       injection he with hx1 hx2
       subst hx1; subst hx2
       rw [hs] at s0 s1 s2 s3 s4
       obtain ⟨_, _, he, _, v0, v1, v2, v3, v4⟩ := span_cells hK.row (k + 1) hk5
       injection he with he
       injection he with hx1 hx2
       subst hx1; subst hx2
       rw [hu] at v0 v1 v2 v3 v4
       have hk6 : (k : Int) + 1 < (a.sp.length : Int) := by omega
       have HK := Lib.hid hK
       have f0 := F0.out; have f1 := F1.out; have f2 := F2.out; have f3 := F3.out; have f4 := F4.out; have f5 := F5.out; have f6 := F6.out; have k0 := K0.out
       clear hb2 hK tok))
  go_quiet (fail)
  go_wp2_with fail
  go_ret
  exact ⟨rfl, (HK.out.later (al _)).bel.trans ⟨rfl, rfl, rfl, Nat.le_refl _, fun _ _ => rfl⟩⟩
set_option maxRecDepth 100000 in
set_option maxHeartbeats 4000000 in
theorem rc_join10 (w : World) (A : Option Addr) (cap : Nat) (a : Atl) (k : Nat) (s : Span) (hz : isZ a.plan = false) (hI : MapIn w A cap a) (hsp : SpansOk a) (he1 : 1 ≤ s.ep) (he2 : s.ep ≤ 1099511627776)
    (hk : k < a.sp.length) (hs : a.sp[k] = s) (hp : place a.sp a.plan.shard = (k : Int)) (hq1 : 1 ≤ a.plan.epoch) (hq2 : a.plan.epoch ≤ 1099511627774) (k0 : a.plan.kind = 3) (f0 : a.plan.past = 0) (f1 : s.gr = a.plan.group) (f2 : a.plan.phase = 9) (f3 : s.ep - 2 = a.plan.epoch) (f4 : a.plan.key.toList.isEmpty = false) (f5 : ¬ a.plan.key.toList = []) :
    Calls Try.prog 39 #[a.val (.slice A a.sp.length cap)] w fun e w' => e = .returned (.bool false) ∧ Below w.heap.size w w' := by
  unfold isZ at hz
  have hlen := hsp.2.2.2.1.1
  have hks := hI.key
  have hpl := fun w hr => rPlace_any w A cap a a.plan.shard hr (by omega)
  rw [hp] at hpl
  have hspn := fun w hr => rSpans_any w A cap a hr
  rw [tr_true hsp] at hspn
  obtain ⟨b, off, rfl, hb, p0, p1, p2, p3, p4⟩ := span_cells hI.row k hk
  have Hrow := Lib.hid hI.row; have Hpl := Lib.hid hpl; have Hsp := Lib.hid hspn; have HI := Lib.hid hI
  clear hI hpl hp p0 p1 p2 p3 p4 hspn hsp
  have hk1 : (0 : Int) ≤ (k : Int) := by omega
  have hk2 : (k : Int) < (a.sp.length : Int) := by omega
  have hw6 : IntKind.i64.wrap (s.ep - 2) = s.ep - 2 := IntWalk.i64_in _ (by omega)
  have hw7 : IntKind.i64.wrap (a.plan.epoch - 2) = a.plan.epoch - 2 := IntWalk.i64_in _ (by omega)
  have hw1 : IntKind.i64.wrap ((k : Int) + 1) = (k : Int) + 1 := IntWalk.i64_in _ (by omega)
  have hk3 : (0 : Int) ≤ (k : Int) + 1 := by omega
  have hk4 : ((k : Int) + 1).toNat = k + 1 := by omega
  have F0 := Lib.hid f0; have F1 := Lib.hid f1; have F2 := Lib.hid f2; have F3 := Lib.hid f3; have F4 := Lib.hid f4; have F5 := Lib.hid f5; clear f0 f1 f2 f3 f4 f5
  have K0 := Lib.hid k0; clear k0
  have tok : True := trivial
  go_enter Try.func39, Try.ntmps39
  go_wp2_with (first
    | (go_at_call 61
       refine (Hsp.out _ (HI.out.below (al _))).mono ?_
       rintro e w1 ⟨rfl, hb1⟩
       have hM := blk_below (o := a.blk (.slice (some ⟨b, off, none⟩) a.sp.length cap)) hb1 (by simp) (heap_alloc_new w _)
       have hB := (al (w := w) (a.blk (.slice (some ⟨b, off, none⟩) a.sp.length cap))).trans (hb1.mono (by simp))
       obtain ⟨m0, m1, m2, m3, m4, m5, m6, m7, m8, m9, m10, mlt⟩ := map_cells hM
       have HM := Lib.hid hM; have HB := Lib.hid hB
       clear hb1 hM hB)
    | (go_at_call 32
       have _h : True := tok
       refine (Hpl.out _ ((HI.out.below HB.out).below (al _)).row).mono ?_
       rintro e w2 ⟨rfl, hb2⟩
       have hK := knownR_of Hrow.out HB.out HM.out hb2
       obtain ⟨m0, m1, m2, m3, m4, m5, m6, m7, m8, m9, m10, mlt⟩ := map_cells hK.map
       obtain ⟨n0, n1, n2, n3, n4, n5, n6, n7, nlt⟩ := plan_blk hK.plan
       obtain ⟨_, _, he, blt, s0, s1, s2, s3, s4⟩ := span_cells hK.row k hk
       injection he with he
       injection he with hx1 hx2
       subst hx1; subst hx2
       rw [hs] at s0 s1 s2 s3 s4
       skip
       have HK := Lib.hid hK
       have f0 := F0.out; have f1 := F1.out; have f2 := F2.out; have f3 := F3.out; have f4 := F4.out; have f5 := F5.out; have k0 := K0.out
       clear hb2 hK tok))
  go_quiet (fail)
  go_wp2_with fail
  go_ret
  exact ⟨rfl, (HK.out.later (al _)).bel.trans ⟨rfl, rfl, rfl, Nat.le_refl _, fun _ _ => rfl⟩⟩
set_option maxRecDepth 100000 in
set_option maxHeartbeats 4000000 in
theorem rc_join11 (w : World) (A : Option Addr) (cap : Nat) (a : Atl) (k : Nat) (s : Span) (hz : isZ a.plan = false) (hI : MapIn w A cap a) (hsp : SpansOk a) (he1 : 1 ≤ s.ep) (he2 : s.ep ≤ 1099511627776)
    (hk : k < a.sp.length) (hs : a.sp[k] = s) (hp : place a.sp a.plan.shard = (k : Int)) (hq1 : 1 ≤ a.plan.epoch) (hq2 : a.plan.epoch ≤ 1099511627774) (k0 : a.plan.kind = 3) (f0 : a.plan.past = 0) (f1 : s.gr = a.plan.group) (f2 : a.plan.phase = 9) (f3 : s.ep - 2 = a.plan.epoch) (f4 : a.plan.key.toList = []) (f5 : decide ((k : Int) + 1 < (a.sp.length : Int)) = false) (f6 : ¬ (k : Int) + 1 < (a.sp.length : Int)) :
    Calls Try.prog 39 #[a.val (.slice A a.sp.length cap)] w fun e w' => e = .returned (.bool false) ∧ Below w.heap.size w w' := by
  unfold isZ at hz
  have hlen := hsp.2.2.2.1.1
  have hks := hI.key
  have hpl := fun w hr => rPlace_any w A cap a a.plan.shard hr (by omega)
  rw [hp] at hpl
  have hspn := fun w hr => rSpans_any w A cap a hr
  rw [tr_true hsp] at hspn
  obtain ⟨b, off, rfl, hb, p0, p1, p2, p3, p4⟩ := span_cells hI.row k hk
  have Hrow := Lib.hid hI.row; have Hpl := Lib.hid hpl; have Hsp := Lib.hid hspn; have HI := Lib.hid hI
  clear hI hpl hp p0 p1 p2 p3 p4 hspn hsp
  have hk1 : (0 : Int) ≤ (k : Int) := by omega
  have hk2 : (k : Int) < (a.sp.length : Int) := by omega
  have hw6 : IntKind.i64.wrap (s.ep - 2) = s.ep - 2 := IntWalk.i64_in _ (by omega)
  have hw7 : IntKind.i64.wrap (a.plan.epoch - 2) = a.plan.epoch - 2 := IntWalk.i64_in _ (by omega)
  have hw1 : IntKind.i64.wrap ((k : Int) + 1) = (k : Int) + 1 := IntWalk.i64_in _ (by omega)
  have hk3 : (0 : Int) ≤ (k : Int) + 1 := by omega
  have hk4 : ((k : Int) + 1).toNat = k + 1 := by omega
  have F0 := Lib.hid f0; have F1 := Lib.hid f1; have F2 := Lib.hid f2; have F3 := Lib.hid f3; have F4 := Lib.hid f4; have F5 := Lib.hid f5; have F6 := Lib.hid f6; clear f0 f1 f2 f3 f4 f5 f6
  have K0 := Lib.hid k0; clear k0
  have tok : True := trivial
  go_enter Try.func39, Try.ntmps39
  go_wp2_with (first
    | (go_at_call 61
       refine (Hsp.out _ (HI.out.below (al _))).mono ?_
       rintro e w1 ⟨rfl, hb1⟩
       have hM := blk_below (o := a.blk (.slice (some ⟨b, off, none⟩) a.sp.length cap)) hb1 (by simp) (heap_alloc_new w _)
       have hB := (al (w := w) (a.blk (.slice (some ⟨b, off, none⟩) a.sp.length cap))).trans (hb1.mono (by simp))
       obtain ⟨m0, m1, m2, m3, m4, m5, m6, m7, m8, m9, m10, mlt⟩ := map_cells hM
       have HM := Lib.hid hM; have HB := Lib.hid hB
       clear hb1 hM hB)
    | (go_at_call 32
       have _h : True := tok
       refine (Hpl.out _ ((HI.out.below HB.out).below (al _)).row).mono ?_
       rintro e w2 ⟨rfl, hb2⟩
       have hK := knownR_of Hrow.out HB.out HM.out hb2
       obtain ⟨m0, m1, m2, m3, m4, m5, m6, m7, m8, m9, m10, mlt⟩ := map_cells hK.map
       obtain ⟨n0, n1, n2, n3, n4, n5, n6, n7, nlt⟩ := plan_blk hK.plan
       obtain ⟨_, _, he, blt, s0, s1, s2, s3, s4⟩ := span_cells hK.row k hk
       injection he with he
       injection he with hx1 hx2
       subst hx1; subst hx2
       rw [hs] at s0 s1 s2 s3 s4
       skip
       have HK := Lib.hid hK
       have f0 := F0.out; have f1 := F1.out; have f2 := F2.out; have f3 := F3.out; have f4 := F4.out; have f5 := F5.out; have f6 := F6.out; have k0 := K0.out
       clear hb2 hK tok))
  go_quiet (fail)
  go_wp2_with fail
  go_ret
  exact ⟨rfl, (HK.out.later (al _)).bel.trans ⟨rfl, rfl, rfl, Nat.le_refl _, fun _ _ => rfl⟩⟩
set_option maxRecDepth 100000 in
set_option maxHeartbeats 4000000 in
theorem rc_join12 (w : World) (A : Option Addr) (cap : Nat) (a : Atl) (k : Nat) (s : Span) (hz : isZ a.plan = false) (hI : MapIn w A cap a) (hsp : SpansOk a) (he1 : 1 ≤ s.ep) (he2 : s.ep ≤ 1099511627776)
    (hk : k < a.sp.length) (hs : a.sp[k] = s) (hp : place a.sp a.plan.shard = (k : Int)) (hq1 : 1 ≤ a.plan.epoch) (hq2 : a.plan.epoch ≤ 1099511627774) (k0 : a.plan.kind = 3) (hk5 : k + 1 < a.sp.length) (u : Span) (hu : a.sp[k+1] = u) (f0 : a.plan.past = 0) (f1 : s.gr = a.plan.group) (f2 : a.plan.phase = 9) (f3 : s.ep - 2 = a.plan.epoch) (f4 : a.plan.key.toList = []) (f5 : (u.sh == a.plan.other) = false) (f6 : ¬ u.sh = a.plan.other) :
    Calls Try.prog 39 #[a.val (.slice A a.sp.length cap)] w fun e w' => e = .returned (.bool false) ∧ Below w.heap.size w w' := by
  unfold isZ at hz
  have hlen := hsp.2.2.2.1.1
  have hks := hI.key
  have hpl := fun w hr => rPlace_any w A cap a a.plan.shard hr (by omega)
  rw [hp] at hpl
  have hspn := fun w hr => rSpans_any w A cap a hr
  rw [tr_true hsp] at hspn
  obtain ⟨b, off, rfl, hb, p0, p1, p2, p3, p4⟩ := span_cells hI.row k hk
  have Hrow := Lib.hid hI.row; have Hpl := Lib.hid hpl; have Hsp := Lib.hid hspn; have HI := Lib.hid hI
  clear hI hpl hp p0 p1 p2 p3 p4 hspn hsp
  have hk1 : (0 : Int) ≤ (k : Int) := by omega
  have hk2 : (k : Int) < (a.sp.length : Int) := by omega
  have hw6 : IntKind.i64.wrap (s.ep - 2) = s.ep - 2 := IntWalk.i64_in _ (by omega)
  have hw7 : IntKind.i64.wrap (a.plan.epoch - 2) = a.plan.epoch - 2 := IntWalk.i64_in _ (by omega)
  have hw1 : IntKind.i64.wrap ((k : Int) + 1) = (k : Int) + 1 := IntWalk.i64_in _ (by omega)
  have hk3 : (0 : Int) ≤ (k : Int) + 1 := by omega
  have hk4 : ((k : Int) + 1).toNat = k + 1 := by omega
  have F0 := Lib.hid f0; have F1 := Lib.hid f1; have F2 := Lib.hid f2; have F3 := Lib.hid f3; have F4 := Lib.hid f4; have F5 := Lib.hid f5; have F6 := Lib.hid f6; clear f0 f1 f2 f3 f4 f5 f6
  have K0 := Lib.hid k0; clear k0
  have tok : True := trivial
  go_enter Try.func39, Try.ntmps39
  go_wp2_with (first
    | (go_at_call 61
       refine (Hsp.out _ (HI.out.below (al _))).mono ?_
       rintro e w1 ⟨rfl, hb1⟩
       have hM := blk_below (o := a.blk (.slice (some ⟨b, off, none⟩) a.sp.length cap)) hb1 (by simp) (heap_alloc_new w _)
       have hB := (al (w := w) (a.blk (.slice (some ⟨b, off, none⟩) a.sp.length cap))).trans (hb1.mono (by simp))
       obtain ⟨m0, m1, m2, m3, m4, m5, m6, m7, m8, m9, m10, mlt⟩ := map_cells hM
       have HM := Lib.hid hM; have HB := Lib.hid hB
       clear hb1 hM hB)
    | (go_at_call 32
       have _h : True := tok
       refine (Hpl.out _ ((HI.out.below HB.out).below (al _)).row).mono ?_
       rintro e w2 ⟨rfl, hb2⟩
       have hK := knownR_of Hrow.out HB.out HM.out hb2
       obtain ⟨m0, m1, m2, m3, m4, m5, m6, m7, m8, m9, m10, mlt⟩ := map_cells hK.map
       obtain ⟨n0, n1, n2, n3, n4, n5, n6, n7, nlt⟩ := plan_blk hK.plan
       obtain ⟨_, _, he, blt, s0, s1, s2, s3, s4⟩ := span_cells hK.row k hk
       injection he with he
       injection he with hx1 hx2
       subst hx1; subst hx2
       rw [hs] at s0 s1 s2 s3 s4
       obtain ⟨_, _, he, _, v0, v1, v2, v3, v4⟩ := span_cells hK.row (k + 1) hk5
       injection he with he
       injection he with hx1 hx2
       subst hx1; subst hx2
       rw [hu] at v0 v1 v2 v3 v4
       have hk6 : (k : Int) + 1 < (a.sp.length : Int) := by omega
       have HK := Lib.hid hK
       have f0 := F0.out; have f1 := F1.out; have f2 := F2.out; have f3 := F3.out; have f4 := F4.out; have f5 := F5.out; have f6 := F6.out; have k0 := K0.out
       clear hb2 hK tok))
  go_quiet (fail)
  go_wp2_with fail
  go_ret
  exact ⟨rfl, (HK.out.later (al _)).bel.trans ⟨rfl, rfl, rfl, Nat.le_refl _, fun _ _ => rfl⟩⟩
set_option maxRecDepth 100000 in
set_option maxHeartbeats 4000000 in
theorem rc_join13 (w : World) (A : Option Addr) (cap : Nat) (a : Atl) (k : Nat) (s : Span) (hz : isZ a.plan = false) (hI : MapIn w A cap a) (hsp : SpansOk a) (he1 : 1 ≤ s.ep) (he2 : s.ep ≤ 1099511627776)
    (hk : k < a.sp.length) (hs : a.sp[k] = s) (hp : place a.sp a.plan.shard = (k : Int)) (hq1 : 1 ≤ a.plan.epoch) (hq2 : a.plan.epoch ≤ 1099511627774) (k0 : a.plan.kind = 3) (hk5 : k + 1 < a.sp.length) (u : Span) (hu : a.sp[k+1] = u) (f0 : a.plan.past = 0) (f1 : s.gr = a.plan.group) (f2 : a.plan.phase = 9) (f3 : s.ep - 2 = a.plan.epoch) (f4 : a.plan.key.toList = []) (f5 : u.sh = a.plan.other) (f6 : (u.gr == a.plan.group) = false) (f7 : ¬ u.gr = a.plan.group) :
    Calls Try.prog 39 #[a.val (.slice A a.sp.length cap)] w fun e w' => e = .returned (.bool false) ∧ Below w.heap.size w w' := by
  unfold isZ at hz
  have hlen := hsp.2.2.2.1.1
  have hks := hI.key
  have hpl := fun w hr => rPlace_any w A cap a a.plan.shard hr (by omega)
  rw [hp] at hpl
  have hspn := fun w hr => rSpans_any w A cap a hr
  rw [tr_true hsp] at hspn
  obtain ⟨b, off, rfl, hb, p0, p1, p2, p3, p4⟩ := span_cells hI.row k hk
  have Hrow := Lib.hid hI.row; have Hpl := Lib.hid hpl; have Hsp := Lib.hid hspn; have HI := Lib.hid hI
  clear hI hpl hp p0 p1 p2 p3 p4 hspn hsp
  have hk1 : (0 : Int) ≤ (k : Int) := by omega
  have hk2 : (k : Int) < (a.sp.length : Int) := by omega
  have hw6 : IntKind.i64.wrap (s.ep - 2) = s.ep - 2 := IntWalk.i64_in _ (by omega)
  have hw7 : IntKind.i64.wrap (a.plan.epoch - 2) = a.plan.epoch - 2 := IntWalk.i64_in _ (by omega)
  have hw1 : IntKind.i64.wrap ((k : Int) + 1) = (k : Int) + 1 := IntWalk.i64_in _ (by omega)
  have hk3 : (0 : Int) ≤ (k : Int) + 1 := by omega
  have hk4 : ((k : Int) + 1).toNat = k + 1 := by omega
  have F0 := Lib.hid f0; have F1 := Lib.hid f1; have F2 := Lib.hid f2; have F3 := Lib.hid f3; have F4 := Lib.hid f4; have F5 := Lib.hid f5; have F6 := Lib.hid f6; have F7 := Lib.hid f7; clear f0 f1 f2 f3 f4 f5 f6 f7
  have K0 := Lib.hid k0; clear k0
  have tok : True := trivial
  go_enter Try.func39, Try.ntmps39
  go_wp2_with (first
    | (go_at_call 61
       refine (Hsp.out _ (HI.out.below (al _))).mono ?_
       rintro e w1 ⟨rfl, hb1⟩
       have hM := blk_below (o := a.blk (.slice (some ⟨b, off, none⟩) a.sp.length cap)) hb1 (by simp) (heap_alloc_new w _)
       have hB := (al (w := w) (a.blk (.slice (some ⟨b, off, none⟩) a.sp.length cap))).trans (hb1.mono (by simp))
       obtain ⟨m0, m1, m2, m3, m4, m5, m6, m7, m8, m9, m10, mlt⟩ := map_cells hM
       have HM := Lib.hid hM; have HB := Lib.hid hB
       clear hb1 hM hB)
    | (go_at_call 32
       have _h : True := tok
       refine (Hpl.out _ ((HI.out.below HB.out).below (al _)).row).mono ?_
       rintro e w2 ⟨rfl, hb2⟩
       have hK := knownR_of Hrow.out HB.out HM.out hb2
       obtain ⟨m0, m1, m2, m3, m4, m5, m6, m7, m8, m9, m10, mlt⟩ := map_cells hK.map
       obtain ⟨n0, n1, n2, n3, n4, n5, n6, n7, nlt⟩ := plan_blk hK.plan
       obtain ⟨_, _, he, blt, s0, s1, s2, s3, s4⟩ := span_cells hK.row k hk
       injection he with he
       injection he with hx1 hx2
       subst hx1; subst hx2
       rw [hs] at s0 s1 s2 s3 s4
       obtain ⟨_, _, he, _, v0, v1, v2, v3, v4⟩ := span_cells hK.row (k + 1) hk5
       injection he with he
       injection he with hx1 hx2
       subst hx1; subst hx2
       rw [hu] at v0 v1 v2 v3 v4
       have hk6 : (k : Int) + 1 < (a.sp.length : Int) := by omega
       have HK := Lib.hid hK
       have f0 := F0.out; have f1 := F1.out; have f2 := F2.out; have f3 := F3.out; have f4 := F4.out; have f5 := F5.out; have f6 := F6.out; have f7 := F7.out; have k0 := K0.out
       clear hb2 hK tok))
  go_quiet (fail)
  go_wp2_with fail
  go_ret
  exact ⟨rfl, (HK.out.later (al _)).bel.trans ⟨rfl, rfl, rfl, Nat.le_refl _, fun _ _ => rfl⟩⟩
set_option maxRecDepth 100000 in
set_option maxHeartbeats 4000000 in
theorem rc_join14 (w : World) (A : Option Addr) (cap : Nat) (a : Atl) (k : Nat) (s : Span) (hz : isZ a.plan = false) (hI : MapIn w A cap a) (hsp : SpansOk a) (he1 : 1 ≤ s.ep) (he2 : s.ep ≤ 1099511627776)
    (hk : k < a.sp.length) (hs : a.sp[k] = s) (hp : place a.sp a.plan.shard = (k : Int)) (hq1 : 1 ≤ a.plan.epoch) (hq2 : a.plan.epoch ≤ 1099511627774) (k0 : a.plan.kind = 3) (hk5 : k + 1 < a.sp.length) (u : Span) (hu : a.sp[k+1] = u) (f0 : a.plan.past = 0) (f1 : s.gr = a.plan.group) (f2 : a.plan.phase = 9) (f3 : s.ep - 2 = a.plan.epoch) (f4 : a.plan.key.toList = []) (f5 : u.sh = a.plan.other) (f6 : u.gr = a.plan.group) :
    Calls Try.prog 39 #[a.val (.slice A a.sp.length cap)] w fun e w' => e = .returned (.bool (decide (u.ep ≤ 1099511627774))) ∧ Below w.heap.size w w' := by
  unfold isZ at hz
  have hlen := hsp.2.2.2.1.1
  have hks := hI.key
  have hpl := fun w hr => rPlace_any w A cap a a.plan.shard hr (by omega)
  rw [hp] at hpl
  have hspn := fun w hr => rSpans_any w A cap a hr
  rw [tr_true hsp] at hspn
  obtain ⟨b, off, rfl, hb, p0, p1, p2, p3, p4⟩ := span_cells hI.row k hk
  have Hrow := Lib.hid hI.row; have Hpl := Lib.hid hpl; have Hsp := Lib.hid hspn; have HI := Lib.hid hI
  clear hI hpl hp p0 p1 p2 p3 p4 hspn hsp
  have hk1 : (0 : Int) ≤ (k : Int) := by omega
  have hk2 : (k : Int) < (a.sp.length : Int) := by omega
  have hw6 : IntKind.i64.wrap (s.ep - 2) = s.ep - 2 := IntWalk.i64_in _ (by omega)
  have hw7 : IntKind.i64.wrap (a.plan.epoch - 2) = a.plan.epoch - 2 := IntWalk.i64_in _ (by omega)
  have hw1 : IntKind.i64.wrap ((k : Int) + 1) = (k : Int) + 1 := IntWalk.i64_in _ (by omega)
  have hk3 : (0 : Int) ≤ (k : Int) + 1 := by omega
  have hk4 : ((k : Int) + 1).toNat = k + 1 := by omega
  have F0 := Lib.hid f0; have F1 := Lib.hid f1; have F2 := Lib.hid f2; have F3 := Lib.hid f3; have F4 := Lib.hid f4; have F5 := Lib.hid f5; have F6 := Lib.hid f6; clear f0 f1 f2 f3 f4 f5 f6
  have K0 := Lib.hid k0; clear k0
  have tok : True := trivial
  go_enter Try.func39, Try.ntmps39
  go_wp2_with (first
    | (go_at_call 61
       refine (Hsp.out _ (HI.out.below (al _))).mono ?_
       rintro e w1 ⟨rfl, hb1⟩
       have hM := blk_below (o := a.blk (.slice (some ⟨b, off, none⟩) a.sp.length cap)) hb1 (by simp) (heap_alloc_new w _)
       have hB := (al (w := w) (a.blk (.slice (some ⟨b, off, none⟩) a.sp.length cap))).trans (hb1.mono (by simp))
       obtain ⟨m0, m1, m2, m3, m4, m5, m6, m7, m8, m9, m10, mlt⟩ := map_cells hM
       have HM := Lib.hid hM; have HB := Lib.hid hB
       clear hb1 hM hB)
    | (go_at_call 32
       have _h : True := tok
       refine (Hpl.out _ ((HI.out.below HB.out).below (al _)).row).mono ?_
       rintro e w2 ⟨rfl, hb2⟩
       have hK := knownR_of Hrow.out HB.out HM.out hb2
       obtain ⟨m0, m1, m2, m3, m4, m5, m6, m7, m8, m9, m10, mlt⟩ := map_cells hK.map
       obtain ⟨n0, n1, n2, n3, n4, n5, n6, n7, nlt⟩ := plan_blk hK.plan
       obtain ⟨_, _, he, blt, s0, s1, s2, s3, s4⟩ := span_cells hK.row k hk
       injection he with he
       injection he with hx1 hx2
       subst hx1; subst hx2
       rw [hs] at s0 s1 s2 s3 s4
       obtain ⟨_, _, he, _, v0, v1, v2, v3, v4⟩ := span_cells hK.row (k + 1) hk5
       injection he with he
       injection he with hx1 hx2
       subst hx1; subst hx2
       rw [hu] at v0 v1 v2 v3 v4
       have hk6 : (k : Int) + 1 < (a.sp.length : Int) := by omega
       have HK := Lib.hid hK
       have f0 := F0.out; have f1 := F1.out; have f2 := F2.out; have f3 := F3.out; have f4 := F4.out; have f5 := F5.out; have f6 := F6.out; have k0 := K0.out
       clear hb2 hK tok))
  go_quiet (fail)
  go_wp2_with fail
  go_ret
  exact ⟨rfl, (HK.out.later (al _)).bel.trans ⟨rfl, rfl, rfl, Nat.le_refl _, fun _ _ => rfl⟩⟩
end Go.Proofs.Ytimondpollbdfaa
