/- What is proved: whether a plan of a split fits its map: the program's planned. -/
import Derived.Test.YtimondpollbdfaaPlanMove
set_option linter.unusedVariables false
set_option linter.unusedSimpArgs false
namespace Go.Proofs.Ytimondpollbdfaa
open Go.RowKit
attribute [local go_sem] Span.val Atl.val Plan.val
attribute [local go_sem high] run_eql_eqP run_neq_eqP run_eql_eqS run_neq_eqS

def Fits (a : Atl) (s : Span) : Prop := a.plan.past = 0 ∧ s.gr = a.plan.group ∧ (a.plan.phase = 1 ∧ s.ep = a.plan.epoch ∨ a.plan.phase = 9 ∧ s.ep - 2 = a.plan.epoch)
theorem fits_iff {a : Atl} {s : Span} : Fits a s ↔ a.plan.past = 0 ∧ a.plan.group = s.gr ∧ (a.plan.phase = 1 ∧ s.ep = a.plan.epoch ∨ a.plan.phase = 9 ∧ s.ep - 2 = a.plan.epoch) := by
  unfold Fits
  constructor <;> rintro ⟨h1, h2, h3⟩ <;> exact ⟨h1, h2.symm, h3⟩
theorem planAt_split {a : Atl} {i : Nat} {s : Span} (h : a.plan.kind = 2) : PlanAt a i s ↔ 1 ≤ a.plan.epoch ∧ a.plan.epoch ≤ 1099511627774 ∧ Fits a s ∧ a.plan.other = a.last ∧ place a.sp a.plan.other < 0 ∧ inside s a.plan.key = true ∧ (a.sp.length : Int) < 16 := by
  have h1 := h
  unfold PlanAt
  rw [h1, fits_iff]
  constructor
  · rintro ⟨h2, h3, ⟨h4, _⟩ | ⟨h5, h6, h7, ⟨_, h8, h9, h10, h11⟩ | ⟨h8, _⟩⟩⟩
    · omega
    · exact ⟨h2, h3, ⟨h5, h6, h7⟩, h8, h9, h10, by omega⟩
    · omega
  · rintro ⟨h2, h3, ⟨h5, h6, h7⟩, h8, h9, h10, h11⟩
    exact ⟨h2, h3, .inr ⟨h5, h6, h7, .inl ⟨rfl, h8, h9, h10, by omega⟩⟩⟩
theorem planAt_other {a : Atl} {i : Nat} {s : Span} (h1 : ¬ a.plan.kind = 1) (h2 : ¬ a.plan.kind = 2) (h3 : ¬ a.plan.kind = 3) : ¬ PlanAt a i s := by
  rintro ⟨_, _, ⟨h4, _⟩ | ⟨_, _, _, ⟨h5, _⟩ | ⟨h5, _⟩⟩⟩ <;> contradiction
theorem planAt_join {a : Atl} {i : Nat} {s : Span} (h : a.plan.kind = 3) : PlanAt a i s ↔ 1 ≤ a.plan.epoch ∧ a.plan.epoch ≤ 1099511627774 ∧ Fits a s ∧ a.plan.key.toList = [] ∧ ∃ h : i + 1 < a.sp.length, a.sp[i+1].sh = a.plan.other ∧ a.sp[i+1].gr = s.gr ∧ a.sp[i+1].ep ≤ 1099511627774 := by
  have h1 := h
  unfold PlanAt
  rw [h1, fits_iff]
  constructor
  · rintro ⟨h2, h3, ⟨h4, _⟩ | ⟨h5, h6, h7, ⟨h8, _⟩ | ⟨_, h8, h9, h10, h11, h12⟩⟩⟩
    · omega
    · omega
    · exact ⟨h2, h3, ⟨h5, h6, h7⟩, h8, h9, h10, h11, h12⟩
  · rintro ⟨h2, h3, ⟨h5, h6, h7⟩, h8, h9, h10, h11, h12⟩
    exact ⟨h2, h3, .inr ⟨h5, h6, h7, .inr ⟨rfl, h8, h9, h10, h11, h12⟩⟩⟩

set_option maxRecDepth 100000 in
set_option maxHeartbeats 2000000 in
theorem unfit0 (w : World) (A : Option Addr) (cap : Nat) (a : Atl) (k : Nat) (s : Span) (hz : isZ a.plan = false) (hrow : RowAt w w.heap.size 5 A (a.sp.map Span.cells)) (hlen : a.sp.length ≤ 16) (he1 : 1 ≤ s.ep) (he2 : s.ep ≤ 1099511627776)
    (hk : k < a.sp.length) (hs : a.sp[k] = s) (hp : place a.sp a.plan.shard = (k : Int)) (hq1 : 1 ≤ a.plan.epoch) (hq2 : a.plan.epoch ≤ 1099511627774) (hkind : ¬ a.plan.kind = 1) (f0 : ¬ a.plan.past = 0) :
    Calls Try.prog 53 #[a.val (.slice A a.sp.length cap)] w fun e w' => e = .returned (.bool false) ∧ Below w.heap.size w w' := by
  unfold isZ at hz
  have hpl := fun w hr => place_any w A cap a a.plan.shard hr (by omega)
  rw [hp] at hpl
  obtain ⟨b, off, rfl, hb, p0, p1, p2, p3, p4⟩ := span_cells hrow k hk
  have Hrow := Lib.hid hrow; have Hpl := Lib.hid hpl
  clear hrow hpl hp p0 p1 p2 p3 p4
  have hk1 : (0 : Int) ≤ (k : Int) := by omega
  have hk2 : (k : Int) < (a.sp.length : Int) := by omega
  have hw6 : IntKind.i64.wrap (s.ep - 2) = s.ep - 2 := IntWalk.i64_in _ (by omega)
  have F0 := Lib.hid f0; clear f0
  go_enter Try.func53, Try.ntmps53
  go_wp2_with (
    (go_at_call 41
     refine (Hpl.out _ (Hrow.out.below (al2 _ _) (Nat.le_refl _) |>.more (by simp; omega))).mono ?_
     rintro e w1 ⟨rfl, hb1⟩
     have hK : Known w w1 b off cap k a s := known_of Hrow.out hb1
     obtain ⟨m0, m1, m2, m3, m4, m5, m6, m7, m8, m9, m10, mlt⟩ := map_cells hK.map
     obtain ⟨n0, n1, n2, n3, n4, n5, n6, n7, nlt⟩ := plan_blk hK.plan
     obtain ⟨_, _, he, blt, s0, s1, s2, s3, s4⟩ := span_cells hK.row k hk
     injection he with he
     injection he with hx1 hx2
     subst hx1; subst hx2
     rw [hs] at s0 s1 s2 s3 s4
     have HK := Lib.hid hK
     have f0 := F0.out
     clear hb1 hK))
  go_ret
  exact ⟨rfl, (HK.out.later (al _)).bel⟩
set_option maxRecDepth 100000 in
set_option maxHeartbeats 2000000 in
theorem unfit1 (w : World) (A : Option Addr) (cap : Nat) (a : Atl) (k : Nat) (s : Span) (hz : isZ a.plan = false) (hrow : RowAt w w.heap.size 5 A (a.sp.map Span.cells)) (hlen : a.sp.length ≤ 16) (he1 : 1 ≤ s.ep) (he2 : s.ep ≤ 1099511627776)
    (hk : k < a.sp.length) (hs : a.sp[k] = s) (hp : place a.sp a.plan.shard = (k : Int)) (hq1 : 1 ≤ a.plan.epoch) (hq2 : a.plan.epoch ≤ 1099511627774) (hkind : ¬ a.plan.kind = 1) (f0 : a.plan.past = 0) (f1 : ¬ s.gr = a.plan.group) :
    Calls Try.prog 53 #[a.val (.slice A a.sp.length cap)] w fun e w' => e = .returned (.bool false) ∧ Below w.heap.size w w' := by
  unfold isZ at hz
  have hpl := fun w hr => place_any w A cap a a.plan.shard hr (by omega)
  rw [hp] at hpl
  obtain ⟨b, off, rfl, hb, p0, p1, p2, p3, p4⟩ := span_cells hrow k hk
  have Hrow := Lib.hid hrow; have Hpl := Lib.hid hpl
  clear hrow hpl hp p0 p1 p2 p3 p4
  have hk1 : (0 : Int) ≤ (k : Int) := by omega
  have hk2 : (k : Int) < (a.sp.length : Int) := by omega
  have hw6 : IntKind.i64.wrap (s.ep - 2) = s.ep - 2 := IntWalk.i64_in _ (by omega)
  have F0 := Lib.hid f0; have F1 := Lib.hid f1; clear f0 f1
  go_enter Try.func53, Try.ntmps53
  go_wp2_with (
    (go_at_call 41
     refine (Hpl.out _ (Hrow.out.below (al2 _ _) (Nat.le_refl _) |>.more (by simp; omega))).mono ?_
     rintro e w1 ⟨rfl, hb1⟩
     have hK : Known w w1 b off cap k a s := known_of Hrow.out hb1
     obtain ⟨m0, m1, m2, m3, m4, m5, m6, m7, m8, m9, m10, mlt⟩ := map_cells hK.map
     obtain ⟨n0, n1, n2, n3, n4, n5, n6, n7, nlt⟩ := plan_blk hK.plan
     obtain ⟨_, _, he, blt, s0, s1, s2, s3, s4⟩ := span_cells hK.row k hk
     injection he with he
     injection he with hx1 hx2
     subst hx1; subst hx2
     rw [hs] at s0 s1 s2 s3 s4
     have HK := Lib.hid hK
     have f0 := F0.out; have f1 := F1.out
     clear hb1 hK))
  go_ret
  exact ⟨rfl, (HK.out.later (al _)).bel⟩
set_option maxRecDepth 100000 in
set_option maxHeartbeats 2000000 in
theorem unfit2 (w : World) (A : Option Addr) (cap : Nat) (a : Atl) (k : Nat) (s : Span) (hz : isZ a.plan = false) (hrow : RowAt w w.heap.size 5 A (a.sp.map Span.cells)) (hlen : a.sp.length ≤ 16) (he1 : 1 ≤ s.ep) (he2 : s.ep ≤ 1099511627776)
    (hk : k < a.sp.length) (hs : a.sp[k] = s) (hp : place a.sp a.plan.shard = (k : Int)) (hq1 : 1 ≤ a.plan.epoch) (hq2 : a.plan.epoch ≤ 1099511627774) (hkind : ¬ a.plan.kind = 1) (f0 : a.plan.past = 0) (f1 : s.gr = a.plan.group) (f2 : a.plan.phase = 1) (f3 : ¬ s.ep = a.plan.epoch) :
    Calls Try.prog 53 #[a.val (.slice A a.sp.length cap)] w fun e w' => e = .returned (.bool false) ∧ Below w.heap.size w w' := by
  unfold isZ at hz
  have hpl := fun w hr => place_any w A cap a a.plan.shard hr (by omega)
  rw [hp] at hpl
  obtain ⟨b, off, rfl, hb, p0, p1, p2, p3, p4⟩ := span_cells hrow k hk
  have Hrow := Lib.hid hrow; have Hpl := Lib.hid hpl
  clear hrow hpl hp p0 p1 p2 p3 p4
  have hk1 : (0 : Int) ≤ (k : Int) := by omega
  have hk2 : (k : Int) < (a.sp.length : Int) := by omega
  have hw6 : IntKind.i64.wrap (s.ep - 2) = s.ep - 2 := IntWalk.i64_in _ (by omega)
  have F0 := Lib.hid f0; have F1 := Lib.hid f1; have F2 := Lib.hid f2; have F3 := Lib.hid f3; clear f0 f1 f2 f3
  go_enter Try.func53, Try.ntmps53
  go_wp2_with (
    (go_at_call 41
     refine (Hpl.out _ (Hrow.out.below (al2 _ _) (Nat.le_refl _) |>.more (by simp; omega))).mono ?_
     rintro e w1 ⟨rfl, hb1⟩
     have hK : Known w w1 b off cap k a s := known_of Hrow.out hb1
     obtain ⟨m0, m1, m2, m3, m4, m5, m6, m7, m8, m9, m10, mlt⟩ := map_cells hK.map
     obtain ⟨n0, n1, n2, n3, n4, n5, n6, n7, nlt⟩ := plan_blk hK.plan
     obtain ⟨_, _, he, blt, s0, s1, s2, s3, s4⟩ := span_cells hK.row k hk
     injection he with he
     injection he with hx1 hx2
     subst hx1; subst hx2
     rw [hs] at s0 s1 s2 s3 s4
     have HK := Lib.hid hK
     have f0 := F0.out; have f1 := F1.out; have f2 := F2.out; have f3 := F3.out
     clear hb1 hK))
  go_ret
  exact ⟨rfl, (HK.out.later (al _)).bel⟩
set_option maxRecDepth 100000 in
set_option maxHeartbeats 2000000 in
theorem unfit3 (w : World) (A : Option Addr) (cap : Nat) (a : Atl) (k : Nat) (s : Span) (hz : isZ a.plan = false) (hrow : RowAt w w.heap.size 5 A (a.sp.map Span.cells)) (hlen : a.sp.length ≤ 16) (he1 : 1 ≤ s.ep) (he2 : s.ep ≤ 1099511627776)
    (hk : k < a.sp.length) (hs : a.sp[k] = s) (hp : place a.sp a.plan.shard = (k : Int)) (hq1 : 1 ≤ a.plan.epoch) (hq2 : a.plan.epoch ≤ 1099511627774) (hkind : ¬ a.plan.kind = 1) (f0 : a.plan.past = 0) (f1 : s.gr = a.plan.group) (f2 : ¬ a.plan.phase = 1) (f3 : ¬ a.plan.phase = 9) :
    Calls Try.prog 53 #[a.val (.slice A a.sp.length cap)] w fun e w' => e = .returned (.bool false) ∧ Below w.heap.size w w' := by
  unfold isZ at hz
  have hpl := fun w hr => place_any w A cap a a.plan.shard hr (by omega)
  rw [hp] at hpl
  obtain ⟨b, off, rfl, hb, p0, p1, p2, p3, p4⟩ := span_cells hrow k hk
  have Hrow := Lib.hid hrow; have Hpl := Lib.hid hpl
  clear hrow hpl hp p0 p1 p2 p3 p4
  have hk1 : (0 : Int) ≤ (k : Int) := by omega
  have hk2 : (k : Int) < (a.sp.length : Int) := by omega
  have hw6 : IntKind.i64.wrap (s.ep - 2) = s.ep - 2 := IntWalk.i64_in _ (by omega)
  have F0 := Lib.hid f0; have F1 := Lib.hid f1; have F2 := Lib.hid f2; have F3 := Lib.hid f3; clear f0 f1 f2 f3
  go_enter Try.func53, Try.ntmps53
  go_wp2_with (
    (go_at_call 41
     refine (Hpl.out _ (Hrow.out.below (al2 _ _) (Nat.le_refl _) |>.more (by simp; omega))).mono ?_
     rintro e w1 ⟨rfl, hb1⟩
     have hK : Known w w1 b off cap k a s := known_of Hrow.out hb1
     obtain ⟨m0, m1, m2, m3, m4, m5, m6, m7, m8, m9, m10, mlt⟩ := map_cells hK.map
     obtain ⟨n0, n1, n2, n3, n4, n5, n6, n7, nlt⟩ := plan_blk hK.plan
     obtain ⟨_, _, he, blt, s0, s1, s2, s3, s4⟩ := span_cells hK.row k hk
     injection he with he
     injection he with hx1 hx2
     subst hx1; subst hx2
     rw [hs] at s0 s1 s2 s3 s4
     have HK := Lib.hid hK
     have f0 := F0.out; have f1 := F1.out; have f2 := F2.out; have f3 := F3.out
     clear hb1 hK))
  go_ret
  exact ⟨rfl, (HK.out.later (al _)).bel⟩
set_option maxRecDepth 100000 in
set_option maxHeartbeats 2000000 in
theorem unfit4 (w : World) (A : Option Addr) (cap : Nat) (a : Atl) (k : Nat) (s : Span) (hz : isZ a.plan = false) (hrow : RowAt w w.heap.size 5 A (a.sp.map Span.cells)) (hlen : a.sp.length ≤ 16) (he1 : 1 ≤ s.ep) (he2 : s.ep ≤ 1099511627776)
    (hk : k < a.sp.length) (hs : a.sp[k] = s) (hp : place a.sp a.plan.shard = (k : Int)) (hq1 : 1 ≤ a.plan.epoch) (hq2 : a.plan.epoch ≤ 1099511627774) (hkind : ¬ a.plan.kind = 1) (f0 : a.plan.past = 0) (f1 : s.gr = a.plan.group) (f2 : ¬ a.plan.phase = 1) (f3 : a.plan.phase = 9) (f4 : ¬ s.ep - 2 = a.plan.epoch) :
    Calls Try.prog 53 #[a.val (.slice A a.sp.length cap)] w fun e w' => e = .returned (.bool false) ∧ Below w.heap.size w w' := by
  unfold isZ at hz
  have hpl := fun w hr => place_any w A cap a a.plan.shard hr (by omega)
  rw [hp] at hpl
  obtain ⟨b, off, rfl, hb, p0, p1, p2, p3, p4⟩ := span_cells hrow k hk
  have Hrow := Lib.hid hrow; have Hpl := Lib.hid hpl
  clear hrow hpl hp p0 p1 p2 p3 p4
  have hk1 : (0 : Int) ≤ (k : Int) := by omega
  have hk2 : (k : Int) < (a.sp.length : Int) := by omega
  have hw6 : IntKind.i64.wrap (s.ep - 2) = s.ep - 2 := IntWalk.i64_in _ (by omega)
  have F0 := Lib.hid f0; have F1 := Lib.hid f1; have F2 := Lib.hid f2; have F3 := Lib.hid f3; have F4 := Lib.hid f4; clear f0 f1 f2 f3 f4
  go_enter Try.func53, Try.ntmps53
  go_wp2_with (
    (go_at_call 41
     refine (Hpl.out _ (Hrow.out.below (al2 _ _) (Nat.le_refl _) |>.more (by simp; omega))).mono ?_
     rintro e w1 ⟨rfl, hb1⟩
     have hK : Known w w1 b off cap k a s := known_of Hrow.out hb1
     obtain ⟨m0, m1, m2, m3, m4, m5, m6, m7, m8, m9, m10, mlt⟩ := map_cells hK.map
     obtain ⟨n0, n1, n2, n3, n4, n5, n6, n7, nlt⟩ := plan_blk hK.plan
     obtain ⟨_, _, he, blt, s0, s1, s2, s3, s4⟩ := span_cells hK.row k hk
     injection he with he
     injection he with hx1 hx2
     subst hx1; subst hx2
     rw [hs] at s0 s1 s2 s3 s4
     have HK := Lib.hid hK
     have f0 := F0.out; have f1 := F1.out; have f2 := F2.out; have f3 := F3.out; have f4 := F4.out
     clear hb1 hK))
  go_ret
  exact ⟨rfl, (HK.out.later (al _)).bel⟩
end Go.Proofs.Ytimondpollbdfaa
