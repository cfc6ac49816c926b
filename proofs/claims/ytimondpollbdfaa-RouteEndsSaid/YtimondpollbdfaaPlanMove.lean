/- What is proved: whether a plan of a move fits its map: the program's planned. -/
import Derived.Test.YtimondpollbdfaaPlanned
set_option linter.unusedVariables false
set_option linter.unusedSimpArgs false
namespace Go.Proofs.Ytimondpollbdfaa
open Go.RowKit
attribute [local go_sem] Span.val Atl.val Plan.val
attribute [local go_sem high] run_eql_eqP run_neq_eqP run_eql_eqS run_neq_eqS

theorem planAt_move {a : Atl} {i : Nat} {s : Span} (h : (a.plan.kind == 1) = true) : PlanAt a i s ↔ 1 ≤ a.plan.epoch ∧ a.plan.epoch ≤ 1099511627774 ∧ moveOk a.groups s a.plan = true := by
  have h1 : a.plan.kind = 1 := by simpa using h
  unfold PlanAt
  rw [h1]
  constructor
  · rintro ⟨h2, h3, ⟨_, h4⟩ | ⟨_, _, _, ⟨h5, _⟩ | ⟨h5, _⟩⟩⟩
    · exact ⟨h2, h3, h4⟩
    · omega
    · omega
  · rintro ⟨h2, h3, h4⟩
    exact ⟨h2, h3, .inl ⟨rfl, h4⟩⟩
set_option maxRecDepth 100000 in
set_option maxHeartbeats 1000000 in
theorem planned_move (w : World) (A : Option Addr) (cap : Nat) (a : Atl) (k : Nat) (hz : isZ a.plan = false) (hrow : RowAt w w.heap.size 5 A (a.sp.map Span.cells)) (hlen : a.sp.length ≤ 16) (hep : ∀ s ∈ a.sp, 1 ≤ s.ep ∧ s.ep ≤ 1099511627776) (hks : a.plan.key.size ≤ 9223372036854775807)
    (hk : k < a.sp.length) (hp : place a.sp a.plan.shard = (k : Int)) (hkind : (a.plan.kind == 1) = true) :
    Calls Try.prog 53 #[a.val (.slice A a.sp.length cap)] w fun e w' => e = .returned (.bool (tr (PlanOk a))) ∧ Below w.heap.size w w' := by
  have hdef := planOk_some hk hp
  rw [hz, planAt_move hkind] at hdef
  unfold isZ at hz
  have hpl := fun w hr => place_any w A cap a a.plan.shard hr (by omega)
  rw [hp] at hpl
  obtain ⟨he1, he2⟩ := hep _ (List.getElem_mem hk)
  obtain ⟨b, off, rfl, hb, p0, p1, p2, p3, p4⟩ := span_cells hrow k hk
  have Hrow := Lib.hid hrow; have Hpl := Lib.hid hpl; have Hdef := Lib.hid hdef
  clear hrow hpl hp hep hdef p0 p1 p2 p3 p4
  have hk1 : (0 : Int) ≤ (k : Int) := by omega
  have hk2 : (k : Int) < (a.sp.length : Int) := by omega
  generalize hs : a.sp[k] = s at *
  go_enter Try.func53, Try.ntmps53
  go_wp2_with (first
    | (go_at_call 41
       refine (Hpl.out _ (Hrow.out.below (al2 _ _) (Nat.le_refl _) |>.more (by simp; omega))).mono ?_
       rintro e w1 ⟨rfl, hb1⟩
       have hK : Known w w1 b off cap k a s := known_of Hrow.out hb1
       obtain ⟨m0, m1, m2, m3, m4, m5, m6, m7, m8, m9, m10, mlt⟩ := map_cells hK.map
       obtain ⟨n0, n1, n2, n3, n4, n5, n6, n7, nlt⟩ := plan_blk hK.plan
       obtain ⟨_, _, he, blt, s0, s1, s2, s3, s4⟩ := span_cells hK.row k hk
       injection he with he
       injection he with hx1 hx2
       subst hx1; subst hx2
       rw [hs] at s0 s1 s2 s3 s4
       have HK := Lib.hid hK
       clear hb1 hK)
    | (go_at_call 69
       refine (moving_any a _ s a.plan he1 he2 _).mono ?_
       rintro e w3 ⟨rfl, hb3⟩))
  all_goals
    go_ret
    refine ⟨ret_bool (eq_tr ?_), ?_⟩
    rotate_left
    · first
        | exact HK.out.bel
        | exact (HK.out.later (al _)).bel
        | exact (HK.out.later ((al _).trans (hb3.mono (by simp)))).bel
    · rw [Hdef.out]
      first
        | exact ⟨fun h => (by cases h), fun h => by rcases h with h | h; cases h; omega⟩
        | exact ⟨fun h => .inr ⟨by omega, by omega, h⟩, fun h => by rcases h with h | h; cases h; exact h.2.2⟩
set_option maxRecDepth 100000 in
set_option maxHeartbeats 1000000 in
theorem planned_far (w : World) (A : Option Addr) (cap : Nat) (a : Atl) (k : Nat) (hz : isZ a.plan = false) (hrow : RowAt w w.heap.size 5 A (a.sp.map Span.cells)) (hlen : a.sp.length ≤ 16)
    (hk : k < a.sp.length) (hp : place a.sp a.plan.shard = (k : Int)) (hq : ¬ (1 ≤ a.plan.epoch ∧ a.plan.epoch ≤ 1099511627774)) :
    Calls Try.prog 53 #[a.val (.slice A a.sp.length cap)] w fun e w' => e = .returned (.bool (tr (PlanOk a))) ∧ Below w.heap.size w w' := by
  have hdef := planOk_some hk hp
  rw [hz] at hdef
  have Hfal := Lib.hid (tr_false (P := PlanOk a) (fun h => by
    rcases hdef.1 h with h | ⟨h1, h2, _⟩
    · cases h
    · exact hq ⟨h1, h2⟩))
  unfold isZ at hz
  have hpl := fun w hr => place_any w A cap a a.plan.shard hr (by omega)
  rw [hp] at hpl
  obtain ⟨b, off, rfl, hb, p0, p1, p2, p3, p4⟩ := span_cells hrow k hk
  have Hrow := Lib.hid hrow; have Hpl := Lib.hid hpl; have Hq := Lib.hid hq
  clear hrow hpl hp hdef p0 p1 p2 p3 p4 hq
  have hk1 : (0 : Int) ≤ (k : Int) := by omega
  have tok : True := trivial
  go_enter Try.func53, Try.ntmps53
  go_wp2_with (first
    | (go_at_call 41
       have _h : True := tok
       refine (Hpl.out _ (Hrow.out.below (al2 _ _) (Nat.le_refl _) |>.more (by simp; omega))).mono ?_
       rintro e w1 ⟨rfl, hb1⟩
       have hK : Known w w1 b off cap k a (Span.mk ⟨#[]⟩ ⟨#[]⟩ 0 0 0) := known_of Hrow.out hb1
       obtain ⟨n0, n1, n2, n3, n4, n5, n6, n7, nlt⟩ := plan_blk hK.plan
       have HK := Lib.hid hK
       have hq := Hq.out
       clear hb1 hK tok))
  all_goals
    first
      | (go_ret; exact ⟨ret_bool Hfal.out.symm, HK.out.bel⟩)
      | (exfalso; have := Hq.out; omega)
end Go.Proofs.Ytimondpollbdfaa
