/- What is proved: the document's Same on maps: true on two copies of one map; whether a map is empty, by both programs. -/
import Derived.Test.YtimondpollbdfaaClone
set_option linter.unusedVariables false
set_option linter.unusedSimpArgs false
namespace Go.Proofs.Ytimondpollbdfaa
open Go.RowKit
attribute [local go_sem] Span.val Atl.val Plan.val
attribute [local go_sem high] run_eql_eqP run_neq_eqP run_eql_eqS run_neq_eqS

theorem eqP_refl (a0 a1 a2 a3 a4 a5 a6 : Int) (a7 : ByteArray) : eqP a0 a0 a1 a1 a2 a2 a3 a3 a4 a4 a5 a5 a6 a6 a7 a7 = true := by simp [eqP]
theorem eqS_refl (a2 a3 a4 : Int) (a0 a1 : ByteArray) : eqS a2 a2 a3 a3 a4 a4 a0 a0 a1 a1 = true := by simp [eqS]
attribute [local go_sem] eqP_refl eqS_refl

set_option maxRecDepth 100000 in
set_option maxHeartbeats 2000000 in
theorem same_true (w : World) (A A' : Option Addr) (cap cap' : Nat) (a : Atl) (h : MapIn w A cap a) (h' : MapIn w A' cap' a) :
    Calls Try.prog 16 #[a.val (.slice A a.sp.length cap), a.val (.slice A' a.sp.length cap')] w fun e w' => e = .returned (.bool true) ∧ Below w.heap.size w w' := by
  have hlen : a.sp.length ≤ 9223372036854775807 := Nat.le_trans h.ncap h.cmax
  have HI := Lib.hid h; have HI' := Lib.hid h'; clear h h'
  go_enter Try.func16, Try.ntmps16
  go_wp2
  have hI2 := HI.out.below (al2 (a.blk (.slice A a.sp.length cap)) (a.blk (.slice A' a.sp.length cap')))
  have hI2' := HI'.out.below (al2 (a.blk (.slice A a.sp.length cap)) (a.blk (.slice A' a.sp.length cap')))
  have hB2 := al2 (w := w) (a.blk (.slice A a.sp.length cap)) (a.blk (.slice A' a.sp.length cap'))
  have hM1 : ((w.alloc (a.blk (.slice A a.sp.length cap))).alloc (a.blk (.slice A' a.sp.length cap'))).heap[w.heap.size]? = some (a.blk (.slice A a.sp.length cap)) := (Below.heap_alloc _ _ _ (by simp)).trans (heap_alloc_new w _)
  have hM2 : ((w.alloc (a.blk (.slice A a.sp.length cap))).alloc (a.blk (.slice A' a.sp.length cap'))).heap[w.heap.size + 1]? = some (a.blk (.slice A' a.sp.length cap')) := by simpa using heap_alloc_new (w.alloc (a.blk (.slice A a.sp.length cap))) (a.blk (.slice A' a.sp.length cap'))
  change Code.wp _ _ _ _ ((w.alloc (a.blk (.slice A a.sp.length cap))).alloc (a.blk (.slice A' a.sp.length cap')))
  generalize (w.alloc (a.blk (.slice A a.sp.length cap))).alloc (a.blk (.slice A' a.sp.length cap')) = w2 at *
  obtain ⟨_, _, m2, _, _, _, _, _, _, _, _, mlt⟩ := map_cells hM1
  obtain ⟨_, _, n2, _, _, _, _, _, _, _, _, nlt⟩ := map_cells hM2
  have HI2 := Lib.hid hI2; have HI2' := Lib.hid hI2'; have HB2 := Lib.hid hB2
  clear hM1 hM2 hI2 hI2' hB2 HI HI'
  go_loopw [5] (fun v wr => ∃ k : Nat, k ≤ a.sp.length ∧ v = .int .i64 k ∧ Below w2.heap.size w2 wr) (fun v _ => a.sp.length - (intOf v).toNat)
  case atStart => exact ⟨0, Nat.zero_le _, rfl, Below.refl _ _⟩
  case round =>
    obtain ⟨k, hk, rfl, hbel⟩ := hrel
    have q2 := cell_later hbel m2
    have r2 := cell_later hbel n2
    by_cases hlt : k < a.sp.length
    · obtain ⟨b, off, rfl, hb, p0, p1, p2, p3, p4⟩ := span_cells (HI2.out.below hbel).row k hlt
      obtain ⟨b', off', rfl, hb', s0, s1, s2, s3, s4⟩ := span_cells (HI2'.out.below hbel).row k hlt
      have hk1 : (0 : Int) ≤ (k : Int) := by omega
      have hk2 : (k : Int) < (a.sp.length : Int) := by omega
      go_wp2_with fail
      go_quiet (fail)
      go_wp2_with fail
      go_roundw
      case rel => exact ⟨k + 1, by omega, by go_num, hbel.trans ⟨rfl, rfl, rfl, Nat.le_refl _, fun _ _ => rfl⟩⟩
      case measure => simp [intOf]; omega
    · go_wp2
      go_ret
      exact ⟨rfl, HB2.out.trans (hbel.mono HB2.out.size)⟩

def emptyB (a : Atl) : Bool := decide (a.groups = 0) && decide (a.last = 0) && decide (a.sp.length = 0) && isZ a.plan
theorem emptyB_no {a : Atl} (h : ¬ (a.groups = 0 ∧ a.last = 0 ∧ a.sp.length = 0 ∧ isZ a.plan = true)) : emptyB a = false := by
  unfold emptyB
  rw [Bool.eq_false_iff]
  intro h2
  simp only [Bool.and_eq_true, decide_eq_true_eq] at h2
  exact h ⟨h2.1.1.1, h2.1.1.2, h2.1.2, h2.2⟩
theorem emptyB_yes {a : Atl} (h1 : a.groups = 0) (h2 : a.last = 0) (h3 : a.sp.length = 0) (h4 : isZ a.plan = true) : emptyB a = true := by
  unfold emptyB; rw [h1, h2, h3, h4]; rfl
def zeroV : Value := .agg #[.int .i64 0, .int .i64 0, .slice none 0 0, .int .i64 0, .int .i64 0, .int .i64 0, .int .i64 0, .int .i64 0, .int .i64 0, .int .i64 0, .string ⟨#[]⟩]
attribute [local go_sem] zeroV

set_option maxRecDepth 100000 in
set_option maxHeartbeats 2000000 in
theorem same_zero (w : World) (A : Option Addr) (cap : Nat) (a : Atl) (hlen : a.sp.length ≤ 9223372036854775807) :
    Calls Try.prog 16 #[a.val (.slice A a.sp.length cap), zeroV] w fun e w' => e = .returned (.bool (emptyB a)) ∧ Below w.heap.size w w' := by
  by_cases h1 : a.groups = 0
  case neg =>
    have hf : emptyB a = false := emptyB_no fun h => h1 h.1
    have Hf := Lib.hid hf; clear hf
    skip
    go_enter Try.func16, Try.ntmps16
    go_wp2
    all_goals
      go_ret
      exact ⟨ret_bool Hf.out.symm, al2 _ _⟩

  by_cases h2 : a.last = 0
  case neg =>
    have hf : emptyB a = false := emptyB_no fun h => h2 h.2.1
    have Hf := Lib.hid hf; clear hf
    skip
    go_enter Try.func16, Try.ntmps16
    go_wp2
    all_goals
      go_ret
      exact ⟨ret_bool Hf.out.symm, al2 _ _⟩

  by_cases h3 : a.sp.length = 0
  case neg =>
    have hf : emptyB a = false := emptyB_no fun h => h3 h.2.2.1
    have h4 : ¬ (a.sp.length : Int) = 0 := by omega
    cases hz : isZ a.plan
    all_goals
      unfold isZ at hz
      have Hf := Lib.hid hf; clear hf
      skip
      go_enter Try.func16, Try.ntmps16
      go_wp2
      all_goals
        go_ret
        exact ⟨ret_bool Hf.out.symm, al2 _ _⟩

  have h4 : (a.sp.length : Int) = 0 := by omega
  cases hz : isZ a.plan
  · have hf : emptyB a = false := emptyB_no fun h => by rw [hz] at h; exact absurd h.2.2.2 (by simp)
    unfold isZ at hz
    have Hf := Lib.hid hf; clear hf
    skip
    go_enter Try.func16, Try.ntmps16
    go_wp2
    all_goals
      go_ret
      exact ⟨ret_bool Hf.out.symm, al2 _ _⟩

  · have hf : emptyB a = true := emptyB_yes h1 h2 h3 hz
    unfold isZ at hz
    have Hf := Lib.hid hf; clear hf
    go_enter Try.func16, Try.ntmps16
    go_wp2
    go_loopw [5] (fun v wr => v = .int .i64 0 ∧ wr = (w.alloc (.cells #[.int .i64 0, .int .i64 0, .slice A 0 cap, .int .i64 a.plan.kind, .int .i64 a.plan.phase, .int .i64 a.plan.shard, .int .i64 a.plan.other, .int .i64 a.plan.group, .int .i64 a.plan.past, .int .i64 a.plan.epoch, .string a.plan.key] 26)).alloc (.cells #[.int .i64 0, .int .i64 0, .slice none 0 0, .int .i64 0, .int .i64 0, .int .i64 0, .int .i64 0, .int .i64 0, .int .i64 0, .int .i64 0, .string ⟨#[]⟩] 26)) (fun _ _ => 0)
    case atStart => exact ⟨rfl, rfl⟩
    case round =>
      obtain ⟨rfl, rfl⟩ := hrel
      go_wp2
      go_ret
      exact ⟨ret_bool Hf.out.symm, al2 _ _⟩

set_option maxRecDepth 100000 in
set_option maxHeartbeats 2000000 in
theorem empty_any (w : World) (A : Option Addr) (cap : Nat) (a : Atl) (hlen : a.sp.length ≤ 9223372036854775807) :
    Calls Try.prog 50 #[a.val (.slice A a.sp.length cap)] w fun e w' => e = .returned (.bool (emptyB a)) ∧ Below w.heap.size w w' := by
  by_cases h1 : a.groups = 0
  case neg =>
    have hf : emptyB a = false := emptyB_no fun h => h1 h.1
    have Hf := Lib.hid hf; clear hf
    skip
    go_enter Try.func50, Try.ntmps50
    go_wp2
    all_goals
      go_ret
      exact ⟨ret_bool Hf.out.symm, al _⟩

  by_cases h2 : a.last = 0
  case neg =>
    have hf : emptyB a = false := emptyB_no fun h => h2 h.2.1
    have Hf := Lib.hid hf; clear hf
    skip
    go_enter Try.func50, Try.ntmps50
    go_wp2
    all_goals
      go_ret
      exact ⟨ret_bool Hf.out.symm, al _⟩

  by_cases h3 : a.sp.length = 0
  case neg =>
    have hf : emptyB a = false := emptyB_no fun h => h3 h.2.2.1
    have h4 : ¬ (a.sp.length : Int) = 0 := by omega
    cases hz : isZ a.plan
    all_goals
      unfold isZ at hz
      have Hf := Lib.hid hf; clear hf
      skip
      go_enter Try.func50, Try.ntmps50
      go_wp2
      all_goals
        go_ret
        exact ⟨ret_bool Hf.out.symm, al _⟩

  have h4 : (a.sp.length : Int) = 0 := by omega
  cases hz : isZ a.plan
  · have hf : emptyB a = false := emptyB_no fun h => by rw [hz] at h; exact absurd h.2.2.2 (by simp)
    unfold isZ at hz
    have Hf := Lib.hid hf; clear hf
    skip
    go_enter Try.func50, Try.ntmps50
    go_wp2
    all_goals
      go_ret
      exact ⟨ret_bool Hf.out.symm, al _⟩

  · have hf : emptyB a = true := emptyB_yes h1 h2 h3 hz
    unfold isZ at hz
    have Hf := Lib.hid hf; clear hf
    skip
    go_enter Try.func50, Try.ntmps50
    go_wp2
    all_goals
      go_ret
      exact ⟨ret_bool Hf.out.symm, al _⟩

theorem rEmpty_any (w : World) (A : Option Addr) (cap : Nat) (a : Atl) (hlen : a.sp.length ≤ 9223372036854775807) :
    Calls Try.prog 51 #[a.val (.slice A a.sp.length cap)] w fun e w' => e = .returned (.bool (emptyB a)) ∧ Below w.heap.size w w' := by
  go_enter Try.func51, Try.ntmps51
  go_wp2_with (go_at_call 16
               refine (same_zero _ A cap a hlen).mono ?_
               rintro e w1 ⟨rfl, hb1⟩)
  go_ret
  exact ⟨rfl, (al _).trans (hb1.mono (by simp))⟩
end Go.Proofs.Ytimondpollbdfaa
