/- What is proved: the document's Same on jobs and results: true on two copies of one; slices.Clone at jobs. Condition: the jobs take at most 2^47 bytes. -/
import Derived.Test.YtofdkincbhahfaaCheck
set_option linter.unusedVariables false
set_option linter.unusedSimpArgs false
namespace Go.Proofs.Ytofdkincbhahfaa
open Go.RowKit

def eqJ (a0 b0 : ByteArray) (a1 b1 : ByteArray) (a2 b2 : ByteArray) (a3 b3 : ByteArray) (a4 b4 : Int) (a5 b5 : Int) (a6 b6 : Bool) (a7 b7 : Int) : Bool := (a0.toList == b0.toList) && (a1.toList == b1.toList) && (a2.toList == b2.toList) && (a3.toList == b3.toList) && (a4 == b4) && (a5 == b5) && (a6 == b6) && (a7 == b7)
set_option maxHeartbeats 2000000 in
theorem run_neq_eqJ (a0 b0 : ByteArray) (a1 b1 : ByteArray) (a2 b2 : ByteArray) (a3 b3 : ByteArray) (a4 b4 : Int) (a5 b5 : Int) (a6 b6 : Bool) (a7 b7 : Int) (w : World) : (binOp .neq 53 (.agg #[.string a0, .string a1, .string a2, .string a3, .int .i64 a4, .int .i64 a5, .bool a6, .int .i64 a7]) (.agg #[.string b0, .string b1, .string b2, .string b3, .int .i64 b4, .int .i64 b5, .bool b6, .int .i64 b7])).run Try.prog w = .ok (.bool (!eqJ a0 b0 a1 b1 a2 b2 a3 b3 a4 b4 a5 b5 a6 b6 a7 b7)) w := by
  unfold eqJ
  cases e0 : (a0.toList == b0.toList)
  · simp [go_sem, e0]
  cases e1 : (a1.toList == b1.toList)
  · simp [go_sem, e0, e1]
  cases e2 : (a2.toList == b2.toList)
  · simp [go_sem, e0, e1, e2]
  cases e3 : (a3.toList == b3.toList)
  · simp [go_sem, e0, e1, e2, e3]
  cases e4 : (a4 == b4)
  · simp [go_sem, e0, e1, e2, e3, e4]
  cases e5 : (a5 == b5)
  · simp [go_sem, e0, e1, e2, e3, e4, e5]
  cases e6 : (a6 == b6)
  · simp [go_sem, e0, e1, e2, e3, e4, e5, e6]
  cases e7 : (a7 == b7)
  · simp [go_sem, e0, e1, e2, e3, e4, e5, e6, e7]
  simp [go_sem, e0, e1, e2, e3, e4, e5, e6, e7]
theorem eqJ_refl (a0 : ByteArray) (a1 : ByteArray) (a2 : ByteArray) (a3 : ByteArray) (a4 : Int) (a5 : Int) (a6 : Bool) (a7 : Int) : eqJ a0 a0 a1 a1 a2 a2 a3 a3 a4 a4 a5 a5 a6 a6 a7 a7 = true := by simp [eqJ]
attribute [local go_sem high] run_neq_eqJ
attribute [local go_sem] eqJ_refl
set_option maxRecDepth 100000 in
set_option maxHeartbeats 2000000 in
theorem jobs_true (w : World) (A A' : Option Addr) (cap cap' : Nat) (l : List JobD) (hl : l.length ≤ 9223372036854775807) (h : RowAt w w.heap.size 8 A (l.map JobD.cells)) (h' : RowAt w w.heap.size 8 A' (l.map JobD.cells)) :
    Calls Try.prog 25 #[.slice A l.length cap, .slice A' l.length cap'] w fun e w' => e = .returned (.bool true) ∧ Below w.heap.size w w' := by
  have H := Lib.hid h; have H' := Lib.hid h'; clear h h'
  go_enter Try.func25, Try.ntmps25
  go_wp2
  go_loopw [5] (fun v wr => ∃ k : Nat, k ≤ l.length ∧ v = .int .i64 k ∧ Below w.heap.size w wr) (fun v _ => l.length - (intOf v).toNat)
  case atStart => exact ⟨0, Nat.zero_le _, rfl, Below.refl _ _⟩
  case round =>
    obtain ⟨k, hk, rfl, hbel⟩ := hrel
    by_cases hlt : k < l.length
    · obtain ⟨b, off, rfl, hb, p0, p1, p2, p3, p4, p5, p6, p7⟩ := job_cells (H.out.below hbel (Nat.le_refl _)) k hlt
      obtain ⟨b', off', rfl, hb', s0, s1, s2, s3, s4, s5, s6, s7⟩ := job_cells (H'.out.below hbel (Nat.le_refl _)) k hlt
      have hk1 : (0 : Int) ≤ (k : Int) := by omega
      have hk2 : (k : Int) < (l.length : Int) := by omega
      go_wp2_with fail
      go_quiet (fail)
      go_wp2_with fail
      go_roundw
      case rel => exact ⟨k + 1, by omega, by go_num, hbel.trans ⟨rfl, rfl, rfl, Nat.le_refl _, fun _ _ => rfl⟩⟩
      case measure => simp [intOf]; omega
    · go_wp2
      go_ret
      exact ⟨rfl, hbel⟩
set_option maxRecDepth 100000 in
set_option maxHeartbeats 2000000 in
theorem result_true (w : World) (A A' : Option Addr) (cap cap' : Nat) (err time : Int) (l : List JobD) (hl : l.length ≤ 9223372036854775807) (h : RowAt w w.heap.size 8 A (l.map JobD.cells)) (h' : RowAt w w.heap.size 8 A' (l.map JobD.cells)) :
    Calls Try.prog 14 #[.agg #[.int .i64 err, .int .i64 time, .slice A l.length cap], .agg #[.int .i64 err, .int .i64 time, .slice A' l.length cap']] w fun e w' => e = .returned (.bool true) ∧ Below w.heap.size w w' := by
  have H := Lib.hid h; have H' := Lib.hid h'; clear h h'
  go_enter Try.func14, Try.ntmps14
  go_wp2_with (go_at_call 25
               refine (jobs_true _ A A' cap cap' l hl ((H.out.below (al2 _ _) (Nat.le_refl _)).more (by simp; omega)) ((H'.out.below (al2 _ _) (Nat.le_refl _)).more (by simp; omega))).mono ?_
               rintro e w1 ⟨rfl, hb1⟩)
  go_ret
  exact ⟨rfl, (al2 _ _).trans (hb1.mono (by simp; omega))⟩
theorem info53 : (Try.prog.info? 53).map (fun i => (i.zero, i.size, i.bytes)) = some (some (.agg #[.string ⟨#[]⟩, .string ⟨#[]⟩, .string ⟨#[]⟩, .string ⟨#[]⟩, .int .i64 0, .int .i64 0, .bool false, .int .i64 0]), 8, 96) := by kernel_rfl
theorem jobs_one (l : List JobD) : ∀ u ∈ (l.map JobD.cells).flatten, u.oneCell' = true := by
  intro u hu
  obtain ⟨c, hc, hu⟩ := List.mem_flatten.1 hu
  obtain ⟨p, _, rfl⟩ := List.mem_map.1 hc
  simp [JobD.cells] at hu
  rcases hu with rfl | rfl | rfl | rfl | rfl | rfl | rfl | rfl <;> rfl

set_option maxHeartbeats 400000 in
theorem cloneJ_any (w : World) (A : Option Addr) (cap : Nat) (l : List JobD) (hr : RowAt w w.heap.size 8 A (l.map JobD.cells)) (hlen : l.length * 96 ≤ 140737488355328) :
    Calls Try.prog 29 #[.slice A l.length cap] w fun e w' => ∃ A' cap', e = .returned (.slice A' l.length cap') ∧ w'.ownsRow w.heap.size 53 8 (.slice A' l.length cap') l.length (l.map JobD.cells).flatten ∧ Below w.heap.size w w' := by
  obtain ⟨i0, hi, hz0, hz1, hz2⟩ := info_parts info53
  have hn := fun w => Lib.run_eql_slice_nil (P := Try.prog) w 24 53 A l.length cap 0 0 Try.underlying24
  cases A with
  | none =>
    have hA' : l = [] := by
      cases l with
      | nil => rfl
      | cons d l => obtain ⟨b, off, hA, _⟩ := hr 0 (JobD.cells d) (by simp); cases hA
    subst hA'
    have hn0 := fun w => Lib.run_eql_slice_nil (P := Try.prog) w 24 53 none 0 cap 0 0 Try.underlying24
    clear hn
    go_enter Try.func29, Try.ntmps29
    go_wp2
    go_ret
    exact ⟨none, 0, rfl, World.ownsRow_nil _ _ _ _, Below.refl _ _⟩
  | some ad =>
    have hl : (l.map JobD.cells).length = l.length := by simp
    have Hl := Lib.hid hl; clear hl
    go_enter Try.func29, Try.ntmps29
    go_wp2_with (at_builtin; refine wpList_app _ rfl (.tmp 5) (.tmp 6) 24 rfl 53 i0 _ w.heap.size 8 96 Try.underlying24 hi hz0 hz1 hz2 rfl (by omega) (.slice (some ⟨w.heap.size, 0, none⟩) 0 0) 0 [] rfl (World.ownsRow_made w #[] 0 (Nat.le_refl _) (Nat.zero_le _) rfl) w.heap.size (some ad) l.length cap (l.map JobD.cells) rfl (hr.below ((Below.refl _ _).alloc (Nat.le_refl _) _) (Nat.le_refl _)) (job_len l) Hl.out (jobs_one l) (by unfold maxLen; omega) (by omega) (by simp) ?_; intro A' cap' w1 hown1 hg1 hat1)
    go_ret
    exact ⟨A', cap', by simp, by simpa using hown1, ((Below.refl _ _).alloc (Nat.le_refl _) _).grown hg1 (by simp) (by simp [Value.ownBlock])⟩
end Go.Proofs.Ytofdkincbhahfaa
