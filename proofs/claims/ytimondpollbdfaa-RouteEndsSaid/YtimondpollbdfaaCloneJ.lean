/- What is proved: slices.Clone at jobs. Condition: the jobs take at most 2^47 bytes. -/
import Derived.Test.YtimondpollbdfaaRSame
set_option linter.unusedVariables false
set_option linter.unusedSimpArgs false
namespace Go.Proofs.Ytimondpollbdfaa
open Go.RowKit

theorem info88 : (Try.prog.info? 88).map (fun i => (i.zero, i.size, i.bytes)) = some (some (.agg #[.string ⟨#[]⟩, .string ⟨#[]⟩, .string ⟨#[]⟩, .string ⟨#[]⟩, .int .i64 0, .int .i64 0, .bool false, .int .i64 0]), 8, 96) := by kernel_rfl
theorem jobs_one (l : List JobD) : ∀ u ∈ (l.map JobD.cells).flatten, u.oneCell' = true := by
  intro u hu
  obtain ⟨c, hc, hu⟩ := List.mem_flatten.1 hu
  obtain ⟨p, _, rfl⟩ := List.mem_map.1 hc
  simp [JobD.cells] at hu
  rcases hu with rfl | rfl | rfl | rfl | rfl | rfl | rfl | rfl <;> rfl

set_option maxHeartbeats 400000 in
theorem cloneJ_any (w : World) (A : Option Addr) (cap : Nat) (l : List JobD) (hr : RowAt w w.heap.size 8 A (l.map JobD.cells)) (hlen : l.length * 96 ≤ 140737488355328) :
    Calls Try.prog 58 #[.slice A l.length cap] w fun e w' => ∃ A' cap', e = .returned (.slice A' l.length cap') ∧ w'.ownsRow w.heap.size 88 8 (.slice A' l.length cap') l.length (l.map JobD.cells).flatten ∧ Below w.heap.size w w' := by
  obtain ⟨i0, hi, hz0, hz1, hz2⟩ := info_parts info88
  have hn := fun w => Lib.run_eql_slice_nil (P := Try.prog) w 35 88 A l.length cap 0 0 Try.underlying35
  cases A with
  | none =>
    have hA' : l = [] := by
      cases l with
      | nil => rfl
      | cons d l => obtain ⟨b, off, hA, _⟩ := hr 0 (JobD.cells d) (by simp); cases hA
    subst hA'
    have hn0 := fun w => Lib.run_eql_slice_nil (P := Try.prog) w 35 88 none 0 cap 0 0 Try.underlying35
    clear hn
    go_enter Try.func58, Try.ntmps58
    go_wp2
    go_ret
    exact ⟨none, 0, rfl, World.ownsRow_nil _ _ _ _, Below.refl _ _⟩
  | some ad =>
    have hl : (l.map JobD.cells).length = l.length := by simp
    have Hl := Lib.hid hl; clear hl
    go_enter Try.func58, Try.ntmps58
    go_wp2_with (at_builtin; refine wpList_app _ rfl (.tmp 5) (.tmp 6) 35 rfl 88 i0 _ w.heap.size 8 96 Try.underlying35 hi hz0 hz1 hz2 rfl (by omega) (.slice (some ⟨w.heap.size, 0, none⟩) 0 0) 0 [] rfl (World.ownsRow_made w #[] 0 (Nat.le_refl _) (Nat.zero_le _) rfl) w.heap.size (some ad) l.length cap (l.map JobD.cells) rfl (hr.below ((Below.refl _ _).alloc (Nat.le_refl _) _) (Nat.le_refl _)) (job_len l) Hl.out (jobs_one l) (by unfold maxLen; omega) (by omega) (by simp) ?_; intro A' cap' w1 hown1 hg1 hat1)
    go_ret
    exact ⟨A', cap', by simp, by simpa using hown1, ((Below.refl _ _).alloc (Nat.le_refl _) _).grown hg1 (by simp) (by simp [Value.ownBlock])⟩
end Go.Proofs.Ytimondpollbdfaa
