/- What is proved: slices.Clone at packets. -/
import Derived.Test.YtbgobcjnckoekaaFind
namespace Go.Proofs.Ytbgobcjnckoekaa
open Go.RowKit
theorem info34 : (Try.prog.info? 34).map (fun i => (i.zero, i.size, i.bytes)) = some (some (.agg #[.int .i64 0, .int .i64 0, .int .i64 0, .string ⟨#[]⟩]), 4, 40) := by kernel_rfl
theorem pkts_one (ps : List Pkt) : ∀ u ∈ (ps.map Pkt.cells).flatten, u.oneCell' = true := by
  intro u hu
  obtain ⟨c, hc, hu⟩ := List.mem_flatten.1 hu
  obtain ⟨p, _, rfl⟩ := List.mem_map.1 hc
  simp [Pkt.cells] at hu
  rcases hu with rfl | rfl | rfl | rfl <;> rfl
set_option maxHeartbeats 400000 in
theorem Clone_any (w : World) (B : Nat) (A : Option Addr) (cap : Nat) (ps : List Pkt) (hr : RowAt w B 4 A (ps.map Pkt.cells)) (hB : B ≤ w.heap.size) (hA : A = none → ps = []) (hlen : ps.length ≤ 2097152) :
    Calls Try.prog 30 #[.slice A ps.length cap] w fun e w' => ∃ A' cap', e = .returned (.slice A' ps.length cap') ∧ w'.ownsRow w.heap.size 34 4 (.slice A' ps.length cap') ps.length (ps.map Pkt.cells).flatten ∧ Below w.heap.size w w' := by
  obtain ⟨i0, hi, hz0, hz1, hz2⟩ := info_parts info34
  have hn := fun w => Lib.run_eql_slice_nil (P := Try.prog) w 27 34 A ps.length cap 0 0 Try.underlying27
  cases A with
  | none =>
    have hA' := hA rfl
    subst hA'
    have hn0 := fun w => Lib.run_eql_slice_nil (P := Try.prog) w 27 34 none 0 cap 0 0 Try.underlying27
    clear hn
    go_enter Try.func30, Try.ntmps30
    go_wp2
    go_ret
    exact ⟨none, 0, rfl, World.ownsRow_nil _ _ _ _, Below.refl _ _⟩
  | some ad =>
    have hl : (ps.map Pkt.cells).length = ps.length := by simp
    have Hl := Lib.hid hl; clear hl
    go_enter Try.func30, Try.ntmps30
    go_wp2_with (at_builtin; refine wpList_app _ rfl (.tmp 5) (.tmp 6) 27 rfl 34 i0 _ w.heap.size 4 40 Try.underlying27 hi hz0 hz1 hz2 rfl (by omega) (.slice (some ⟨w.heap.size, 0, none⟩) 0 0) 0 [] rfl (World.ownsRow_made w #[] 0 (Nat.le_refl _) (Nat.zero_le _) rfl) B (some ad) ps.length cap (ps.map Pkt.cells) rfl (hr.below ((Below.refl _ _).alloc (Nat.le_refl _) _) hB) (cells_len ps) Hl.out (pkts_one ps) (by unfold maxLen; omega) (by omega) (by simp) ?_; intro A' cap' w1 hown1 hg1 hat1)
    go_ret
    exact ⟨A', cap', by simp, by simpa using hown1, ((Below.refl _ _).alloc (Nat.le_refl _) _).grown hg1 (by simp) (by simp [Value.ownBlock])⟩
end Go.Proofs.Ytbgobcjnckoekaa
