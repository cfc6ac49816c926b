/- What is proved: IndexFunc over packets: the place of the first one of which the handed function says yes. -/
import Derived.Test.YtbgobcjnckoekaaLeaf
namespace Go.Proofs.Ytbgobcjnckoekaa
open Go.RowKit
attribute [local go_sem] cell_over frozen_over

theorem pkt_cells {w : World} {B : Nat} {A : Option Addr} {ps : List Pkt} (h : RowAt w B 4 A (ps.map Pkt.cells)) (k : Nat) (hk : k < ps.length) :
    ∃ b off, A = some ⟨b, off, none⟩ ∧ b < B ∧ w.cell? ⟨b, off + k * 4, none⟩ = some (.int .i64 ps[k].id) ∧ w.cell? ⟨b, off + k * 4 + 1, none⟩ = some (.int .i64 ps[k].src) ∧
      w.cell? ⟨b, off + k * 4 + 2, none⟩ = some (.int .i64 ps[k].dst) ∧ w.cell? ⟨b, off + k * 4 + 3, none⟩ = some (.string ps[k].body) := by
  obtain ⟨b, off, hA, hb, hc⟩ := h k ps[k].cells (by simp [hk])
  exact ⟨b, off, hA, hb, hc 0 _ rfl, hc 1 _ rfl, hc 2 _ rfl, hc 3 _ rfl⟩

set_option maxHeartbeats 1000000 in
theorem IndexFunc_cl (c : Nat) (q : Pkt → Bool) (ps : List Pkt) (A : Option Addr) (cap : Nat) (w : World) (hlen : ps.length ≤ 9223372036854775807) (hrow : RowAt w w.heap.size 4 A (ps.map Pkt.cells))
    (hcall : ∀ i (h : i < ps.length) w', Below w.heap.size w w' → Calls Try.prog 36 #[ps[i].val, .pointer (some ⟨c, 0, none⟩)] w' fun e w'' => e = .returned (.bool (q ps[i])) ∧ Below w'.heap.size w' w'') :
    Calls Try.prog 27 #[.slice A ps.length cap, .func (.func 36) #[] #[.pointer (some ⟨c, 0, none⟩)]] w fun e w' => e = .returned (.int .i64 (idxOf q ps)) ∧ Below w.heap.size w w' := by
  have hcall' := Lib.hid hcall; clear hcall
  go_enter Try.func27, Try.ntmps27
  go_wp2
  go_loopw [8] (fun i wr => ∃ k : Nat, k ≤ ps.length ∧ (∀ j (_ : j < k) (h' : j < ps.length), q ps[j] = false) ∧ i = .int .i64 k ∧ Below w.heap.size w wr) (fun i _ => ps.length - (intOf i).toNat)
  case atStart => exact ⟨0, Nat.zero_le _, fun j h => absurd h (by omega), rfl, Below.refl _ _⟩
  case round =>
    obtain ⟨k, hk, hno, rfl, hbel⟩ := hrel
    have hno' := Lib.hid hno; clear hno
    by_cases hlt : k < ps.length
    · obtain ⟨b, off, rfl, hb, h0, h1, h2, h3⟩ := pkt_cells (hrow.below hbel (Nat.le_refl _)) k hlt
      have hcallk := Lib.hid (hcall'.out k hlt wr hbel)
      go_wp2_with (go_at_call 36; refine hcallk.out.mono ?_; rintro e w1 ⟨rfl, hb1⟩)
      · have hq : q ps[k] = true := by assumption
        go_ret
        exact ⟨ret_int (idxOf_found hlt hno'.out hq).symm, hbel.trans (hb1.mono hbel.size)⟩
      · have hq : q ps[k] = false := by assumption
        go_roundw
        case rel => exact ⟨k + 1, by omega, fun j hj hj' => by
          rcases Nat.lt_succ_iff_lt_or_eq.1 hj with h | h
          · exact hno'.out j h hj'
          · subst h; exact hq, by go_num, hbel.trans (hb1.mono hbel.size)⟩
        case measure => simp [intOf]; omega
    · have hp := Lib.hid (idxOf_none (q := q) (l := ps) fun j hj => hno'.out j (by omega) hj)
      go_wp2
      go_ret
      exact ⟨ret_int hp.out.symm, hbel⟩
set_option maxHeartbeats 1000000 in
theorem IndexFunc_bd (r : Nat) (q : Pkt → Bool) (ps : List Pkt) (A : Option Addr) (cap : Nat) (w : World) (hlen : ps.length ≤ 9223372036854775807) (hrow : RowAt w w.heap.size 4 A (ps.map Pkt.cells))
    (hcall : ∀ i (h : i < ps.length) w', Below w.heap.size w w' → Calls Try.prog 28 #[.pointer (some ⟨r, 0, none⟩), ps[i].val] w' fun e w'' => e = .returned (.bool (q ps[i])) ∧ Below w'.heap.size w' w'') :
    Calls Try.prog 27 #[.slice A ps.length cap, .func (.func 28) #[.pointer (some ⟨r, 0, none⟩)] #[]] w fun e w' => e = .returned (.int .i64 (idxOf q ps)) ∧ Below w.heap.size w w' := by
  have hcall' := Lib.hid hcall; clear hcall
  go_enter Try.func27, Try.ntmps27
  go_wp2
  go_loopw [8] (fun i wr => ∃ k : Nat, k ≤ ps.length ∧ (∀ j (_ : j < k) (h' : j < ps.length), q ps[j] = false) ∧ i = .int .i64 k ∧ Below w.heap.size w wr) (fun i _ => ps.length - (intOf i).toNat)
  case atStart => exact ⟨0, Nat.zero_le _, fun j h => absurd h (by omega), rfl, Below.refl _ _⟩
  case round =>
    obtain ⟨k, hk, hno, rfl, hbel⟩ := hrel
    have hno' := Lib.hid hno; clear hno
    by_cases hlt : k < ps.length
    · obtain ⟨b, off, rfl, hb, h0, h1, h2, h3⟩ := pkt_cells (hrow.below hbel (Nat.le_refl _)) k hlt
      have hcallk := Lib.hid (hcall'.out k hlt wr hbel)
      go_wp2_with (go_at_call 28; refine hcallk.out.mono ?_; rintro e w1 ⟨rfl, hb1⟩)
      · have hq : q ps[k] = true := by assumption
        go_ret
        exact ⟨ret_int (idxOf_found hlt hno'.out hq).symm, hbel.trans (hb1.mono hbel.size)⟩
      · have hq : q ps[k] = false := by assumption
        go_roundw
        case rel => exact ⟨k + 1, by omega, fun j hj hj' => by
          rcases Nat.lt_succ_iff_lt_or_eq.1 hj with h | h
          · exact hno'.out j h hj'
          · subst h; exact hq, by go_num, hbel.trans (hb1.mono hbel.size)⟩
        case measure => simp [intOf]; omega
    · have hp := Lib.hid (idxOf_none (q := q) (l := ps) fun j hj => hno'.out j (by omega) hj)
      go_wp2
      go_ret
      exact ⟨ret_int hp.out.symm, hbel⟩
end Go.Proofs.Ytbgobcjnckoekaa
