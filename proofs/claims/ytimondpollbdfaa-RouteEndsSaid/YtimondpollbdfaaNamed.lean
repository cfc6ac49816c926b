/- What is proved: what a name is: both programs' Named. -/
import Derived.Test.YtimondpollbdfaaBase
import Derived.Laws.IdiomStrings
import Derived.Outline
set_option linter.unusedVariables false
set_option linter.unusedSimpArgs false
namespace Go.Proofs.Ytimondpollbdfaa
open Go.RowKit

def okByte (x : Int) : Bool := (decide (97 ≤ x) && decide (x ≤ 122)) || (decide (48 ≤ x) && decide (x ≤ 57)) || x == 45 || x == 46
def named (s : ByteArray) : Bool := s.data.toList.all (fun b => okByte (b.toNat : Int)) && decide (1 ≤ s.size) && decide (s.size ≤ 16)

theorem conv_bytes (s : ByteArray) (w : World) : ∃ w1 cap, (convert 9 95 (.string s)).run Try.prog w = .ok (.slice (some ⟨w.heap.size, 0, none⟩) s.size cap) w1 ∧ Below w.heap.size w w1 ∧ w.heap.size < w1.heap.size ∧
    ∀ j (hj : j < s.size), w1.cell? ⟨w.heap.size, j, none⟩ = some (.int .u8 ((s.data[j]'hj).toNat : Int)) := by
  refine ⟨_, _, run_bytes_of_string (P := Try.prog) w 9 95 5 s Try.underlying9 Try.underlying95 Try.underlying5, ((Below.refl _ w).drew).alloc (by simp) _, by simp, fun j hj => ?_⟩
  have := World.cell?_alloc_mark w.drew (bytesRow s (grownCap w s.size 0 5)) 5 ((bytesRow s (grownCap w s.size 0 5)).size, (bytesRow s (grownCap w s.size 0 5)).size + 1) j
  rw [show w.drew.heap.size = w.heap.size from rfl] at this
  rw [this]
  have hj' : j < s.data.size := hj
  unfold bytesRow
  rw [Array.getElem?_append_left (by simpa using hj')]
  simp only [Array.getElem?_map, Array.getElem?_eq_getElem hj', Option.map_some]

theorem named_no {s : ByteArray} {k : Nat} (hlt : k < s.size) (h : okByte ((s.data[k]'hlt).toNat : Int) = false) : named s = false := by
  have : s.data.toList.all (fun b => okByte (b.toNat : Int)) = false := by
    rw [List.all_eq_false]
    exact ⟨s.data[k]'hlt, by simp, by simp [h]⟩
  simp [named, this]
theorem named_yes {s : ByteArray} {k : Nat} (hk : s.size ≤ k) (h : ∀ j (_ : j < k) (h' : j < s.size), okByte ((s.data[j]'h').toNat : Int) = true) : named s = (decide ((1 : Int) ≤ (s.size : Int)) && decide ((s.size : Int) ≤ 16)) := by
  have : s.data.toList.all (fun b => okByte (b.toNat : Int)) = true := by
    rw [List.all_eq_true]
    intro b hb
    obtain ⟨j, hj, rfl⟩ := List.getElem_of_mem hb
    have hj' : j < s.size := by simpa using hj
    have := h j (by omega) hj'
    simpa using this
  have e1 : decide ((1 : Int) ≤ (s.size : Int)) = decide (1 ≤ s.size) := by apply decide_eq_decide.2; omega
  have e2 : decide ((s.size : Int) ≤ 16) = decide (s.size ≤ 16) := by apply decide_eq_decide.2; omega
  simp only [named, this, e1, e2, Bool.true_and]

set_option maxRecDepth 100000 in
set_option maxHeartbeats 1000000 in
theorem named_any (s : ByteArray) (hs : s.size ≤ 9223372036854775807) (w : World) : Calls Try.prog 47 #[.string s] w fun e w' => e = .returned (.bool (named s)) ∧ Below w.heap.size w w' := by
  obtain ⟨w1, cap, hconv, hb1, hlt1, hcell⟩ := conv_bytes s w
  have Hcell := Lib.hid hcell; clear hcell
  go_enter Try.func47, Try.ntmps47
  go_wp2
  go_loopw [8] (fun i wr => ∃ k : Nat, k ≤ s.size ∧ (∀ j (_ : j < k) (h' : j < s.size), okByte ((s.data[j]'h').toNat : Int) = true) ∧ i = .int .i64 k ∧ wr = w1) (fun i _ => s.size - (intOf i).toNat)
  case atStart => exact ⟨0, Nat.zero_le _, fun j h => absurd h (by omega), rfl, rfl⟩
  case round =>
    obtain ⟨k, hk, hyes, rfl, rfl⟩ := hrel
    have Hyes := Lib.hid hyes; clear hyes
    by_cases hlt : k < s.size
    · have hc := Hcell.out k hlt
      have hb8 : (s.data[k]'hlt).toNat < 256 := (s.data[k]'hlt).toNat_lt
      generalize hx : ((s.data[k]'hlt).toNat : Int) = x at *
      go_wp2
      all_goals first
        | (have hq : okByte x = false := by grind [okByte]
           go_ret
           exact ⟨ret_bool (named_no hlt (by rw [hx]; exact hq)).symm, hb1⟩)
        | (have hq : okByte x = true := by grind [okByte]
           go_roundw
           case rel => exact ⟨k + 1, by omega, fun j hj hj' => by
             rcases Nat.lt_succ_iff_lt_or_eq.1 hj with h | h
             · exact Hyes.out j h hj'
             · subst h; rw [hx]; exact hq, by go_num, trivial⟩
           case measure => simp [intOf]; omega)
    · have hn := named_yes (by omega) Hyes.out
      have Hn := Lib.hid hn; clear hn
      go_wp2
      all_goals
        go_ret
        refine ⟨ret_bool ?_, hb1⟩
        rw [Hn.out]
        grind
set_option maxRecDepth 100000 in
set_option maxHeartbeats 1000000 in
theorem rNamed_any (s : ByteArray) (hs : s.size ≤ 9223372036854775807) (w : World) : Calls Try.prog 49 #[.string s] w fun e w' => e = .returned (.bool (named s)) ∧ Below w.heap.size w w' := by
  go_enter Try.func49, Try.ntmps49
  go_wp2
  go_loopw [3] (fun i wr => ∃ k : Nat, k ≤ s.size ∧ (∀ j (_ : j < k) (h' : j < s.size), okByte ((s.data[j]'h').toNat : Int) = true) ∧ i = .int .i64 k ∧ wr = w) (fun i _ => s.size - (intOf i).toNat)
  case atStart => exact ⟨0, Nat.zero_le _, fun j h => absurd h (by omega), rfl, rfl⟩
  case round =>
    obtain ⟨k, hk, hyes, rfl, rfl⟩ := hrel
    have Hyes := Lib.hid hyes; clear hyes
    by_cases hlt : k < s.size
    · have hb8 : (s.data[k]'hlt).toNat < 256 := (s.data[k]'hlt).toNat_lt
      generalize hx : ((s.data[k]'hlt).toNat : Int) = x at *
      have hsk : ((s[k]'hlt).toNat : Int) = x := hx
      go_wp2
      all_goals first
        | (have hq : okByte x = false := by grind [okByte]
           go_ret
           exact ⟨ret_bool (named_no hlt (by rw [hx]; exact hq)).symm, Below.refl _ _⟩)
        | (have hq : okByte x = true := by grind [okByte]
           go_roundw
           case rel => exact ⟨k + 1, by omega, fun j hj hj' => by
             rcases Nat.lt_succ_iff_lt_or_eq.1 hj with h | h
             · exact Hyes.out j h hj'
             · subst h; rw [hx]; exact hq, by go_num, trivial⟩
           case measure => simp [intOf]; omega)
        | (have hq : okByte x = true := by grind [okByte]
           refine ⟨⟨k + 1, by omega, fun j hj hj' => by
             rcases Nat.lt_succ_iff_lt_or_eq.1 hj with h | h
             · exact Hyes.out j h hj'
             · subst h; rw [hx]; exact hq, by go_num, trivial⟩, ?_⟩
           simp [intOf]; omega)
    · have hn := named_yes (by omega) Hyes.out
      have Hn := Lib.hid hn; clear hn
      go_wp2
      all_goals
        go_ret
        refine ⟨ret_bool ?_, Below.refl _ _⟩
        rw [Hn.out]
        grind
end Go.Proofs.Ytimondpollbdfaa
