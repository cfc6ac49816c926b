/- What is proved: the span in which a key lies: both programs' Find. -/
import Derived.Test.YtimondpollbdfaaCheck
set_option linter.unusedVariables false
set_option linter.unusedSimpArgs false
namespace Go.Proofs.Ytimondpollbdfaa
open Go.RowKit
attribute [local go_sem] Span.val Atl.val Plan.val

def inSp (key : ByteArray) (s : Span) : Bool := !sLt key s.fr && (isE s.to || sLt key s.to)

set_option maxHeartbeats 1000000 in
theorem findCl_any (s : Span) (x : ByteArray) (c : Nat) (w : World) (hc : w.cell? ⟨c, 0, none⟩ = some (.string x)) (hlt : c < w.heap.size) :
    Calls Try.prog 55 #[s.val, .pointer (some ⟨c, 0, none⟩)] w fun e w' => e = .returned (.bool (inSp x s)) ∧ Below w.heap.size w w' := by
  have hlt1 : c < w.heap.size + 1 := by omega
  have hne : c ≠ w.heap.size := by omega
  go_enter Try.func55, Try.ntmps55
  go_wp2
  all_goals
    go_ret
    refine ⟨ret_bool ?_, al _⟩
    grind [inSp, isE, sLt]

set_option maxHeartbeats 1000000 in
theorem findIdx_any (w : World) (A : Option Addr) (cap c : Nat) (l : List Span) (x : ByteArray) (hrow : RowAt w w.heap.size 5 A (l.map Span.cells)) (hlen : l.length ≤ 9223372036854775807)
    (hc : w.cell? ⟨c, 0, none⟩ = some (.string x)) (hlt : c < w.heap.size) :
    Calls Try.prog 54 #[.slice A l.length cap, .func (.func 55) #[] #[.pointer (some ⟨c, 0, none⟩)]] w fun e w' => e = .returned (.int .i64 (idxOf (inSp x) l)) ∧ Below w.heap.size w w' := by
  have Hrow := Lib.hid hrow; clear hrow
  go_enter Try.func54, Try.ntmps54
  go_wp2
  go_loopw [8] (fun i wr => ∃ k : Nat, k ≤ l.length ∧ (∀ j (_ : j < k) (h' : j < l.length), inSp x l[j] = false) ∧ i = .int .i64 k ∧ Below w.heap.size w wr) (fun i _ => l.length - (intOf i).toNat)
  case atStart => exact ⟨0, Nat.zero_le _, fun j h => absurd h (by omega), rfl, Below.refl _ _⟩
  case round =>
    obtain ⟨k, hk, hno, rfl, hbel⟩ := hrel
    have hno' := Lib.hid hno; clear hno
    by_cases hlt2 : k < l.length
    · obtain ⟨b, off, rfl, hb, h0, h1, h2, h3, h4⟩ := span_cells (Hrow.out.below hbel (Nat.le_refl _)) k hlt2
      have hcw : wr.cell? ⟨c, 0, none⟩ = some (.string x) := (hbel.cell hlt).trans hc
      have hltw : c < wr.heap.size := Nat.lt_of_lt_of_le hlt hbel.size
      go_wp2_with (go_at_call 55; refine (findCl_any l[k] x c _ hcw hltw).mono ?_; rintro e w1 ⟨rfl, hb1⟩)
      · have hq : inSp x l[k] = true := by assumption
        go_ret
        exact ⟨ret_int (idxOf_found hlt2 hno'.out hq).symm, hbel.trans (hb1.mono hbel.size)⟩
      · have hq : inSp x l[k] = false := by assumption
        go_roundw
        case rel => exact ⟨k + 1, by omega, fun j hj hj' => by
          rcases Nat.lt_succ_iff_lt_or_eq.1 hj with h | h
          · exact hno'.out j h hj'
          · subst h; exact hq, by go_num, hbel.trans (hb1.mono hbel.size)⟩
        case measure => simp [intOf]; omega
    · have hp := Lib.hid (idxOf_none (q := inSp x) (l := l) fun j hj => hno'.out j (by omega) hj)
      go_wp2
      go_ret
      exact ⟨ret_int hp.out.symm, hbel⟩


theorem sLt_empty {a : ByteArray} {k : ByteArray} (h : a.toList = []) : sLt k a = false := by
  unfold sLt; rw [less_eq, h]; simp
theorem not_lt_of {a b k : ByteArray} (h : sLt a b = true) (h2 : sLt k b = false) : sLt k a = false := by
  cases h3 : sLt k a
  · rfl
  · rw [sLt_trans h3 h] at h2; cases h2
theorem sLt_congr {a b k : ByteArray} (h : a.toList = b.toList) : sLt k a = sLt k b := by unfold sLt; rw [h]
theorem named_ne {s : ByteArray} (h : named s = true) : isE s = false := by
  unfold isE
  rw [decide_eq_false_iff_not]
  intro h2
  have h3 : s.data.toList = [] := by rw [← ByteArray.toList_eq]; exact h2
  have h4 : s.size = 0 := by
    have : s.data.size = 0 := by rw [← Array.length_toList, h3]; rfl
    exact this
  unfold named at h
  rw [h4] at h
  simp at h
/-- A key's span: the last one that begins at it or ahead of it. -/
theorem inSp_at {l : List Span} {i : Nat} {key : ByteArray} (hc : CoversOk l) (hi : i < l.length) (h1 : ∀ m (h : m < l.length), m ≤ i → sLt key l[m].fr = false) (h2 : ∀ h : i + 1 < l.length, sLt key l[i+1].fr = true) : idxOf (inSp key) l = (i : Int) := by
  obtain ⟨_, h0, _, hlast, hlink⟩ := hc
  refine idxOf_found hi (fun j hj hj' => ?_) ?_
  · have hl := hlink j (by omega)
    have h3 := h1 (j + 1) (by omega) (by omega)
    unfold inSp
    rw [named_ne hl.1, ← sLt_congr hl.2.2, h3]
    simp
  · unfold inSp
    rw [h1 i hi (Nat.le_refl _)]
    by_cases hn : i + 1 < l.length
    · rw [← sLt_congr (hlink i hn).2.2, h2 hn]; simp
    · have : l.length - 1 = i := by omega
      have he : isE l[i].to = true := by unfold isE; simp only [this] at hlast; simp [hlast]
      rw [he]; rfl
theorem inSp_ex {l : List Span} (key : ByteArray) (hc : CoversOk l) : ∃ i : Nat, ∃ h : i < l.length, idxOf (inSp key) l = (i : Int) ∧ (∀ m (h : m < l.length), m ≤ i → sLt key l[m].fr = false) ∧ (∀ h : i + 1 < l.length, sLt key l[i+1].fr = true) := by
  have hc' := hc
  obtain ⟨_, h0, hf, hlast, hlink⟩ := hc
  have key0 : ∀ n, n ≤ l.length → (∀ m (h : m < l.length), m < n → sLt key l[m].fr = false) ∨ ∃ i : Nat, i + 1 < l.length ∧ (∀ m (h : m < l.length), m ≤ i → sLt key l[m].fr = false) ∧ (∀ h : i + 1 < l.length, sLt key l[i+1].fr = true) := by
    intro n
    induction n with
    | zero => exact fun _ => .inl fun m h hm => by omega
    | succ n ih =>
      intro hn
      rcases ih (by omega) with h | h
      · cases hb : sLt key (l[n]'(by omega)).fr
        · exact .inl fun m h' hm => by
            rcases Nat.lt_succ_iff_lt_or_eq.1 hm with h2 | h2
            · exact h m h' h2
            · subst h2; exact hb
        · cases n with
          | zero => rw [sLt_empty hf] at hb; cases hb
          | succ i => exact .inr ⟨i, by omega, fun m h' hm => h m h' (by omega), fun _ => hb⟩
      · exact .inr h
  rcases key0 l.length (Nat.le_refl _) with h | ⟨i, hi, h1, h2⟩
  · refine ⟨l.length - 1, by omega, inSp_at hc' (by omega) (fun m h' hm => h m h' h') (fun h' => by omega), fun m h' hm => h m h' h', fun h' => by omega⟩
  · exact ⟨i, by omega, inSp_at hc' (by omega) h1 h2, h1, h2⟩
end Go.Proofs.Ytimondpollbdfaa
