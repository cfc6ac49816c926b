/- What is proved: both programs' Look answer alike on every book, client and number; a right book has at most 64 sessions. -/
import Derived.Test.YtofdkincbhahfaaRLook
set_option linter.unusedVariables false
set_option linter.unusedSimpArgs false
namespace Go.Proofs.Ytofdkincbhahfaa
open Go.RowKit

theorem book_ge {l : List Seen} (h : BookOk l) : ∀ k (hk : k < l.length), (k : Int) + 1 ≤ l[k].client
  | 0, hk => by
    have h1 := (h 0 hk).1
    unfold rightB at h1
    simp at h1
    omega
  | k + 1, hk => by
    have h1 := (h (k + 1) hk).2 k rfl
    have h2 := book_ge h k (by omega)
    omega
theorem book_len {l : List Seen} (h : BookOk l) : l.length ≤ 64 := by
  rcases Nat.lt_or_ge 64 l.length with h1 | h1
  · have h2 := book_ge h 64 h1
    have h3 := (h 64 h1).1
    unfold rightB at h3
    simp at h3
    omega
  · exact h1
theorem found_at {l : List Seen} {c : Int} {i : Nat} (h : foundB l c i = true) : ∃ hi : i < l.length, l[i].client = c := by
  unfold foundB at h
  cases hs : l[i]? with
  | none => rw [hs] at h; cases h
  | some s =>
    rw [hs] at h
    obtain ⟨hi, he⟩ := List.getElem?_eq_some_iff.1 hs
    exact ⟨hi, by rw [he]; simpa using h⟩
theorem found_no {l : List Seen} {c : Int} {i : Nat} (hok : BookOk l) (hp : Pos l c i) (h : foundB l c i = false) : ∀ k (hk : k < l.length), ¬ l[k].client = c := by
  intro k hk he
  rcases Nat.lt_trichotomy k i with h1 | h1 | h1
  · have := hp.2.1 k hk h1; omega
  · subst h1
    unfold foundB at h
    rw [List.getElem?_eq_getElem hk] at h
    simp [he] at h
  · have h2 := hp.2.2 i (by omega) (Nat.le_refl _)
    have h3 := book_mono hok i k hk h1
    omega
theorem found_just {l : List Seen} {c : Int} {i : Nat} (hok : BookOk l) (hi : i < l.length) (hc : l[i].client = c) : ∀ k (hk : k < l.length), ¬ k = i → ¬ l[k].client = c := by
  intro k hk hne he
  rcases Nat.lt_or_gt_of_ne hne with h1 | h1
  · have := book_mono hok k i hi h1; omega
  · have := book_mono hok i k hk h1; omega
theorem look_both (A : Option Addr) (cap : Nat) (l : List Seen) (c q : Int) : ∃ a, Looks 8 A cap l c q a ∧ Looks 9 A cap l c q a := by
  cases hb : tr (BookOk l)
  · exact ⟨_, look_bad A cap l c q hb, rlook_bad A cap l c q hb⟩
  cases hr : rightB c q
  · exact ⟨_, look_arg A cap l c q hb hr, rlook_arg A cap l c q hb hr⟩
  have hok := of_tr hb
  have hl : l.length ≤ 4611686018427387903 := by have := book_len hok; omega
  obtain ⟨i, hp⟩ := pos_ex hok c
  cases hf : foundB l c i
  · exact ⟨_, look_none A cap l c q hb hr hl i hp hf, rlook_no A cap l c q hb hr (found_no hok hp hf)⟩
  obtain ⟨hi, hc⟩ := found_at hf
  have hc1 : (l[i].client == c) = true := by simpa using hc
  have hne := found_just hok hi hc
  rcases Int.lt_trichotomy l[i].seq q with h1 | h1 | h1
  · exact ⟨_, look_less A cap l c q hb hr hl i hp hf hi _ rfl h1 (decide_eq_true h1), rlook_less A cap l c q hb hr i hi hne _ rfl hc1 (by simp; omega) (by omega) (decide_eq_false (by omega))⟩
  · exact ⟨_, look_ok A cap l c q hb hr hl i hp hf hi _ rfl (by omega) (decide_eq_false (by omega)) (by omega) (decide_eq_false (by omega)), rlook_ok A cap l c q hb hr i hi hne _ rfl hc1 (by simp; omega)⟩
  · exact ⟨_, look_stale A cap l c q hb hr hl i hp hf hi _ rfl (by omega) (decide_eq_false (by omega)) h1 (decide_eq_true h1), rlook_stale A cap l c q hb hr i hi hne _ rfl hc1 (by simp; omega) h1 (decide_eq_true h1)⟩
end Go.Proofs.Ytofdkincbhahfaa
