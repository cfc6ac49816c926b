/- What is proved: where a client's session lies in a right book: slices.BinarySearchFunc with find's closure, and find. -/
import Derived.Test.YtofdkincbhahfaaLeaf
set_option linter.unusedVariables false
set_option linter.unusedSimpArgs false
namespace Go.Proofs.Ytofdkincbhahfaa
open Go.RowKit
attribute [local go_sem] Seen.val

/-- The place of a client in a book: all sessions ahead of it are of smaller clients, those from it on are not. -/
def Pos (l : List Seen) (c : Int) (i : Nat) : Prop := i ≤ l.length ∧ (∀ k (h : k < l.length), k < i → l[k].client < c) ∧ (∀ k (h : k < l.length), i ≤ k → c ≤ l[k].client)
def foundB (l : List Seen) (c : Int) (i : Nat) : Bool := match l[i]? with | some s => s.client == c | none => false
theorem book_mono {l : List Seen} (h : BookOk l) : ∀ (n m : Nat) (hm : m < l.length) (h1 : n < m), (l[n]'(by omega)).client < l[m].client
  | n, 0, _, h1 => by omega
  | n, m + 1, hm, h1 => by
    have h2 := (h (m + 1) hm).2 m rfl
    rcases Nat.lt_succ_iff_lt_or_eq.1 h1 with h3 | h3
    · exact Int.lt_trans (book_mono h n m (by omega) h3) h2
    · subst h3; exact h2
theorem pos_ex {l : List Seen} (h : BookOk l) (c : Int) : ∃ i, Pos l c i := by
  rcases hf : l.findIdx? (fun s => decide (c ≤ s.client)) with _ | i
  · refine ⟨l.length, Nat.le_refl _, fun k hk _ => ?_, fun k hk h1 => by omega⟩
    have := List.findIdx?_eq_none_iff.1 hf l[k] (List.getElem_mem hk)
    simpa using this
  · obtain ⟨h1, h2, h3⟩ := List.findIdx?_eq_some_iff_getElem.1 hf
    refine ⟨i, by omega, fun k hk hki => ?_, fun k hk hki => ?_⟩
    · have := h3 k hki
      simpa using this
    · have h4 : c ≤ l[i].client := by simpa using h2
      rcases Nat.lt_or_eq_of_le hki with h5 | h5
      · have := book_mono h i k hk h5; omega
      · subst h5; exact h4
theorem cmpI_lt (a b : Int) : (cmpI a b < 0) = (a < b) := by
  unfold cmpI
  apply propext
  split
  · constructor <;> intro <;> omega
  · split <;> constructor <;> intro <;> omega
theorem cmpI_eq (a b : Int) : (cmpI a b == 0) = (a == b) := by
  unfold cmpI
  by_cases h1 : a < b
  · rw [if_pos h1]; have : ¬ a = b := by omega
    simp [this]
  · rw [if_neg h1]
    by_cases h2 : b < a
    · rw [if_pos h2]; have : ¬ a = b := by omega
      simp [this]
    · rw [if_neg h2]; have : a = b := by omega
      simp [this]
set_option maxRecDepth 100000 in
set_option maxHeartbeats 4000000 in
theorem search_any (w : World) (A : Option Addr) (cap : Nat) (l : List Seen) (c : Int) (i : Nat) (h : RowAt w w.heap.size 5 A (l.map Seen.cells)) (hl : l.length ≤ 4611686018427387903) (hi : Pos l c i) :
    Calls Try.prog 26 #[.slice A l.length cap, .int .i64 c, .func (.func 27) #[] #[]] w fun e w' => e = .returned (.tuple #[.int .i64 i, .bool (foundB l c i)]) ∧ Below w.heap.size w w' := by
  have H := Lib.hid h; have Hi := Lib.hid hi; clear h hi
  go_enter Try.func26, Try.ntmps26
  go_wp2
  go_loopw [9, 10] (fun u v wr => ∃ a b : Nat, a ≤ i ∧ i ≤ b ∧ b ≤ l.length ∧ u = .int .i64 a ∧ v = .int .i64 b ∧ Below w.heap.size w wr) (fun u v _ => (intOf v).toNat - (intOf u).toNat)
  case atStart => exact ⟨0, l.length, Nat.zero_le _, Hi.out.1, Nat.le_refl _, rfl, rfl, Below.refl _ _⟩
  case round =>
    obtain ⟨a, b, ha, hb, hbl, rfl, rfl, hbel⟩ := hrel
    by_cases hlt : a < b
    · have hm : (a + b) / 2 < l.length := by omega
      obtain ⟨g, off, rfl, hg, p0, p1, p2, p3, p4⟩ := seen_cells (H.out.below hbel (Nat.le_refl _)) ((a + b) / 2) hm
      have hcl : (cmpI l[(a + b) / 2].client c < 0) = ((a + b) / 2 < i) := by
        rw [cmpI_lt]
        apply propext
        constructor
        · intro h1
          rcases Nat.lt_or_ge ((a + b) / 2) i with h2 | h2
          · exact h2
          · have := Hi.out.2.2 _ hm h2; omega
        · exact fun h1 => Hi.out.2.1 _ hm h1
      obtain ⟨s, hs⟩ : ∃ s, l[(a + b) / 2] = s := ⟨_, rfl⟩
      rw [hs] at p0 p1 p2 p3 p4 hcl
      clear hs
      have HB := Lib.hid hbel; clear hbel
      by_cases hmi : (a + b) / 2 < i
      · have hc1 : cmpI s.client c < 0 := by rw [hcl]; exact hmi
        clear hcl
        go_wp2_with (go_at_call 27
                     refine (cmpC_any _ s c).mono ?_
                     rintro e w1 ⟨rfl, hb1⟩)
        go_roundw
        case rel => exact ⟨(a + b) / 2 + 1, b, by omega, hb, hbl, by go_num, rfl, HB.out.trans (hb1.mono HB.out.size)⟩
        case measure => simp [intOf]; omega
      · have hc1 : ¬ cmpI s.client c < 0 := by rw [hcl]; exact hmi
        clear hcl
        go_wp2_with (go_at_call 27
                     refine (cmpC_any _ s c).mono ?_
                     rintro e w1 ⟨rfl, hb1⟩)
        go_roundw
        case rel => exact ⟨a, (a + b) / 2, by omega, by omega, by omega, rfl, by go_num, HB.out.trans (hb1.mono HB.out.size)⟩
        case measure => simp [intOf]; omega
    · obtain rfl : a = i := by omega
      have HB := Lib.hid hbel; clear hbel
      by_cases hn : a < l.length
      · obtain ⟨g, off, rfl, hg, p0, p1, p2, p3, p4⟩ := seen_cells (H.out.below HB.out (Nat.le_refl _)) a hn
        have hf : foundB l c a = (l[a].client == c) := by unfold foundB; rw [List.getElem?_eq_getElem hn]
        obtain ⟨s, hs⟩ : ∃ s, l[a] = s := ⟨_, rfl⟩
        rw [hs] at p0 p1 p2 p3 p4 hf
        have hce := cmpI_eq s.client c
        have hff : (cmpI s.client c == 0) = foundB l c a := by rw [hf, hce]
        clear hs hf hce
        cases hq : (cmpI s.client c == 0)
        all_goals
          rw [hq] at hff
          have Hff := Lib.hid hff; clear hff
          go_wp2_with (go_at_call 27
                       refine (cmpC_any _ s c).mono ?_
                       rintro e w1 ⟨rfl, hb1⟩)
          go_ret2
          exact ⟨by rw [← Hff.out]; rfl, HB.out.trans (hb1.mono HB.out.size)⟩
      · have hf : foundB l c a = false := by unfold foundB; rw [List.getElem?_eq_none (by omega)]
        have Hf := Lib.hid hf; clear hf
        go_wp2
        go_ret2
        exact ⟨by rw [Hf.out]; rfl, HB.out⟩
set_option maxHeartbeats 1000000 in
theorem find_any (w : World) (A : Option Addr) (cap : Nat) (l : List Seen) (c : Int) (i : Nat) (h : RowAt w w.heap.size 5 A (l.map Seen.cells)) (hl : l.length ≤ 4611686018427387903) (hi : Pos l c i) :
    Calls Try.prog 19 #[.slice A l.length cap, .int .i64 c] w fun e w' => e = .returned (.tuple #[.int .i64 i, .bool (foundB l c i)]) ∧ Below w.heap.size w w' := by
  have hc := search_any w A cap l c i h hl hi
  go_enter Try.func19, Try.ntmps19
  go_wp2_with (go_at_call 26
               refine hc.mono ?_
               rintro e w1 ⟨rfl, hb1⟩)
  go_ret2
  exact ⟨rfl, hb1⟩
end Go.Proofs.Ytofdkincbhahfaa
