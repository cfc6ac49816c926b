/- What is proved: plain laws of books: two books into one, what a book says of a client, what a put makes. No condition beyond what each law states. -/
import Derived.Test.YtofdkincbhahfaaLookBoth
set_option linter.unusedVariables false
set_option linter.unusedSimpArgs false
namespace Go.Proofs.Ytofdkincbhahfaa
open Go.RowKit

/-- What a session says: client, number, error, time, jobs. -/
abbrev Dat := Int × Int × Int × Int × List JobD
/-- Two books into one; of one client the greater number, the first book's if they are the same. -/
def mergeD : List Dat → List Dat → List Dat
  | [], b => b
  | x :: a, [] => x :: a
  | x :: a, y :: b => if x.1 < y.1 then x :: mergeD a (y :: b) else if y.1 < x.1 then y :: mergeD (x :: a) b else (if x.2.1 < y.2.1 then y else x) :: mergeD a b
termination_by a b => a.length + b.length
theorem mergeD_nil (a : List Dat) : mergeD a [] = a := by cases a <;> simp [mergeD]
theorem mergeD_lt {x y : Dat} (a b : List Dat) (h : x.1 < y.1) : mergeD (x :: a) (y :: b) = x :: mergeD a (y :: b) := by rw [mergeD, if_pos h]
theorem mergeD_gt {x y : Dat} (a b : List Dat) (h : y.1 < x.1) : mergeD (x :: a) (y :: b) = y :: mergeD (x :: a) b := by rw [mergeD, if_neg (by omega), if_pos h]
/-- Of two sessions of one client the one with the greater number. -/
def pick (x y : Dat) : Dat := if x.2.1 < y.2.1 then y else x
theorem pick_lt {x y : Dat} (h : x.2.1 < y.2.1) : pick x y = y := if_pos h
theorem pick_ge {x y : Dat} (h : ¬ x.2.1 < y.2.1) : pick x y = x := if_neg h
theorem mergeD_eq {x y : Dat} (a b : List Dat) (h : x.1 = y.1) : mergeD (x :: a) (y :: b) = pick x y :: mergeD a b := by rw [mergeD, if_neg (by omega), if_neg (by omega)]; rfl
theorem pick_client {x y : Dat} (h : x.1 = y.1) : (pick x y).1 = x.1 := by unfold pick; split <;> simp [h]
theorem mergeD_mem : ∀ (n : Nat) (a b : List Dat), a.length + b.length ≤ n → ∀ s ∈ mergeD a b, s ∈ a ∨ s ∈ b
  | _, [], b, _, s, hs => by right; simpa [mergeD] using hs
  | _, x :: a, [], _, s, hs => by left; simpa [mergeD] using hs
  | 0, x :: a, y :: b, h, s, hs => by simp at h
  | n + 1, x :: a, y :: b, h, s, hs => by
    simp only [List.length_cons] at h
    rw [mergeD] at hs
    split at hs
    · rcases List.mem_cons.1 hs with rfl | h1
      · exact .inl (by simp)
      · rcases mergeD_mem n a (y :: b) (by simp only [List.length_cons]; omega) s h1 with h2 | h2
        · exact .inl (by simp [h2])
        · exact .inr h2
    · split at hs
      · rcases List.mem_cons.1 hs with rfl | h1
        · exact .inr (by simp)
        · rcases mergeD_mem n (x :: a) b (by simp only [List.length_cons]; omega) s h1 with h2 | h2
          · exact .inl h2
          · exact .inr (by simp [h2])
      · rcases List.mem_cons.1 hs with h1 | h1
        · split at h1
          · subst h1; exact .inr (by simp)
          · subst h1; exact .inl (by simp)
        · rcases mergeD_mem n a b (by omega) s h1 with h2 | h2
          · exact .inl (by simp [h2])
          · exact .inr (by simp [h2])
/-- A right book, as data. -/
def OkD (d : List Dat) : Prop := (∀ x ∈ d, rightB x.1 x.2.1 = true) ∧ d.Pairwise (fun x y => x.1 < y.1)
theorem okD_nil : OkD [] := ⟨fun x hx => (List.not_mem_nil hx).elim, List.Pairwise.nil⟩
theorem bookOk_iff (l : List Seen) : BookOk l ↔ OkD (l.map Seen.dat) := by
  constructor
  · intro h
    refine ⟨fun x hx => ?_, ?_⟩
    · obtain ⟨s, hs, rfl⟩ := List.mem_map.1 hx
      obtain ⟨i, hi, rfl⟩ := List.getElem_of_mem hs
      exact (h i hi).1
    · rw [List.pairwise_iff_getElem]
      intro i j hi hj hij
      simp only [List.length_map] at hi hj
      simp only [List.getElem_map]
      exact book_mono h i j hj hij
  · intro h i hi
    refine ⟨h.1 l[i].dat (List.mem_map_of_mem (List.getElem_mem hi)), fun j hj => ?_⟩
    have h2 := List.pairwise_iff_getElem.1 h.2 j i (by simp; omega) (by simpa using hi) (by omega)
    simpa [Seen.dat] using h2
theorem mergeD_ok {a b : List Dat} (ha : OkD a) (hb : OkD b) : OkD (mergeD a b) := by
  refine ⟨fun x hx => ?_, ?_⟩
  · rcases mergeD_mem _ a b (Nat.le_refl _) x hx with h | h
    · exact ha.1 x h
    · exact hb.1 x h
  · have ha2 := ha.2; have hb2 := hb.2
    clear ha hb
    suffices H : ∀ (n : Nat) (a b : List Dat), a.length + b.length ≤ n → a.Pairwise (fun x y => x.1 < y.1) → b.Pairwise (fun x y => x.1 < y.1) → (mergeD a b).Pairwise (fun x y => x.1 < y.1) from H _ a b (Nat.le_refl _) ha2 hb2
    intro n
    induction n with
    | zero =>
      intro a b h ha hb
      obtain rfl : a = [] := List.eq_nil_of_length_eq_zero (by omega)
      simpa [mergeD] using hb
    | succ n ih =>
      intro a b h ha hb
      cases a with
      | nil => simpa [mergeD] using hb
      | cons x a =>
        cases b with
        | nil => simpa [mergeD] using ha
        | cons y b =>
          simp only [List.length_cons] at h
          obtain ⟨hx, ha'⟩ := List.pairwise_cons.1 ha
          obtain ⟨hy, hb'⟩ := List.pairwise_cons.1 hb
          rcases Int.lt_trichotomy x.1 y.1 with h1 | h1 | h1
          · rw [mergeD_lt a b h1]
            refine List.pairwise_cons.2 ⟨fun z hz => ?_, ih a (y :: b) (by simp only [List.length_cons]; omega) ha' hb⟩
            rcases mergeD_mem _ _ _ (Nat.le_refl _) z hz with h2 | h2
            · exact hx z h2
            · rcases List.mem_cons.1 h2 with rfl | h3
              · exact h1
              · exact Int.lt_trans h1 (hy z h3)
          · rw [mergeD_eq a b h1]
            refine List.pairwise_cons.2 ⟨fun z hz => ?_, ih a b (by omega) ha' hb'⟩
            rw [pick_client h1]
            rcases mergeD_mem _ _ _ (Nat.le_refl _) z hz with h2 | h2
            · exact hx z h2
            · rw [h1]; exact hy z h2
          · rw [mergeD_gt a b h1]
            refine List.pairwise_cons.2 ⟨fun z hz => ?_, ih (x :: a) b (by simp only [List.length_cons]; omega) ha hb'⟩
            rcases mergeD_mem _ _ _ (Nat.le_refl _) z hz with h2 | h2
            · rcases List.mem_cons.1 h2 with rfl | h3
              · exact h1
              · exact Int.lt_trans h1 (hx z h3)
            · exact hy z h2
theorem okD_one {s : Dat} (h : rightB s.1 s.2.1 = true) : OkD [s] := by
  refine ⟨fun x hx => ?_, List.pairwise_singleton _ _⟩
  rcases List.mem_cons.1 hx with rfl | h1
  · exact h
  · exact (List.not_mem_nil h1).elim
theorem mergeD_step (y : Dat) : ∀ (a b : List Dat), (∀ z ∈ b, y.1 < z.1) → mergeD (mergeD a [y]) b = mergeD a (y :: b)
  | [], [], _ => by simp [mergeD]
  | [], z :: b, h => by
    have h1 := h z (by simp)
    simp only [mergeD]
    rw [if_pos h1]
  | x :: a, b, h => by
    rcases Int.lt_trichotomy x.1 y.1 with h1 | h1 | h1
    · rw [mergeD_lt a [] h1, mergeD_lt a b h1]
      cases b with
      | nil => rw [mergeD_nil]
      | cons z b =>
        have h2 := h z (by simp)
        rw [mergeD_lt _ b (Int.lt_trans h1 h2), mergeD_step y a (z :: b) h]
    · rw [mergeD_eq a [] h1, mergeD_eq a b h1, mergeD_nil]
      cases b with
      | nil => rw [mergeD_nil, mergeD_nil]
      | cons z b =>
        have h2 := h z (by simp)
        rw [mergeD_lt a b (by rw [pick_client h1, h1]; exact h2)]
    · rw [mergeD_gt a [] h1, mergeD_gt a b h1, mergeD_nil]
      cases b with
      | nil => rw [mergeD_nil, mergeD_nil]
      | cons z b =>
        have h2 := h z (by simp)
        rw [mergeD_lt (x :: a) b h2]
theorem mergeD_fold : ∀ (b a : List Dat), b.Pairwise (fun x y => x.1 < y.1) → b.foldl (fun l s => mergeD l [s]) a = mergeD a b
  | [], a, _ => by rw [mergeD_nil]; rfl
  | s :: b, a, h => by
    obtain ⟨h1, h2⟩ := List.pairwise_cons.1 h
    rw [List.foldl_cons, mergeD_fold b _ h2, mergeD_step s a b h1]
/-- What a book says of a client. -/
def getD (d : List Dat) (c : Int) : Option Dat := d.find? (fun x => x.1 == c)
theorem getD_none {d : List Dat} {c : Int} (h : ∀ x ∈ d, ¬ x.1 = c) : getD d c = none := by
  unfold getD
  rw [List.find?_eq_none]
  intro x hx
  simpa using h x hx
theorem getD_some {d : List Dat} {c : Int} {x : Dat} (h : getD d c = some x) : x ∈ d ∧ x.1 = c := by
  unfold getD at h
  exact ⟨List.mem_of_find?_eq_some h, by simpa using List.find?_some h⟩
theorem getD_at {d : List Dat} {c : Int} (hp : d.Pairwise (fun x y => x.1 < y.1)) {x : Dat} (hx : x ∈ d) (hc : x.1 = c) : getD d c = some x := by
  induction d with
  | nil => exact (List.not_mem_nil hx).elim
  | cons y d ih =>
    obtain ⟨h1, h2⟩ := List.pairwise_cons.1 hp
    unfold getD
    rw [List.find?_cons]
    rcases List.mem_cons.1 hx with rfl | h3
    · simp [hc]
    · have := h1 x h3
      have h4 : (y.1 == c) = false := by simp; omega
      rw [h4]
      exact ih h2 h3
theorem mergeD_keep {d : List Dat} {s x : Dat} (hp : d.Pairwise (fun x y => x.1 < y.1)) (hx : x ∈ d) (hc : x.1 = s.1) (hq : ¬ x.2.1 < s.2.1) : mergeD d [s] = d := by
  induction d with
  | nil => exact (List.not_mem_nil hx).elim
  | cons y d ih =>
    obtain ⟨h1, h2⟩ := List.pairwise_cons.1 hp
    rcases List.mem_cons.1 hx with rfl | h3
    · rw [mergeD_eq d [] hc, pick_ge hq, mergeD_nil]
    · have := h1 x h3
      rw [mergeD_lt d [] (by omega), ih h2 h3]
theorem getD_merge {d : List Dat} (s : Dat) (hp : d.Pairwise (fun x y => x.1 < y.1)) (c : Int) : getD (mergeD d [s]) c = if c = s.1 then some (match getD d c with | none => s | some x => pick x s) else getD d c := by
  induction d with
  | nil =>
    simp only [mergeD, getD, List.find?_cons, List.find?_nil]
    by_cases h : c = s.1
    · subst h; simp
    · have h1 : (s.1 == c) = false := by simp; omega
      rw [h1, if_neg h]
  | cons x d ih =>
    obtain ⟨h1, h2⟩ := List.pairwise_cons.1 hp
    rcases Int.lt_trichotomy x.1 s.1 with h3 | h3 | h3
    · rw [mergeD_lt d [] h3]
      by_cases hx : x.1 = c
      · rw [if_neg (by omega)]
        simp [getD, hx]
      · have h4 : (x.1 == c) = false := by simpa using hx
        have e : ∀ l, getD (x :: l) c = getD l c := fun l => by unfold getD; rw [List.find?_cons, h4]
        rw [e, e]
        exact ih h2
    · rw [mergeD_eq d [] h3, mergeD_nil]
      have h6 := pick_client h3
      obtain ⟨p, hpk⟩ : ∃ p, pick x s = p := ⟨_, rfl⟩
      rw [hpk] at h6 ⊢
      by_cases hx : x.1 = c
      · rw [if_pos (by omega)]
        have h5 : getD (x :: d) c = some x := by simp [getD, hx]
        rw [h5]
        have h7 : (p.1 == c) = true := by rw [h6]; simpa using hx
        simp [getD, h7, hpk]
      · have h4 : (x.1 == c) = false := by simpa using hx
        have h5 : (p.1 == c) = false := by rw [h6]; exact h4
        rw [if_neg (by omega)]
        simp [getD, h4, h5]
    · rw [mergeD_gt d [] h3, mergeD_nil]
      by_cases hc : c = s.1
      · rw [if_pos hc]
        have h5 : getD (x :: d) c = none := getD_none fun y hy => by
          rcases List.mem_cons.1 hy with rfl | hy
          · omega
          · have := h1 y hy; omega
        rw [h5]
        subst hc
        simp [getD]
      · rw [if_neg hc]
        have h5 : (s.1 == c) = false := by simp; omega
        conv => lhs; unfold getD
        rw [List.find?_cons, h5]
        rfl
theorem mergeD_comm {s t : Dat} (h : s.1 < t.1) : ∀ (d : List Dat), mergeD (mergeD d [s]) [t] = mergeD (mergeD d [t]) [s]
  | [] => by
    simp only [mergeD]
    rw [if_pos h, if_neg (by omega), if_pos h]
  | x :: d => by
    rcases Int.lt_trichotomy x.1 s.1 with h1 | h1 | h1
    · rw [mergeD_lt d [] h1, mergeD_lt d [] (Int.lt_trans h1 h), mergeD_lt _ [] (Int.lt_trans h1 h), mergeD_lt _ [] h1, mergeD_comm h d]
    · rw [mergeD_eq d [] h1, mergeD_nil, mergeD_lt d [] (by rw [pick_client h1]; omega), mergeD_lt d [] (by omega), mergeD_eq _ [] h1, mergeD_nil]
    · rw [mergeD_gt d [] h1, mergeD_nil, mergeD_lt _ [] h]
      rcases Int.lt_trichotomy x.1 t.1 with h2 | h2 | h2
      · rw [mergeD_lt d [] h2, mergeD_gt _ [] h1, mergeD_nil]
      · rw [mergeD_eq d [] h2, mergeD_nil, mergeD_gt d [] (by rw [pick_client h2]; omega), mergeD_nil]
      · rw [mergeD_gt d [] h2, mergeD_nil, mergeD_gt _ [] h, mergeD_nil]
def keyD (x : Dat) : Int × Int := (x.1, x.2.1)
theorem mergeD_keys : ∀ (n : Nat) (a b : List Dat), a.length + b.length ≤ n → (mergeD a b).map keyD = (mergeD b a).map keyD
  | _, [], b, _ => by rw [mergeD_nil]; simp [mergeD]
  | _, x :: a, [], _ => by rw [mergeD_nil]; simp [mergeD]
  | 0, x :: a, y :: b, h => by simp at h
  | n + 1, x :: a, y :: b, h => by
    simp only [List.length_cons] at h
    rcases Int.lt_trichotomy x.1 y.1 with h1 | h1 | h1
    · rw [mergeD_lt a b h1, mergeD_gt b a h1, List.map_cons, List.map_cons, mergeD_keys n a (y :: b) (by simp only [List.length_cons]; omega)]
    · rw [mergeD_eq a b h1, mergeD_eq b a h1.symm, List.map_cons, List.map_cons, mergeD_keys n a b (by omega)]
      congr 1
      by_cases h2 : x.2.1 < y.2.1
      · rw [pick_lt h2, pick_ge (by omega)]
      · rw [pick_ge h2]
        by_cases h3 : y.2.1 < x.2.1
        · rw [pick_lt h3]
        · rw [pick_ge h3]; unfold keyD; rw [h1, show x.2.1 = y.2.1 by omega]
    · rw [mergeD_gt a b h1, mergeD_lt b a h1, List.map_cons, List.map_cons, mergeD_keys n (x :: a) b (by simp only [List.length_cons]; omega)]
theorem mergeD_self : ∀ (a : List Dat), mergeD a a = a
  | [] => by simp [mergeD]
  | x :: a => by rw [mergeD_eq a a rfl, pick_ge (by omega), mergeD_self a]
theorem mergeD_set {s : Dat} : ∀ (d : List Dat) (i : Nat) (hi : i < d.length), (∀ k (h : k < d.length), k < i → d[k].1 < s.1) → d[i].1 = s.1 → d[i].2.1 < s.2.1 → mergeD d [s] = d.set i s
  | [], i, hi, _, _, _ => by simp at hi
  | x :: d, 0, _, _, h2, h3 => by
    simp only [List.getElem_cons_zero] at h2 h3
    rw [mergeD_eq d [] h2, pick_lt h3, mergeD_nil]
    rfl
  | x :: d, i + 1, hi, h1, h2, h3 => by
    simp only [List.getElem_cons_succ] at h2 h3
    have h4 : x.1 < s.1 := h1 0 (by simp) (by omega)
    rw [mergeD_lt d [] h4, mergeD_set d i (by simpa using hi) (fun k hk hki => h1 (k + 1) (by simpa using hk) (by omega)) h2 h3]
    rfl
theorem mergeD_ins {s : Dat} : ∀ (d : List Dat) (i : Nat) (_ : i ≤ d.length), (∀ k (h : k < d.length), k < i → d[k].1 < s.1) → (∀ h : i < d.length, s.1 < d[i].1) → mergeD d [s] = d.take i ++ s :: d.drop i
  | [], i, hi, _, _ => by
    have : i = 0 := by simpa using hi
    subst this
    simp [mergeD]
  | x :: d, 0, _, _, h2 => by
    have h4 : s.1 < x.1 := h2 (by simp)
    rw [mergeD_gt d [] h4, mergeD_nil]
    rfl
  | x :: d, i + 1, hi, h1, h2 => by
    have h4 : x.1 < s.1 := h1 0 (by simp) (by omega)
    rw [mergeD_lt d [] h4, mergeD_ins d i (by simpa using hi) (fun k hk hki => h1 (k + 1) (by simpa using hk) (by omega)) (fun h => h2 (by simpa using h))]
    rfl
/-- What a put makes: the book, and the error's number. -/
noncomputable def putD (d : List Dat) (s : Dat) : List Dat × Int :=
  if tr (OkD d) = false then ([], 4) else if rightB s.1 s.2.1 = false then ([], 1) else
    match getD d s.1 with
    | some x => if x.2.1 < s.2.1 then (mergeD d [s], 0) else ([], 160)
    | none => (mergeD d [s], 0)
theorem putD_bad {d : List Dat} {s : Dat} (h : tr (OkD d) = false) : putD d s = ([], 4) := by unfold putD; rw [if_pos h]
theorem putD_arg {d : List Dat} {s : Dat} (h : tr (OkD d) = true) (h1 : rightB s.1 s.2.1 = false) : putD d s = ([], 1) := by unfold putD; rw [if_neg (by simp [h]), if_pos h1]
theorem putD_stale {d : List Dat} {s x : Dat} (h : tr (OkD d) = true) (h1 : rightB s.1 s.2.1 = true) (hx : getD d s.1 = some x) (hq : ¬ x.2.1 < s.2.1) : putD d s = ([], 160) := by
  unfold putD; rw [if_neg (by simp [h]), if_neg (by simp [h1]), hx]; simp only [if_neg hq]
theorem putD_ok {d : List Dat} {s : Dat} (h : tr (OkD d) = true) (h1 : rightB s.1 s.2.1 = true) (hx : ∀ x, getD d s.1 = some x → x.2.1 < s.2.1) : putD d s = (mergeD d [s], 0) := by
  unfold putD; rw [if_neg (by simp [h]), if_neg (by simp [h1])]
  cases hg : getD d s.1 with
  | none => rfl
  | some x => simp only [if_pos (hx x hg)]
theorem putD_zero {d : List Dat} {s : Dat} (h : (putD d s).2 = 0) : OkD d ∧ rightB s.1 s.2.1 = true ∧ (∀ x, getD d s.1 = some x → x.2.1 < s.2.1) ∧ (putD d s).1 = mergeD d [s] := by
  cases hb : tr (OkD d)
  · rw [putD_bad hb] at h; simp at h
  cases hr : rightB s.1 s.2.1
  · rw [putD_arg hb hr] at h; simp at h
  cases hg : getD d s.1 with
  | none =>
    rw [putD_ok hb hr (fun x hx => by rw [hg] at hx; cases hx)]
    exact ⟨of_tr hb, rfl, (fun x hx => by cases hx), rfl⟩
  | some x =>
    by_cases hq : x.2.1 < s.2.1
    · rw [putD_ok hb hr (fun y hy => by rw [hg] at hy; injection hy with hy; rw [← hy]; exact hq)]
      exact ⟨of_tr hb, rfl, (fun y hy => by injection hy with hy; rw [← hy]; exact hq), rfl⟩
    · rw [putD_stale hb hr hg hq] at h; simp at h
/-- What a look answers. -/
noncomputable def lookD (d : List Dat) (c q : Int) : Ans :=
  if tr (OkD d) = false then noAns 4 else if rightB c q = false then noAns 1 else
    match getD d c with
    | none => noAns 60
    | some x => if x.2.1 < q then noAns 60 else if q < x.2.1 then noAns 160 else ⟨x.2.2.1, x.2.2.2.1, x.2.2.2.2, 0⟩
theorem tr_iff {p q : Prop} (h : p ↔ q) : tr p = tr q := by rw [propext h]
end Go.Proofs.Ytofdkincbhahfaa
