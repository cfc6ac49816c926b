/- What is proved: names between names of a span lie in it; a name that parts two spans lies in the upper one: in plain words on lists of spans. -/
import Derived.Test.YtimondpollbdfaaAwakeA
import Derived.Test.YtimondpollbdfaaTellsLaw
set_option linter.unusedVariables false
set_option linter.unusedSimpArgs false
namespace Go.Proofs.Ytimondpollbdfaa
open Go.RowKit

theorem ba_ext {a b : ByteArray} (h : a.toList = b.toList) : a = b := by
  rw [ByteArray.toList_eq, ByteArray.toList_eq] at h
  obtain ⟨⟨a⟩⟩ := a
  obtain ⟨⟨b⟩⟩ := b
  have h : a = b := h
  rw [h]
theorem sp_next {l : List Span} (hc : CoversOk l) (i : Nat) (h : i + 1 < l.length) : sLt (l[i]'(by omega)).fr l[i+1].fr = true ∧ named l[i+1].fr = true := by
  obtain ⟨_, _, _, _, hl⟩ := hc
  obtain ⟨h1, h2, h3⟩ := hl i h
  rw [ba_ext h3]
  exact ⟨h2, h1⟩
theorem sp_sorted {l : List Span} (hc : CoversOk l) (m : Nat) : ∀ n (hm : m < n) (hn : n < l.length), sLt (l[m]'(by omega)).fr l[n].fr = true
  | 0, hm, _ => by omega
  | n + 1, hm, hn => by
    have h1 := (sp_next hc n hn).1
    rcases Nat.lt_succ_iff_lt_or_eq.1 hm with h | h
    · exact sLt_trans (sp_sorted hc m n h (by omega)) h1
    · subst h; exact h1
theorem found_self {l : List Span} (hc : CoversOk l) (k : Nat) (hk : k < l.length) : idxOf (inSp l[k].fr) l = (k : Int) := by
  refine inSp_at hc hk (fun m h hm => ?_) (fun h => (sp_next hc k h).1)
  rcases Nat.lt_or_eq_of_le hm with h1 | h1
  · exact sLt_asymm (sp_sorted hc m k h1 hk)
  · subst h1; exact sLt_irrefl _
/-- not x > y. -/
def leS (x y : ByteArray) : Bool := !sLt y x
theorem lt_of_le_lt {x y z : ByteArray} (h : leS x y = true) (k : sLt y z = true) : sLt x z = true := by
  unfold leS at h
  have h : sLt y x = false := by simpa using h
  cases e : sLt x z
  · have h2 := lt_or_ge x y
    rw [h] at h2
    have h3 : (sLt x y || sEq x y) = true := by
      cases hh : (sLt x y || sEq x y)
      · rw [hh] at h2; cases h2
      · rfl
    rcases Bool.or_eq_true_iff.1 h3 with h4 | h4
    · rw [sLt_trans h4 k] at e; cases e
    · have h5 : x = y := ba_ext (by simpa [sEq] using h4)
      rw [h5, k] at e; cases e
  · rfl
theorem found_mono {l : List Span} {x y : ByteArray} {i j : Nat} (hj : j < l.length) (hi : i < l.length) (hc : CoversOk l) (h1 : ∀ m (h : m < l.length), m ≤ i → sLt x l[m].fr = false) (h2 : ∀ h : j + 1 < l.length, sLt y l[j+1].fr = true) (hxy : leS x y = true) : i ≤ j := by
  rcases Nat.lt_or_ge j i with h | h
  · have h3 := h2 (by omega)
    have h4 := lt_of_le_lt hxy h3
    have h5 := h1 (j + 1) (by omega) (by omega)
    rw [h5] at h4; cases h4
  · exact h
theorem run_leq_leS (x y : ByteArray) (w : World) : (binOp .leq 9 (.string x) (.string y)).run Try.prog w = .ok (.bool (leS x y)) w := by
  have h : leS x y = (Op.bytesLess x.toList y.toList || x.toList == y.toList) := by
    unfold leS
    rw [lt_or_ge x y]
    simp only [sLt, sEq, Bool.not_not]
    congr 1
    rw [Bool.eq_iff_iff]
    simp
  rw [h]
  cases e1 : Op.bytesLess x.toList y.toList <;> cases e2 : (x.toList == y.toList) <;> simp [go_sem, e1, e2]
/-- What a name's search answers. -/
def FoundIs (A : Option Addr) (cap : Nat) (a : Atl) (key : ByteArray) (S : Span) (ok : Bool) : Prop :=
  ∀ w, MapIn w A cap a → Calls Try.prog 30 #[a.val (.slice A a.sp.length cap), .string key] w fun e w' => e = .returned (.tuple #[S.val, .bool ok]) ∧ Below w.heap.size w w'
theorem found_ex (A : Option Addr) (cap : Nat) (a : Atl) (key : ByteArray) (hk : key.size ≤ 9223372036854775807) (hm : tr (MapOk a) = true) :
    (FoundIs A cap a key zeroS false) ∨ ∃ i : Nat, ∃ h : i < a.sp.length, FoundIs A cap a key a.sp[i] true ∧ (∀ m (h : m < a.sp.length), m ≤ i → sLt key a.sp[m].fr = false) ∧ (∀ h : i + 1 < a.sp.length, sLt key a.sp[i+1].fr = true) := by
  cases hn : named key
  · exact .inl fun w h => find_nameless w A cap a key h hm hk hn
  · obtain ⟨i, hi, hx, hy, hz⟩ := inSp_ex key (of_tr hm).2.2.2.1
    exact .inr ⟨i, hi, fun w h => find_some w A cap a key i h hm hk hn hi hx, hy, hz⟩
/-- Equal spans of a right map are one. -/
theorem same_span {a : Atl} (hm : MapOk a) {i j : Nat} (hi : i < a.sp.length) (hj : j < a.sp.length) (h : a.sp[i].sh = a.sp[j].sh) : i = j := by
  have h1 := (hm.2.2.2.2.1 i hi).2.2.1
  have h2 := (hm.2.2.2.2.1 j hj).2.2.1
  rw [h, h2] at h1
  omega
theorem eqS_sh {a2 b2 a3 b3 a4 b4 : Int} {a0 b0 a1 b1 : ByteArray} (h : eqS a2 b2 a3 b3 a4 b4 a0 b0 a1 b1 = true) : a2 = b2 := by
  unfold eqS at h
  simp only [Bool.and_eq_true] at h
  simpa using h.1.1.2
end Go.Proofs.Ytimondpollbdfaa
