/- What is proved: how an argument that is a slice of structs is opened: as a row of elements of several cells. No condition beyond what each law states. -/
import Derived.Test.YtimondpollbdfaaMem
import Derived.ProofKit
import Derived.OpenShut
import Derived.ShutString
import Derived.Deep.Slices
import Derived.Deep.Fields
set_option linter.unusedVariables false
set_option linter.unusedSimpArgs false
namespace Go.Proofs.Ytimondpollbdfaa
open Go.ChangeShapes Go.WideShapes Go.ChangeAt Go.RowKit Go.Deep

theorem choose_list {α : Type} {p : Nat → α → Prop} : ∀ (n : Nat), (∀ i, i < n → ∃ v, p i v) → ∃ l : List α, l.length = n ∧ ∀ i v, l[i]? = some v → p i v
  | 0, _ => ⟨[], rfl, fun i v h => by simp at h⟩
  | n + 1, h => by
    obtain ⟨l, hl, hp⟩ := choose_list n (fun i hi => h i (by omega))
    obtain ⟨v, hv⟩ := h n (by omega)
    refine ⟨l ++ [v], by simp [hl], fun i u hu => ?_⟩
    rcases Nat.lt_or_ge i n with hi | hi
    · rw [List.getElem?_append_left (by omega)] at hu; exact hp i u hu
    · rw [List.getElem?_append_right (by omega)] at hu
      have : i = n := by
        have := (List.getElem?_eq_some_iff.1 hu).1
        simp at this; omega
      subst this
      rw [hl] at hu; simp at hu; subst hu; exact hv
theorem list_of {α : Type} {f : α → List Value} {Q : α → Prop} : ∀ (cs : List (List Value)), (∀ c ∈ cs, ∃ d, c = f d ∧ Q d) → ∃ ds : List α, cs = ds.map f ∧ ∀ d ∈ ds, Q d
  | [], _ => ⟨[], rfl, by simp⟩
  | c :: cs, h => by
    obtain ⟨d, rfl, hd⟩ := h c (by simp)
    obtain ⟨ds, rfl, hds⟩ := list_of cs (fun c hc => h c (by simp [hc]))
    exact ⟨d :: ds, rfl, by simpa using ⟨hd, hds⟩⟩

section
variable {H : Type} {enc : TypeId × Value → H} {P : Program} {w : World} {base : Nat} {spare : Nat → Bool} {held : Bool}
theorem open_rowAt {t e : TypeId} {fuel : Nat} {A : Option Addr} {len cap size : Nat} {x : DataW H × List MemPlace} (ht : P.underlying t = some (.slice e)) (hC : P.cellsOf e = size) (hsz : 0 < size)
    (h : DataW.trod enc P w base spare held fuel t [.slice A len cap] = some x) :
    ∃ cs : List (List Value), cs.length = len ∧ RowAt w w.heap.size size A cs ∧ len ≤ cap ∧ cap ≤ maxLen ∧ (A = none → len = 0) ∧
      ∀ c ∈ cs, c.length = size ∧ ∃ n y, DataW.trod enc P w base spare held n e c = some y := by
  rcases open_slice ht h with ⟨h0, _⟩ | ⟨a, len', cap', m, n, D, Pl, h0, _, hl, hm, hmm, _, hx⟩
  · simp at h0
    obtain ⟨rfl, rfl, rfl⟩ := h0
    exact ⟨[], rfl, rowAt_nil _ _ _ _, Nat.le_refl _, Nat.zero_le _, fun _ => rfl, by simp⟩
  · simp at h0
    obtain ⟨rfl, rfl, rfl⟩ := h0
    have hle : len ≤ m := by rw [hmm]; split <;> omega
    rw [hC] at hx
    obtain ⟨cs, hcl, hcs⟩ := choose_list (p := fun i c => w.cells? base (a.add (i * size)) size = some c ∧ DataW.trod enc P w base spare held n e c = some (D i, Pl i)) len (fun i hi => hx i (by omega))
    refine ⟨cs, hcl, ?_, hl, hm, (fun h => by cases h), fun c hc => ?_⟩
    · intro i c hc
      have hi : i < cs.length := (List.getElem?_eq_some_iff.1 hc).1
      obtain ⟨c0, hc0, hlen0, hat0⟩ : ∃ c0, cs[0]? = some c0 ∧ c0.length = size ∧ ∀ j, j < size → w.cell? ((a.add (0 * size)).add j) = c0[j]? := by
        refine ⟨cs[0]'(by omega), List.getElem?_eq_getElem (by omega), ?_⟩
        obtain ⟨h1, _⟩ := hcs 0 _ (List.getElem?_eq_getElem (by omega))
        obtain ⟨_, h2, h3⟩ := World.cells?_some h1
        exact ⟨h2, h3⟩
      have hz := hat0 0 hsz
      rw [Nat.zero_mul] at hz
      have ha0 : a.add 0 = a := by simp [Addr.add]
      rw [ha0, ha0] at hz
      obtain ⟨u0, hu0⟩ : ∃ u, c0[0]? = some u := ⟨c0[0]'(by omega), List.getElem?_eq_getElem (by omega)⟩
      rw [hu0] at hz
      obtain ⟨b, off, spot⟩ := a
      have hspot : spot = none := by simpa using World.cell?_spot hz
      subst hspot
      have hb : b < w.heap.size := World.block_lt_of_cell? w _ hz
      refine ⟨b, off, rfl, hb, fun j u hu => ?_⟩
      obtain ⟨h1, _⟩ := hcs i c hc
      obtain ⟨_, h2, h3⟩ := World.cells?_some h1
      have hj : j < size := by rw [← h2]; exact (List.getElem?_eq_some_iff.1 hu).1
      have := h3 j hj
      rw [addr_add, addr_add, hu] at this
      exact this
    · obtain ⟨i, hi, rfl⟩ := List.getElem_of_mem hc
      obtain ⟨h1, h2⟩ := hcs i _ (List.getElem?_eq_getElem hi)
      obtain ⟨_, h3, _⟩ := World.cells?_some h1
      exact ⟨h3, n, _, h2⟩
end
end Go.Proofs.Ytimondpollbdfaa
