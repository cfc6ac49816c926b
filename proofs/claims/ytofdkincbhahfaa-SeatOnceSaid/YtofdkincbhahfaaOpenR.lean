/- What is proved: how an argument that is a slice of structs is opened, the form's own reach kept: each slice that is met takes at most so many bytes. No condition beyond what each law states. -/
import Derived.Test.YtofdkincbhahfaaOpen
import Derived.SizedLaws
set_option linter.unusedVariables false
set_option linter.unusedSimpArgs false
namespace Go.Proofs.Ytofdkincbhahfaa
open Go.ChangeShapes Go.WideShapes Go.ChangeAt Go.RowKit Go.Deep

theorem weightsAll_mem {H : Type} {P : Program} {e : TypeId} : ∀ {l : List (DataW H)} {d : DataW H}, d ∈ l → ∀ n ∈ d.weights P e, n ∈ DataW.weightsAll P e l
  | d' :: r, d, hd, n, hn => by
    simp only [DataW.weightsAll, List.mem_append]
    rcases List.mem_cons.1 hd with rfl | h
    · exact Or.inl hn
    · exact Or.inr (weightsAll_mem h n hn)
/-- Each slice and each string in a datum takes at most the reach. -/
def Reached {H : Type} (P : Program) (t : TypeId) (d : DataW H) : Prop := ∀ k ∈ d.weights P t, k ≤ reachBytes
theorem reached_arg {H : Type} {P : Program} {ts : List TypeId} {ds : List (DataW H)} (h : (DataW.weightsEach P ts ds).all (· ≤ reachBytes) = true) {j : Nat} {t : TypeId} {d : DataW H} (ht : ts[j]? = some t) (hd : ds[j]? = some d) : Reached P t d :=
  fun k hk => of_decide_eq_true (List.all_eq_true.1 h k (DataW.weights_mem_each ht hd k hk))
section
variable {H : Type} {enc : TypeId × Value → H} {P : Program} {w : World} {base : Nat} {spare : Nat → Bool} {held : Bool}
theorem reached_part {t : TypeId} {fs : Array Field} {xs : List (DataW H × List MemPlace)} (ht : P.underlying t = some (.struct fs)) (h : Reached P t (.agg (xs.map (·.1)))) {i : Nat} {f : Field} {y : DataW H × List MemPlace} (hf : fs[i]? = some f) (hy : xs[i]? = some y) : Reached P f.type y.1 := by
  intro k hk
  refine h k ?_
  simp only [DataW.weights, ht]
  exact DataW.weights_mem_each (j := i) (t := f.type) (by simp [hf]) (by simp [hy]) k hk
theorem open_rowAtR {t e : TypeId} {fuel : Nat} {A : Option Addr} {len cap size bytes : Nat} {x : DataW H × List MemPlace} (ht : P.underlying t = some (.slice e)) (hC : P.cellsOf e = size) (hsz : 0 < size) (hby : P.bytesOf e = bytes)
    (h : DataW.trod enc P w base spare held fuel t [.slice A len cap] = some x) (hr : Reached P t x.1) :
    ∃ cs : List (List Value), cs.length = len ∧ RowAt w w.heap.size size A cs ∧ len ≤ cap ∧ cap ≤ maxLen ∧ len * bytes ≤ 140737488351232 ∧
      ∀ c ∈ cs, c.length = size ∧ ∃ n y, DataW.trod enc P w base spare held n e c = some y ∧ Reached P e y.1 := by
  rcases open_slice ht h with ⟨h0, _⟩ | ⟨a, len', cap', m, n, D, Pl, h0, _, hl, hm, hmm, hxd, hx⟩
  · simp at h0
    obtain ⟨rfl, rfl, rfl⟩ := h0
    exact ⟨[], rfl, rowAt_nil _ _ _ _, Nat.le_refl _, Nat.zero_le _, by omega, by simp⟩
  · simp at h0
    obtain ⟨rfl, rfl, rfl⟩ := h0
    have hle : len ≤ m := by rw [hmm]; split <;> omega
    have hw : (len + (m - len)) * bytes ≤ reachBytes := by
      refine hr _ ?_
      rw [hxd]
      simp [DataW.weights, ht, hby]
    have hin : ∀ i, i < len → Reached P e (D i) := fun i hi k hk => by
      refine hr k ?_
      rw [hxd]
      simp only [DataW.weights, ht, List.mem_cons, List.mem_append]
      exact Or.inr (Or.inl (weightsAll_mem (List.mem_map_of_mem (List.mem_range.2 hi)) k hk))
    rw [hC] at hx
    obtain ⟨cs, hcl, hcs⟩ := choose_list (p := fun i c => w.cells? base (a.add (i * size)) size = some c ∧ DataW.trod enc P w base spare held n e c = some (D i, Pl i)) len (fun i hi => hx i (by omega))
    refine ⟨cs, hcl, ?_, hl, hm, ?_, fun c hc => ?_⟩
    · intro i c hc
      have hi : i < cs.length := (List.getElem?_eq_some_iff.1 hc).1
      obtain ⟨c0, hc0, hlen0, hat0⟩ : ∃ c0, cs[0]? = some c0 ∧ c0.length = size ∧ ∀ j, j < size → w.cell? ((a.add (0 * size)).add j) = c0[j]? := by
        refine ⟨cs[0]'(by omega), List.getElem?_eq_getElem (by omega), ?_⟩
        obtain ⟨h1, _⟩ := hcs 0 _ (List.getElem?_eq_getElem (by omega))
        obtain ⟨_, h2, h3⟩ := World.cells?_some h1
        exact ⟨h2, h3⟩
      have hz := hat0 0 hsz
      rw [Nat.zero_mul] at hz
      have ha0 : a.add 0 = a := by simp [Addr.add]
      rw [ha0, ha0] at hz
      obtain ⟨u0, hu0⟩ : ∃ u, c0[0]? = some u := ⟨c0[0]'(by omega), List.getElem?_eq_getElem (by omega)⟩
      rw [hu0] at hz
      obtain ⟨b, off, spot⟩ := a
      have hspot : spot = none := by simpa using World.cell?_spot hz
      subst hspot
      have hb : b < w.heap.size := World.block_lt_of_cell? w _ hz
      refine ⟨b, off, rfl, hb, fun j u hu => ?_⟩
      obtain ⟨h1, _⟩ := hcs i c hc
      obtain ⟨_, h2, h3⟩ := World.cells?_some h1
      have hj : j < size := by rw [← h2]; exact (List.getElem?_eq_some_iff.1 hu).1
      have := h3 j hj
      rw [addr_add, addr_add, hu] at this
      exact this
    · have := Nat.mul_le_mul_right bytes (show len ≤ len + (m - len) by omega)
      unfold reachBytes at hw
      omega
    · obtain ⟨i, hi, rfl⟩ := List.getElem_of_mem hc
      obtain ⟨h1, h2⟩ := hcs i _ (List.getElem?_eq_getElem hi)
      obtain ⟨_, h3, _⟩ := World.cells?_some h1
      exact ⟨h3, n, _, h2, hin i (by omega)⟩
end
end Go.Proofs.Ytofdkincbhahfaa
