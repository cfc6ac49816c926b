/- What is proved: how a book and a session that come in as arguments are opened. Condition: the form's own reach. -/
import Derived.Test.YtofdkincbhahfaaOpenR
import Derived.Test.YtofdkincbhahfaaBase
set_option linter.unusedVariables false
set_option linter.unusedSimpArgs false
namespace Go.Proofs.Ytofdkincbhahfaa
open Go.ChangeShapes Go.WideShapes Go.ChangeAt Go.RowKit Go.Deep

section
variable {H : Type} {enc : TypeId × Value → H} {w : World} {base : Nat} {spare : Nat → Bool} {held : Bool}
theorem int_of {t : TypeId} {n : Nat} {c : Value} {y : Option (DataW H × List MemPlace)} (ht : Try.prog.underlying t = some (.int .i64)) {x : DataW H × List MemPlace} (h : DataW.trod enc Try.prog w base spare held n t [c] = y) (hy : y = some x) : ∃ q, c = .int .i64 q ∧ (Lit.int .i64 q).wf = true := by
  subst hy
  obtain ⟨q, e, _, hw⟩ := DataW.trod_int ht h
  exact ⟨q, by injection e, hw⟩
theorem str_of {n : Nat} {c : Value} {y : Option (DataW H × List MemPlace)} {x : DataW H × List MemPlace} (h : DataW.trod enc Try.prog w base spare held n 9 [c] = y) (hy : y = some x) : ∃ q, c = .string q ∧ q.size ≤ 9223372036854775807 := by
  subst hy
  obtain ⟨q, e, _, hs⟩ := DataW.trod_string Try.underlying9 h
  exact ⟨q, by injection e, by unfold maxLen at hs; exact hs⟩
theorem bool_of {n : Nat} {c : Value} {y : Option (DataW H × List MemPlace)} {x : DataW H × List MemPlace} (h : DataW.trod enc Try.prog w base spare held n 4 [c] = y) (hy : y = some x) : ∃ q, c = .bool q := by
  subst hy
  obtain ⟨q, e, _⟩ := DataW.trod_bool Try.underlying4 h
  exact ⟨q, by injection e⟩
theorem job_of {n : Nat} {c : List Value} {y : DataW H × List MemPlace} (hl : c.length = 8) (h : DataW.trod enc Try.prog w base spare held n 53 c = some y) : ∃ d : JobD, c = d.cells := by
  obtain ⟨xs, m, _, _, _, hxl, hf⟩ := DataW.trod_struct Try.underlying53 h
  match c, hl with
  | [c0, c1, c2, c3, c4, c5, c6, c7], _ =>
    match xs, hxl with
    | [x0, x1, x2, x3, x4, x5, x6, x7], _ =>
      obtain ⟨q0, rfl, _⟩ := str_of (hf 0 _ rfl) rfl
      obtain ⟨q1, rfl, _⟩ := str_of (hf 1 _ rfl) rfl
      obtain ⟨q2, rfl, _⟩ := str_of (hf 2 _ rfl) rfl
      obtain ⟨q3, rfl, _⟩ := str_of (hf 3 _ rfl) rfl
      obtain ⟨q4, rfl, _⟩ := int_of Try.underlying3 (hf 4 _ rfl) rfl
      obtain ⟨q5, rfl, _⟩ := int_of Try.underlying2 (hf 5 _ rfl) rfl
      obtain ⟨q6, rfl⟩ := bool_of (hf 6 _ rfl) rfl
      obtain ⟨q7, rfl, _⟩ := int_of Try.underlying2 (hf 7 _ rfl) rfl
      exact ⟨⟨q0, q1, q2, q3, q4, q5, q6, q7⟩, rfl⟩
theorem slice_of {t e : TypeId} {n : Nat} {c : Value} {y : Option (DataW H × List MemPlace)} {x : DataW H × List MemPlace} (ht : Try.prog.underlying t = some (.slice e)) (h : DataW.trod enc Try.prog w base spare held n t [c] = y) (hy : y = some x) : ∃ A len cap, c = .slice A len cap := by
  subst hy
  rcases open_slice ht h with ⟨h0, _⟩ | ⟨a, l, cp, m, n, D, Pl, h0, _⟩
  · exact ⟨none, 0, 0, by injection h0⟩
  · exact ⟨some a, l, cp, by injection h0⟩
theorem jobs_of {n : Nat} {c : Value} {x : DataW H × List MemPlace} (h : DataW.trod enc Try.prog w base spare held n 24 [c] = some x) (hr : Reached Try.prog 24 x.1) : ∃ (J : Option Addr) (jc : Nat) (js : List JobD), c = .slice J js.length jc ∧ RowAt w w.heap.size 8 J (js.map JobD.cells) ∧ js.length ≤ jc ∧ jc ≤ 9223372036854775807 ∧ js.length * 96 ≤ 140737488355328 := by
  obtain ⟨J, len, jc, rfl⟩ := slice_of Try.underlying24 h rfl
  obtain ⟨cs, hcl, hrow, hle, hm, hby, hc⟩ := open_rowAtR Try.underlying24 (size := 8) (bytes := 96) (by kernel_rfl) (by omega) (by kernel_rfl) h hr
  obtain ⟨js, rfl, _⟩ := list_of (f := JobD.cells) (Q := fun _ => True) cs (fun c hcs => by
    obtain ⟨h8, n, y, hy, _⟩ := hc c hcs
    obtain ⟨d, hd⟩ := job_of h8 hy
    exact ⟨d, hd, trivial⟩)
  have hl : js.length = len := by simpa using hcl
  subst hl
  exact ⟨J, jc, js, rfl, hrow, hle, by unfold maxLen at hm; omega, by omega⟩
theorem seen_of {n : Nat} {c : List Value} {y : DataW H × List MemPlace} (hl : c.length = 5) (h : DataW.trod enc Try.prog w base spare held n 28 c = some y) (hr : Reached Try.prog 28 y.1) : ∃ d : Seen, c = d.cells ∧ JobsIn w d := by
  obtain ⟨xs, m, _, rfl, _, hxl, hf⟩ := DataW.trod_struct Try.underlying28 h
  match c, hl with
  | [c0, c1, c2, c3, c4], _ =>
    match xs, hxl with
    | [x0, x1, x2], _ =>
      obtain ⟨q0, rfl, _⟩ := int_of Try.underlying3 (hf 0 _ rfl) rfl
      obtain ⟨q1, rfl, _⟩ := int_of Try.underlying2 (hf 1 _ rfl) rfl
      have f2 : DataW.trod enc Try.prog w base spare held m 26 [c2, c3, c4] = some x2 := hf 2 _ rfl
      have r2 : Reached Try.prog 26 x2.1 := reached_part Try.underlying28 hr (i := 2) rfl rfl
      obtain ⟨ys, m2, _, rfl, _, hyl, hg⟩ := DataW.trod_struct Try.underlying26 f2
      match ys, hyl with
      | [y0, y1, y2], _ =>
        obtain ⟨q2, rfl, _⟩ := int_of Try.underlying23 (hg 0 _ rfl) rfl
        obtain ⟨q3, rfl, _⟩ := int_of Try.underlying2 (hg 1 _ rfl) rfl
        have g2 : DataW.trod enc Try.prog w base spare held m2 24 [c4] = some y2 := hg 2 _ rfl
        have s2 : Reached Try.prog 24 y2.1 := reached_part Try.underlying26 r2 (i := 2) rfl rfl
        obtain ⟨J, jc, js, rfl, hrow, h1, h2, h3⟩ := jobs_of g2 s2
        exact ⟨⟨q0, q1, q2, q3, js, J, jc⟩, rfl, hrow, h1, h2, h3⟩
theorem open_book {fuel : Nat} {A : Option Addr} {len cap : Nat} {x : DataW H × List MemPlace} (h : DataW.trod enc Try.prog w base spare held fuel 22 [.slice A len cap] = some x) (hr : Reached Try.prog 22 x.1) :
    ∃ l : List Seen, l.length = len ∧ BookIn w A cap l ∧ l.length * 56 ≤ 140737488355328 := by
  obtain ⟨cs, hcl, hrow, hle, hm, hby, hc⟩ := open_rowAtR Try.underlying22 (size := 5) (bytes := 56) (by kernel_rfl) (by omega) (by kernel_rfl) h hr
  obtain ⟨l, rfl, hd⟩ := list_of (f := Seen.cells) (Q := fun d => JobsIn w d) cs (fun c hcs => by
    obtain ⟨h5, n, y, hy, hry⟩ := hc c hcs
    exact seen_of h5 hy hry)
  have hl : l.length = len := by simpa using hcl
  exact ⟨l, hl, ⟨hrow, by omega, by unfold maxLen at hm; omega, hd⟩, by omega⟩
end
theorem own : ownKnob Try.prog.godebug = none := by kernel_rfl
theorem laidOut : laidOutB Try.prog = true := by kernel_rfl
end Go.Proofs.Ytofdkincbhahfaa
