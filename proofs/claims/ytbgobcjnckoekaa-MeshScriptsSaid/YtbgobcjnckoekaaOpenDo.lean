/- What is proved: how a slice of what is done to a mesh, and a slice of ints, are opened. -/
import Derived.Test.YtbgobcjnckoekaaOpen
import Derived.Test.YtbgobcjnckoekaaOnce
namespace Go.Proofs.Ytbgobcjnckoekaa
open Go.ChangeShapes Go.WideShapes Go.ChangeAt Go.RowKit Go.Deep
section
variable {H : Type} {enc : TypeId × Value → H} {w : World} {base : Nat} {spare : Nat → Bool} {held : Bool}
theorem do_of {n : Nat} {c : List Value} {y : DataW H × List MemPlace} (hl : c.length = 4) (h : DataW.trod enc Try.prog w base spare held n 32 c = some y) : ∃ d : DoD, c = d.cells ∧ d.body.size ≤ 9223372036854775807 := by
  obtain ⟨xs, m, _, _, _, hxl, hf⟩ := DataW.trod_struct Try.underlying32 h
  match c, hl with
  | [c0, c1, c2, c3], _ =>
    have f0 := hf 0 _ rfl
    have f1 := hf 1 _ rfl
    have f2 := hf 2 _ rfl
    have f3 := hf 3 _ rfl
    match xs, hxl with
    | [x0, x1, x2, x3], _ =>
      obtain ⟨q0, e0, _, _⟩ := DataW.trod_int Try.underlying3 f0
      obtain ⟨q1, e1, _, _⟩ := DataW.trod_int Try.underlying3 f1
      obtain ⟨q2, e2, _, _⟩ := DataW.trod_int Try.underlying3 f2
      obtain ⟨q3, e3, _, hs⟩ := DataW.trod_string Try.underlying9 f3
      have g0 : c0 = .int .i64 q0 := by injection e0
      have g1 : c1 = .int .i64 q1 := by injection e1
      have g2 : c2 = .int .i64 q2 := by injection e2
      have g3 : c3 = .string q3 := by injection e3
      subst g0; subst g1; subst g2; subst g3
      exact ⟨⟨q0, q1, q2, q3⟩, rfl, by unfold maxLen at hs; exact hs⟩
theorem open_dos {fuel : Nat} {A : Option Addr} {len cap : Nat} {x : DataW H × List MemPlace} (h : DataW.trod enc Try.prog w base spare held fuel 22 [.slice A len cap] = some x) :
    ∃ dos : List DoD, dos.length = len ∧ RowAt w w.heap.size 4 A (dos.map DoD.cells) ∧ len ≤ 9223372036854775807 ∧ ∀ d ∈ dos, d.body.size ≤ 9223372036854775807 := by
  obtain ⟨cs, hl, hr, hle, hm, _, hc⟩ := open_rowAt Try.underlying22 (size := 4) (by kernel_rfl) (by omega) h
  obtain ⟨dos, rfl, hd⟩ := list_of (f := DoD.cells) (Q := fun d => d.body.size ≤ 9223372036854775807) cs (fun c hcs => by
    obtain ⟨h4, n, y, hy⟩ := hc c hcs
    exact do_of h4 hy)
  exact ⟨dos, by simpa using hl, hr, by unfold maxLen at hm; omega, hd⟩
theorem open_nums {fuel : Nat} {A : Option Addr} {len cap : Nat} {x : DataW H × List MemPlace} (h : DataW.trod enc Try.prog w base spare held fuel 23 [.slice A len cap] = some x) :
    ∃ ns : List Int, ns.length = len ∧ RowAt w w.heap.size 1 A (ns.map fun n => [.int .i64 n]) ∧ len ≤ 9223372036854775807 := by
  obtain ⟨cs, hl, hr, hle, hm, _, hc⟩ := open_rowAt Try.underlying23 (size := 1) (by kernel_rfl) (by omega) h
  obtain ⟨ns, rfl, _⟩ := list_of (f := fun n => [.int .i64 n]) (Q := fun (_ : Int) => True) cs (fun c hcs => by
    obtain ⟨_, n, y, hy⟩ := hc c hcs
    obtain ⟨q, e, _⟩ := DataW.trod_int Try.underlying3 hy
    exact ⟨q, e, trivial⟩)
  exact ⟨ns, by simpa using hl, hr, by unfold maxLen at hm; omega⟩
end
theorem own : ownKnob Try.prog.godebug = none := by kernel_rfl
theorem laidOut : laidOutB Try.prog = true := by kernel_rfl
end Go.Proofs.Ytbgobcjnckoekaa
