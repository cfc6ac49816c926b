/- What is proved: how a map and a plan that come in as arguments are opened. -/
import Derived.Test.YtimondpollbdfaaOpen
import Derived.Test.YtimondpollbdfaaCheck
set_option linter.unusedVariables false
set_option linter.unusedSimpArgs false
namespace Go.Proofs.Ytimondpollbdfaa
open Go.ChangeShapes Go.WideShapes Go.ChangeAt Go.RowKit Go.Deep

section
variable {H : Type} {enc : TypeId × Value → H} {w : World} {base : Nat} {spare : Nat → Bool} {held : Bool}
theorem int_of {t : TypeId} {n : Nat} {c : Value} {y : Option (DataW H × List MemPlace)} (ht : Try.prog.underlying t = some (.int .i64)) {x : DataW H × List MemPlace} (h : DataW.trod enc Try.prog w base spare held n t [c] = y) (hy : y = some x) : ∃ q, c = .int .i64 q ∧ (Lit.int .i64 q).wf = true := by
  subst hy
  obtain ⟨q, e, _, hw⟩ := DataW.trod_int ht h
  exact ⟨q, by injection e, hw⟩
theorem str_of {n : Nat} {c : Value} {y : Option (DataW H × List MemPlace)} {x : DataW H × List MemPlace} (h : DataW.trod enc Try.prog w base spare held n 9 [c] = y) (hy : y = some x) : ∃ q, c = .string q ∧ q.size ≤ 9223372036854775807 := by
  subst hy
  obtain ⟨q, e, _, hs⟩ := DataW.trod_string Try.underlying9 h
  exact ⟨q, by injection e, by unfold maxLen at hs; exact hs⟩
theorem bool_of {n : Nat} {c : Value} {y : Option (DataW H × List MemPlace)} {x : DataW H × List MemPlace} (h : DataW.trod enc Try.prog w base spare held n 4 [c] = y) (hy : y = some x) : ∃ q, c = .bool q := by
  subst hy
  obtain ⟨q, e, _⟩ := DataW.trod_bool Try.underlying4 h
  exact ⟨q, by injection e⟩
theorem span_of {n : Nat} {c : List Value} {y : DataW H × List MemPlace} (hl : c.length = 5) (h : DataW.trod enc Try.prog w base spare held n 50 c = some y) : ∃ d : Span, c = d.cells ∧ d.fr.size ≤ 9223372036854775807 ∧ d.to.size ≤ 9223372036854775807 := by
  obtain ⟨xs, m, _, _, _, hxl, hf⟩ := DataW.trod_struct Try.underlying50 h
  match c, hl with
  | [c0, c1, c2, c3, c4], _ =>
    match xs, hxl with
    | [x0, x1, x2, x3, x4], _ =>
      obtain ⟨q0, rfl, h0⟩ := str_of (hf 0 _ rfl) rfl
      obtain ⟨q1, rfl, h1⟩ := str_of (hf 1 _ rfl) rfl
      obtain ⟨q2, rfl, _⟩ := int_of Try.underlying3 (hf 2 _ rfl) rfl
      obtain ⟨q3, rfl, _⟩ := int_of Try.underlying2 (hf 3 _ rfl) rfl
      obtain ⟨q4, rfl, _⟩ := int_of Try.underlying3 (hf 4 _ rfl) rfl
      exact ⟨⟨q0, q1, q2, q3, q4⟩, rfl, h0, h1⟩
/-- The cells of a plan. -/
def Plan.cells (p : Plan) : List Value := [.int .i64 p.kind, .int .i64 p.phase, .int .i64 p.shard, .int .i64 p.other, .int .i64 p.group, .int .i64 p.past, .int .i64 p.epoch, .string p.key]
theorem plan_of {n : Nat} {c : List Value} {y : DataW H × List MemPlace} (hl : c.length = 8) (h : DataW.trod enc Try.prog w base spare held n 24 c = some y) : ∃ d : Plan, c = d.cells ∧ d.key.size ≤ 9223372036854775807 ∧ (∀ q, q ∈ [d.kind, d.phase, d.shard, d.other, d.group, d.past, d.epoch] → (Lit.int .i64 q).wf = true) := by
  obtain ⟨xs, m, _, _, _, hxl, hf⟩ := DataW.trod_struct Try.underlying24 h
  match c, hl with
  | [c0, c1, c2, c3, c4, c5, c6, c7], _ =>
    match xs, hxl with
    | [x0, x1, x2, x3, x4, x5, x6, x7], _ =>
      obtain ⟨q0, rfl, k0⟩ := int_of Try.underlying3 (hf 0 _ rfl) rfl
      obtain ⟨q1, rfl, k1⟩ := int_of Try.underlying3 (hf 1 _ rfl) rfl
      obtain ⟨q2, rfl, k2⟩ := int_of Try.underlying3 (hf 2 _ rfl) rfl
      obtain ⟨q3, rfl, k3⟩ := int_of Try.underlying3 (hf 3 _ rfl) rfl
      obtain ⟨q4, rfl, k4⟩ := int_of Try.underlying3 (hf 4 _ rfl) rfl
      obtain ⟨q5, rfl, k5⟩ := int_of Try.underlying3 (hf 5 _ rfl) rfl
      obtain ⟨q6, rfl, k6⟩ := int_of Try.underlying2 (hf 6 _ rfl) rfl
      obtain ⟨q7, rfl, k7⟩ := str_of (hf 7 _ rfl) rfl
      refine ⟨⟨q0, q1, q2, q3, q4, q5, q6, q7⟩, rfl, k7, fun q hq => ?_⟩
      simp only [List.mem_cons, List.not_mem_nil, or_false] at hq
      rcases hq with rfl | rfl | rfl | rfl | rfl | rfl | rfl <;> assumption
/-- The cells of a map; v is the slice of its spans. -/
def Atl.cells (a : Atl) (v : Value) : List Value := .int .i64 a.groups :: .int .i64 a.last :: v :: a.plan.cells
theorem map_of {n : Nat} {c : List Value} {y : DataW H × List MemPlace} (hl : c.length = 11) (h : DataW.trod enc Try.prog w base spare held n 26 c = some y) : ∃ (m : Atl) (A : Option Addr) (cap : Nat), c = m.cells (.slice A m.sp.length cap) ∧ MapIn w A cap m ∧ (∀ s ∈ m.sp, s.fr.size ≤ 9223372036854775807) ∧ (Lit.int .i64 m.groups).wf = true ∧ (Lit.int .i64 m.last).wf = true ∧ (∀ q, q ∈ [m.plan.kind, m.plan.phase, m.plan.shard, m.plan.other, m.plan.group, m.plan.past, m.plan.epoch] → (Lit.int .i64 q).wf = true) := by
  obtain ⟨xs, f, _, _, _, hxl, hf⟩ := DataW.trod_struct Try.underlying26 h
  match c, hl with
  | [c0, c1, c2, c3, c4, c5, c6, c7, c8, c9, c10], _ =>
    match xs, hxl with
    | [x0, x1, x2, x3], _ =>
      obtain ⟨q0, rfl, k0⟩ := int_of Try.underlying3 (hf 0 _ rfl) rfl
      obtain ⟨q1, rfl, k1⟩ := int_of Try.underlying3 (hf 1 _ rfl) rfl
      have f2 : DataW.trod enc Try.prog w base spare held f 22 [c2] = some x2 := hf 2 _ rfl
      have f3 : DataW.trod enc Try.prog w base spare held f 24 [c3, c4, c5, c6, c7, c8, c9, c10] = some x3 := hf 3 _ rfl
      obtain ⟨p, hp, hk, hw⟩ := plan_of rfl f3
      obtain ⟨A, len, cap, rfl⟩ : ∃ A len cap, c2 = .slice A len cap := by
        rcases open_slice Try.underlying22 f2 with ⟨h0, _⟩ | ⟨a, l, cp, m, n, D, Pl, h0, _⟩
        · exact ⟨none, 0, 0, by injection h0⟩
        · exact ⟨some a, l, cp, by injection h0⟩
      obtain ⟨cs, hcl, hr, hle, hm, _, hc⟩ := open_rowAt Try.underlying22 (size := 5) (by kernel_rfl) (by omega) f2
      obtain ⟨sp, rfl, hd⟩ := list_of (f := Span.cells) (Q := fun d => d.fr.size ≤ 9223372036854775807 ∧ d.to.size ≤ 9223372036854775807) cs (fun c hcs => by
        obtain ⟨h5, n, y, hy⟩ := hc c hcs
        exact span_of h5 hy)
      have hsl : sp.length = len := by simpa using hcl
      subst hsl
      refine ⟨⟨q0, q1, sp, p⟩, A, cap, ?_, ⟨hr, hle, by unfold maxLen at hm; exact hm, fun s hs => (hd s hs).2, hk⟩, fun s hs => (hd s hs).1, k0, k1, hw⟩
      show _ = Value.int .i64 q0 :: Value.int .i64 q1 :: Value.slice A sp.length cap :: p.cells
      rw [← hp]
end
theorem own : ownKnob Try.prog.godebug = none := by kernel_rfl
theorem laidOut : laidOutB Try.prog = true := by kernel_rfl
end Go.Proofs.Ytimondpollbdfaa
