/- AtlasPlans answers true for every input, and each argument reads afterwards as it read before; no condition. -/
import Derived.Test.YtimondpollbdfaaRows
import Derived.Test.YtimondpollbdfaaOpenA
import Derived.Test.YtimondpollbdfaaPlansW
set_option linter.unusedVariables false
set_option linter.unusedSimpArgs false
namespace Go.Proofs.Ytimondpollbdfaa
open Go.ChangeShapes Go.WideShapes Go.ChangeAt Go.RowKit Go.Deep

set_option maxRecDepth 100000 in
theorem atlas_plans_holds_lifted (os : Os) (started : os.Started) (H : Type) (enc : TypeId × Value → H) :
    ReturnsInHanded {} Try.checked os 12 .any (Rows.atlasPlansSpec.pre6 enc Try.prog Try.f12 Rows.atlasPlansRow.domain false) (Rows.atlasPlansSpec.post enc Try.prog Try.f12 false true false false) := by
  refine returnsInHanded_of_change (C := Try.checked) own started (by kernel_rfl) Try.func12
    (ChangeSpec.witness6 (enc := enc) (C := Try.checked) false ⟨#[], #[.agg #[.int .i64 0, .int .i64 0, .slice none 0 0, .int .i64 0, .int .i64 0, .int .i64 0, .int .i64 0, .int .i64 0, .int .i64 0, .int .i64 0, .string ⟨#[]⟩], .agg #[.int .i64 0, .int .i64 0, .int .i64 0, .int .i64 0, .int .i64 0, .int .i64 0, .int .i64 0, .string ⟨#[]⟩], .agg #[.int .i64 0, .int .i64 0, .int .i64 0, .int .i64 0, .int .i64 0, .int .i64 0, .int .i64 0, .string ⟨#[]⟩]], []⟩ 8 (by kernel_rfl) (by kernel_rfl) (by kernel_rfl) (by kernel_rfl)) ?_
  intro W base args ds gs before hval0 hW hcnd _
  have hval : ∀ (j : Nat) t v, Try.f12.params[j]? = some t → args[j]? = some v → Value.okWide Try.prog W .any base t v := hval0
  have hW' := hW
  obtain ⟨p, q, hA0, hV, rfl, hfz, hnd⟩ := hW
  have hA : DataW.TrodAll enc Try.prog W 0 (fun _ => true) true Try.f12.params.toList args.toList ds p := hA0
  rw [Try.params12] at hA hval
  obtain ⟨v0, vs0, d0, ds0, p0, q0, hargs, rfl, rfl, h0, r0⟩ := trodAll_cons hA
  obtain ⟨v1, vs1, d1, ds1, p1, q1, rfl, rfl, rfl, h1, r1⟩ := trodAll_cons r0
  obtain ⟨v2, vs2, d2, ds2, p2, q2, rfl, rfl, rfl, h2, r2⟩ := trodAll_cons r1
  obtain ⟨rfl, rfl, rfl⟩ := trodAll_nil r2
  obtain rfl : args = #[v0, v1, v2] := by cases args; simp_all
  obtain ⟨rfl, rfl⟩ := trodVars_none hV
  have k0 := h0
  have lt0 : ∀ x ∈ p0, x.block < W.heap.size := by obtain ⟨m, hm⟩ := k0; exact DataW.trod_lt m _ _ _ hm
  obtain ⟨c0, rfl, hcs0⟩ := okWide_struct Try.underlying26 (hval 0 26 v0 rfl rfl)
  obtain ⟨x0, A0, cap0, hc0, hI0, hfr0, hgw0, hlw0, hpw0⟩ : ∃ (m : Atl) (A : Option Addr) (cap : Nat), c0.toList = m.cells (.slice A m.sp.length cap) ∧ MapIn W A cap m ∧ (∀ s ∈ m.sp, s.fr.size ≤ 9223372036854775807) ∧ (Lit.int .i64 m.groups).wf = true ∧ (Lit.int .i64 m.last).wf = true ∧ (∀ q, q ∈ [m.plan.kind, m.plan.phase, m.plan.shard, m.plan.other, m.plan.group, m.plan.past, m.plan.epoch] → (Lit.int .i64 q).wf = true) := by
    obtain ⟨fuel, hf⟩ := h0
    have hz : Try.prog.cellsOf 26 = 11 := by kernel_rfl
    exact map_of (by simpa using hcs0.trans hz) hf
  obtain rfl : c0 = (x0.cells (.slice A0 x0.sp.length cap0)).toArray := by rw [← hc0]
  have k1 := h1
  have lt1 : ∀ x ∈ p1, x.block < W.heap.size := by obtain ⟨m, hm⟩ := k1; exact DataW.trod_lt m _ _ _ hm
  obtain ⟨c1, rfl, hcs1⟩ := okWide_struct Try.underlying24 (hval 1 24 v1 rfl rfl)
  obtain ⟨x1, hc1, hk1, hw1⟩ : ∃ p : Plan, c1.toList = p.cells ∧ p.key.size ≤ 9223372036854775807 ∧ (∀ q, q ∈ [p.kind, p.phase, p.shard, p.other, p.group, p.past, p.epoch] → (Lit.int .i64 q).wf = true) := by
    obtain ⟨fuel, hf⟩ := h1
    have hz : Try.prog.cellsOf 24 = 8 := by kernel_rfl
    exact plan_of (by simpa using hcs1.trans hz) hf
  obtain rfl : c1 = x1.cells.toArray := by rw [← hc1]
  have k2 := h2
  have lt2 : ∀ x ∈ p2, x.block < W.heap.size := by obtain ⟨m, hm⟩ := k2; exact DataW.trod_lt m _ _ _ hm
  obtain ⟨c2, rfl, hcs2⟩ := okWide_struct Try.underlying24 (hval 2 24 v2 rfl rfl)
  obtain ⟨x2, hc2, hk2, hw2⟩ : ∃ p : Plan, c2.toList = p.cells ∧ p.key.size ≤ 9223372036854775807 ∧ (∀ q, q ∈ [p.kind, p.phase, p.shard, p.other, p.group, p.past, p.epoch] → (Lit.int .i64 q).wf = true) := by
    obtain ⟨fuel, hf⟩ := h2
    have hz : Try.prog.cellsOf 24 = 8 := by kernel_rfl
    exact plan_of (by simpa using hcs2.trans hz) hf
  obtain rfl : c2 = x2.cells.toArray := by rw [← hc2]
  clear hA0 hval0
  refine (plans_any W A0 cap0 x0 x1 x2 hI0 hk1).mono fun e W' ⟨he, bel⟩ => ?_
  subst he
  exact ⟨_, rfl, _, _, _, [], _, [], hW', trodAll_mk1 (shut_bool Try.underlying4 _), (trodAll_cons_mk (Below.trod laidOut (by kernel_rfl) (of_decide_eq_true (by kernel_rfl)) k0 bel lt0) (trodAll_cons_mk (Below.trod laidOut (by kernel_rfl) (of_decide_eq_true (by kernel_rfl)) k1 bel lt1) (trodAll_cons_mk (Below.trod laidOut (by kernel_rfl) (of_decide_eq_true (by kernel_rfl)) k2 bel lt2) trodAll_mk0))), rfl, bel.frame _, fun h => by cases h⟩

theorem atlas_plans_holds : Rows.AtlasPlansSaid :=
  OpenClaim.holds_of_wide 12 Try.f12 rfl rfl rfl rfl rfl rfl rfl ⟨rfl, rfl, rfl, rfl, rfl⟩ rfl rfl rfl rfl rfl (by kernel_rfl) Try.func12 (by kernel_rfl)
    (of_decide_eq_true (by kernel_rfl)) (by unfold Func.isWrapper; first | (rw [if_pos (by decide +kernel)]; kernel_rfl) | (rw [if_neg (by decide +kernel)]; exact ⟨rfl, rfl⟩))
    (fun os started H enc _ => atlas_plans_holds_lifted os started H enc)
end Go.Proofs.Ytimondpollbdfaa
