/- RouteTells answers true for every input, and each argument reads afterwards as it read before; no condition. -/
import Derived.Test.YtimondpollbdfaaRows
import Derived.Test.YtimondpollbdfaaOpenMap
import Derived.Test.YtimondpollbdfaaTellsR
import Derived.ChangeMaps5
set_option linter.unusedVariables false
set_option linter.unusedSimpArgs false
namespace Go.Proofs.Ytimondpollbdfaa
open Go.ChangeShapes Go.WideShapes Go.ChangeAt Go.RowKit Go.Deep Go.ChangeMaps

set_option maxRecDepth 100000 in
theorem route_tells_holds_lifted (os : Os) (started : os.Started) (H : Type) (enc : TypeId × Value → H) :
    ReturnsInHanded {} Try.checked os 4 .any (Rows.routeTellsSpec.pre6 enc Try.prog Try.f4 Rows.routeTellsRow.domain false) (Rows.routeTellsSpec.post enc Try.prog Try.f4 false true false false) := by
  refine returnsInHanded_of_change (C := Try.checked) own started (by kernel_rfl) Try.func4
    (ChangeSpec.witness6 (enc := enc) (C := Try.checked) false ⟨#[], #[.agg #[.int .i64 0, .string ⟨#[]⟩, .int .i64 0, .int .i64 0, .slice none 0 0, .int .i64 0, .int .i64 0, .int .i64 0, .int .i64 0, .int .i64 0, .int .i64 0, .int .i64 0, .string ⟨#[]⟩, .bool false, .int .i64 0, .int .i64 0, .bool false, .int .i64 0, .int .i64 0, .slice none 0 0], .int .i64 0, .string ⟨#[]⟩, .agg #[.int .i64 0, .int .i64 0, .slice none 0 0, .int .i64 0, .int .i64 0, .int .i64 0, .int .i64 0, .int .i64 0, .int .i64 0, .int .i64 0, .string ⟨#[]⟩], .int .i64 0], []⟩ 8 (by kernel_rfl) (by kernel_rfl) (by kernel_rfl) (by kernel_rfl)) ?_
  intro W base args ds gs before hval0 hW hcnd _
  have hval : ∀ (j : Nat) t v, Try.f4.params[j]? = some t → args[j]? = some v → Value.okWide Try.prog W .any base t v := hval0
  have hW' := hW
  obtain ⟨p, q, hA0, hV, rfl, hfz, hnd⟩ := hW
  have hA : DataW.TrodAll enc Try.prog W 0 (fun _ => true) true Try.f4.params.toList args.toList ds p := hA0
  rw [Try.params4] at hA hval
  obtain ⟨v0, vs0, d0, ds0, p0, q0, hargs, rfl, rfl, h0, r0⟩ := trodAll_cons hA
  obtain ⟨v1, vs1, d1, ds1, p1, q1, rfl, rfl, rfl, h1, r1⟩ := trodAll_cons r0
  obtain ⟨v2, vs2, d2, ds2, p2, q2, rfl, rfl, rfl, h2, r2⟩ := trodAll_cons r1
  obtain ⟨v3, vs3, d3, ds3, p3, q3, rfl, rfl, rfl, h3, r3⟩ := trodAll_cons r2
  obtain ⟨v4, vs4, d4, ds4, p4, q4, rfl, rfl, rfl, h4, r4⟩ := trodAll_cons r3
  obtain ⟨rfl, rfl, rfl⟩ := trodAll_nil r4
  obtain rfl : args = #[v0, v1, v2, v3, v4] := by cases args; simp_all
  obtain ⟨rfl, rfl⟩ := trodVars_none hV
  have k0 := h0
  have lt0 : ∀ x ∈ p0, x.block < W.heap.size := by obtain ⟨m, hm⟩ := k0; exact DataW.trod_lt m _ _ _ hm
  obtain ⟨c0, rfl, hcs0⟩ := okWide_struct Try.underlying39 (hval 0 39 v0 rfl rfl)
  obtain ⟨x0, A0, J0, cap0, jc0, l0, hc0, hI0, hfr0, hn0, hj0, hjl0, hjm0⟩ : ∃ (r : Rte) (A J : Option Addr) (cap jc : Nat) (l : List JobD), c0.toList = r.cells (.slice A r.map.sp.length cap) (.slice J l.length jc) ∧ MapIn W A cap r.map ∧ (∀ s ∈ r.map.sp, s.fr.size ≤ 9223372036854775807) ∧ r.name.size ≤ 9223372036854775807 ∧ RowAt W W.heap.size 8 J (l.map JobD.cells) ∧ l.length ≤ jc ∧ jc ≤ 9223372036854775807 := by
    obtain ⟨fuel, hf⟩ := h0
    have hz : Try.prog.cellsOf 39 = 20 := by kernel_rfl
    exact rte_of (by simpa using hcs0.trans hz) hf
  obtain rfl : c0 = (x0.cells (.slice A0 x0.map.sp.length cap0) (.slice J0 l0.length jc0)).toArray := by rw [← hc0]
  obtain ⟨n1, rfl, rfl, rfl, wf1⟩ := open_int Try.underlying3 (hval 1 3 v1 rfl rfl) h1
  obtain ⟨s2, rfl, rfl, rfl, hs2⟩ := open_string Try.underlying9 (hval 2 9 v2 rfl rfl) h2
  have k3 := h3
  have lt3 : ∀ x ∈ p3, x.block < W.heap.size := by obtain ⟨m, hm⟩ := k3; exact DataW.trod_lt m _ _ _ hm
  obtain ⟨c3, rfl, hcs3⟩ := okWide_struct Try.underlying26 (hval 3 26 v3 rfl rfl)
  obtain ⟨x3, A3, cap3, hc3, hI3, hfr3, hgw3, hlw3, hpw3⟩ : ∃ (m : Atl) (A : Option Addr) (cap : Nat), c3.toList = m.cells (.slice A m.sp.length cap) ∧ MapIn W A cap m ∧ (∀ s ∈ m.sp, s.fr.size ≤ 9223372036854775807) ∧ (Lit.int .i64 m.groups).wf = true ∧ (Lit.int .i64 m.last).wf = true ∧ (∀ q, q ∈ [m.plan.kind, m.plan.phase, m.plan.shard, m.plan.other, m.plan.group, m.plan.past, m.plan.epoch] → (Lit.int .i64 q).wf = true) := by
    obtain ⟨fuel, hf⟩ := h3
    have hz : Try.prog.cellsOf 26 = 11 := by kernel_rfl
    exact map_of (by simpa using hcs3.trans hz) hf
  obtain rfl : c3 = (x3.cells (.slice A3 x3.sp.length cap3)).toArray := by rw [← hc3]
  obtain ⟨n4, rfl, rfl, rfl, wf4⟩ := open_int Try.underlying3 (hval 4 3 v4 rfl rfl) h4
  clear hA0 hval0
  refine (tells_any W A0 J0 A3 cap0 jc0 cap3 x0 l0 x3 n1 n4 s2 hI0 hn0 hI3 hs2).mono fun e W' ⟨he, bel⟩ => ?_
  subst he
  exact ⟨_, rfl, _, _, _, [], _, [], hW', trodAll_mk1 (shut_bool Try.underlying4 _), (trodAll_cons_mk (Below.trod laidOut (by kernel_rfl) (of_decide_eq_true (by kernel_rfl)) k0 bel lt0) (trodAll_cons_mk (shut_int Try.underlying3 wf1) (trodAll_cons_mk (shut_string Try.underlying9 hs2) (trodAll_cons_mk (Below.trod laidOut (by kernel_rfl) (of_decide_eq_true (by kernel_rfl)) k3 bel lt3) (trodAll_cons_mk (shut_int Try.underlying3 wf4) trodAll_mk0))))), rfl, bel.frame _, fun h => by cases h⟩

theorem route_tells_holds : Rows.RouteTellsSaid :=
  OpenClaim.holds_of_wide 4 Try.f4 rfl rfl rfl rfl rfl rfl rfl ⟨rfl, rfl, rfl, rfl, rfl⟩ rfl rfl rfl rfl rfl (by kernel_rfl) Try.func4 (by kernel_rfl)
    (of_decide_eq_true (by kernel_rfl)) (by unfold Func.isWrapper; first | (rw [if_pos (by decide +kernel)]; kernel_rfl) | (rw [if_neg (by decide +kernel)]; exact ⟨rfl, rfl⟩))
    (fun os started H enc _ => route_tells_holds_lifted os started H enc)
end Go.Proofs.Ytimondpollbdfaa
