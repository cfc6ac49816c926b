/- RouteHears answers true for every input, and each argument reads afterwards as it read before; no condition. -/
import Derived.Test.YtimondpollbdfaaRows
import Derived.Test.YtimondpollbdfaaOpenW
import Derived.Test.YtimondpollbdfaaRHearsW
set_option linter.unusedVariables false
set_option linter.unusedSimpArgs false
namespace Go.Proofs.Ytimondpollbdfaa
open Go.ChangeShapes Go.WideShapes Go.ChangeAt Go.RowKit Go.Deep

set_option maxRecDepth 100000 in
theorem route_hears_holds_lifted (os : Os) (started : os.Started) (H : Type) (enc : TypeId × Value → H) :
    ReturnsInHanded {} Try.checked os 6 .any (Rows.routeHearsSpec.pre6 enc Try.prog Try.f6 Rows.routeHearsRow.domain false) (Rows.routeHearsSpec.post enc Try.prog Try.f6 false true false false) := by
  refine returnsInHanded_of_change_sized (C := Try.checked) own started (by kernel_rfl) Try.func6
    (ChangeSpec.witness6 (enc := enc) (C := Try.checked) false ⟨#[], #[.agg #[.int .i64 0, .string ⟨#[]⟩, .int .i64 0, .int .i64 0, .slice none 0 0, .int .i64 0, .int .i64 0, .int .i64 0, .int .i64 0, .int .i64 0, .int .i64 0, .int .i64 0, .string ⟨#[]⟩, .bool false, .int .i64 0, .int .i64 0, .bool false, .int .i64 0, .int .i64 0, .slice none 0 0], .agg #[.int .i64 0, .int .i64 0, .int .i64 0, .int .i64 0, .slice none 0 0, .int .i64 0, .int .i64 0, .slice none 0 0, .int .i64 0, .int .i64 0, .int .i64 0, .int .i64 0, .int .i64 0, .int .i64 0, .int .i64 0, .string ⟨#[]⟩]], []⟩ 8 (by kernel_rfl) (by kernel_rfl) (by kernel_rfl) (by kernel_rfl)) ?_
  intro W base args ds gs before hval0 hW hcnd hsz0 _
  have hsz : (DataW.weightsEach Try.prog (Try.f6.params.toList ++ Rows.routeHearsSpec.plain.varTypes Try.prog) (ds ++ gs)).all (· ≤ reachBytes) = true := hsz0
  clear hsz0
  have hval : ∀ (j : Nat) t v, Try.f6.params[j]? = some t → args[j]? = some v → Value.okWide Try.prog W .any base t v := hval0
  have hW' := hW
  obtain ⟨p, q, hA0, hV, rfl, hfz, hnd⟩ := hW
  have hA : DataW.TrodAll enc Try.prog W 0 (fun _ => true) true Try.f6.params.toList args.toList ds p := hA0
  rw [Try.params6] at hA hval hsz
  obtain ⟨v0, vs0, d0, ds0, p0, q0, hargs, rfl, rfl, h0, r0⟩ := trodAll_cons hA
  obtain ⟨v1, vs1, d1, ds1, p1, q1, rfl, rfl, rfl, h1, r1⟩ := trodAll_cons r0
  obtain ⟨rfl, rfl, rfl⟩ := trodAll_nil r1
  obtain rfl : args = #[v0, v1] := by cases args; simp_all
  obtain ⟨rfl, rfl⟩ := trodVars_none hV
  have k0 := h0
  have lt0 : ∀ x ∈ p0, x.block < W.heap.size := by obtain ⟨m, hm⟩ := k0; exact DataW.trod_lt m _ _ _ hm
  obtain ⟨c0, rfl, hcs0⟩ := okWide_struct Try.underlying39 (hval 0 39 v0 rfl rfl)
  obtain ⟨x0, A0, cap0, J0, jc0, l0, hc0, hI0⟩ : ∃ (r : Rte) (A : Option Addr) (cap : Nat) (J : Option Addr) (jc : Nat) (l : List JobD), c0.toList = r.cells (.slice A r.map.sp.length cap) (.slice J l.length jc) ∧ WayIn W A cap J jc r l := by
    obtain ⟨fuel, hf⟩ := h0
    have hz : Try.prog.cellsOf 39 = 20 := by kernel_rfl
    exact way_of (by simpa using hcs0.trans hz) hf (reached_arg hsz (j := 0) rfl rfl)
  obtain rfl : c0 = (x0.cells (.slice A0 x0.map.sp.length cap0) (.slice J0 l0.length jc0)).toArray := by rw [← hc0]
  have k1 := h1
  have lt1 : ∀ x ∈ p1, x.block < W.heap.size := by obtain ⟨m, hm⟩ := k1; exact DataW.trod_lt m _ _ _ hm
  obtain ⟨c1, rfl, hcs1⟩ := okWide_struct Try.underlying59 (hval 1 59 v1 rfl rfl)
  obtain ⟨x1, K1, kc1, B1, bc1, l1, hc1, hI1⟩ : ∃ (p : Rep) (K : Option Addr) (kc : Nat) (B : Option Addr) (bc : Nat) (l : List JobD), c1.toList = p.cells (.slice K l.length kc) (.slice B p.map.sp.length bc) ∧ RepIn W K kc B bc p l := by
    obtain ⟨fuel, hf⟩ := h1
    have hz : Try.prog.cellsOf 59 = 16 := by kernel_rfl
    exact rep_of (by simpa using hcs1.trans hz) hf (reached_arg hsz (j := 1) rfl rfl)
  obtain rfl : c1 = (x1.cells (.slice K1 l1.length kc1) (.slice B1 x1.map.sp.length bc1)).toArray := by rw [← hc1]
  clear hA0 hval0
  refine (rhears_law W A0 cap0 J0 jc0 x0 l0 K1 kc1 B1 bc1 x1 l1 hI0 hI1).mono fun e W' ⟨he, bel⟩ => ?_
  subst he
  exact ⟨_, rfl, _, _, _, [], _, [], hW', trodAll_mk1 (shut_bool Try.underlying4 _), (trodAll_cons_mk (Below.trod laidOut (by kernel_rfl) (of_decide_eq_true (by kernel_rfl)) k0 bel lt0) (trodAll_cons_mk (Below.trod laidOut (by kernel_rfl) (of_decide_eq_true (by kernel_rfl)) k1 bel lt1) trodAll_mk0)), rfl, bel.frame _, fun h => by cases h⟩

theorem route_hears_holds : Rows.RouteHearsSaid :=
  OpenClaim.holds_of_wide 6 Try.f6 rfl rfl rfl rfl rfl rfl rfl ⟨rfl, rfl, rfl, rfl, rfl⟩ rfl rfl rfl rfl rfl (by kernel_rfl) Try.func6 (by kernel_rfl)
    (of_decide_eq_true (by kernel_rfl)) (by unfold Func.isWrapper; first | (rw [if_pos (by decide +kernel)]; kernel_rfl) | (rw [if_neg (by decide +kernel)]; exact ⟨rfl, rfl⟩))
    (fun os started H enc _ => route_hears_holds_lifted os started H enc)
end Go.Proofs.Ytimondpollbdfaa
