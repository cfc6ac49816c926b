/- RouteEnds answers true for every input, and each argument reads afterwards as it read before; no condition. -/
import Derived.Test.YtimondpollbdfaaRows
import Derived.Test.YtimondpollbdfaaREndsW
set_option linter.unusedVariables false
set_option linter.unusedSimpArgs false
namespace Go.Proofs.Ytimondpollbdfaa
open Go.ChangeShapes Go.WideShapes Go.ChangeAt Go.RowKit Go.Deep

theorem rends_law (w : World) (A : Option Addr) (cap : Nat) (J : Option Addr) (jc : Nat) (r : Rte) (l : List JobD) (D : Option Addr) (dc : Nat) (ds : List RepD) (hr : WayIn w A cap J jc r l) (hrow : RowAt w w.heap.size 16 D (ds.map RepD.cells)) (hD : ∀ d ∈ ds, RepIn w d.K d.kc d.B d.bc d.p d.pl) (hlen : ds.length ≤ 9223372036854775807) :
    Calls Try.prog 7 #[r.val (.slice A r.map.sp.length cap) (.slice J l.length jc), .slice D ds.length dc] w fun e w' => e = .returned (.bool true) ∧ Below w.heap.size w w' := by
  cases hv : tr (RteOk r)
  · exact rends_wrong w A cap J jc r l D dc ds hr hrow hD hlen hv
  · exact rends_right w A cap J jc r l D dc ds hr hrow hD hlen hv
set_option maxRecDepth 100000 in
theorem route_ends_holds_lifted (os : Os) (started : os.Started) (H : Type) (enc : TypeId × Value → H) :
    ReturnsInHanded {} Try.checked os 7 .any (Rows.routeEndsSpec.pre6 enc Try.prog Try.f7 Rows.routeEndsRow.domain false) (Rows.routeEndsSpec.post enc Try.prog Try.f7 false true false false) := by
  refine returnsInHanded_of_change_sized (C := Try.checked) own started (by kernel_rfl) Try.func7
    (ChangeSpec.witness6 (enc := enc) (C := Try.checked) false ⟨#[], #[.agg #[.int .i64 0, .string ⟨#[]⟩, .int .i64 0, .int .i64 0, .slice none 0 0, .int .i64 0, .int .i64 0, .int .i64 0, .int .i64 0, .int .i64 0, .int .i64 0, .int .i64 0, .string ⟨#[]⟩, .bool false, .int .i64 0, .int .i64 0, .bool false, .int .i64 0, .int .i64 0, .slice none 0 0], .slice none 0 0], []⟩ 8 (by kernel_rfl) (by kernel_rfl) (by kernel_rfl) (by kernel_rfl)) ?_
  intro W base args ds gs before hval0 hW hcnd hsz0 _
  have hsz : (DataW.weightsEach Try.prog (Try.f7.params.toList ++ Rows.routeEndsSpec.plain.varTypes Try.prog) (ds ++ gs)).all (· ≤ reachBytes) = true := hsz0
  clear hsz0
  have hval : ∀ (j : Nat) t v, Try.f7.params[j]? = some t → args[j]? = some v → Value.okWide Try.prog W .any base t v := hval0
  have hW' := hW
  obtain ⟨p, q, hA0, hV, rfl, hfz, hnd⟩ := hW
  have hA : DataW.TrodAll enc Try.prog W 0 (fun _ => true) true Try.f7.params.toList args.toList ds p := hA0
  rw [Try.params7] at hA hval hsz
  obtain ⟨v0, vs0, d0, ds0, p0, q0, hargs, rfl, rfl, h0, r0⟩ := trodAll_cons hA
  obtain ⟨v1, vs1, d1, ds1, p1, q1, rfl, rfl, rfl, h1, r1⟩ := trodAll_cons r0
  obtain ⟨rfl, rfl, rfl⟩ := trodAll_nil r1
  obtain rfl : args = #[v0, v1] := by cases args; simp_all
  obtain ⟨rfl, rfl⟩ := trodVars_none hV
  have k0 := h0
  have lt0 : ∀ x ∈ p0, x.block < W.heap.size := by obtain ⟨m, hm⟩ := k0; exact DataW.trod_lt m _ _ _ hm
  obtain ⟨c0, rfl, hcs0⟩ := okWide_struct Try.underlying39 (hval 0 39 v0 rfl rfl)
  obtain ⟨x0, A0, cap0, J0, jc0, l0, hc0, hI0⟩ : ∃ (r : Rte) (A : Option Addr) (cap : Nat) (J : Option Addr) (jc : Nat) (l : List JobD), c0.toList = r.cells (.slice A r.map.sp.length cap) (.slice J l.length jc) ∧ WayIn W A cap J jc r l := by
    obtain ⟨fuel, hf⟩ := h0
    have hz : Try.prog.cellsOf 39 = 20 := by kernel_rfl
    exact way_of (by simpa using hcs0.trans hz) hf (reached_arg hsz (j := 0) rfl rfl)
  obtain rfl : c0 = (x0.cells (.slice A0 x0.map.sp.length cap0) (.slice J0 l0.length jc0)).toArray := by rw [← hc0]
  obtain ⟨a1, len1, cap1, rfl⟩ := okWide_slice Try.underlying62 (hval 1 62 v1 rfl rfl)
  have k1 := h1
  have lt1 : ∀ x ∈ p1, x.block < W.heap.size := by obtain ⟨m, hm⟩ := k1; exact DataW.trod_lt m _ _ _ hm
  obtain ⟨x1, rfl, hrow1, hl1, hD1⟩ : ∃ ds : List RepD, ds.length = len1 ∧ RowAt W W.heap.size 16 a1 (ds.map RepD.cells) ∧ len1 ≤ 9223372036854775807 ∧ ∀ d ∈ ds, RepIn W d.K d.kc d.B d.bc d.p d.pl := by
    obtain ⟨fuel, hf⟩ := h1
    exact open_reps hf (reached_arg hsz (j := 1) rfl rfl)
  clear hA0 hval0
  refine (rends_law W A0 cap0 J0 jc0 x0 l0 a1 cap1 x1 hI0 hrow1 hD1 hl1).mono fun e W' ⟨he, bel⟩ => ?_
  subst he
  exact ⟨_, rfl, _, _, _, [], _, [], hW', trodAll_mk1 (shut_bool Try.underlying4 _), (trodAll_cons_mk (Below.trod laidOut (by kernel_rfl) (of_decide_eq_true (by kernel_rfl)) k0 bel lt0) (trodAll_cons_mk (Below.trod laidOut (by kernel_rfl) (of_decide_eq_true (by kernel_rfl)) k1 bel lt1) trodAll_mk0)), rfl, bel.frame _, fun h => by cases h⟩

theorem route_ends_holds : Rows.RouteEndsSaid :=
  OpenClaim.holds_of_wide 7 Try.f7 rfl rfl rfl rfl rfl rfl rfl ⟨rfl, rfl, rfl, rfl, rfl⟩ rfl rfl rfl rfl rfl (by kernel_rfl) Try.func7 (by kernel_rfl)
    (of_decide_eq_true (by kernel_rfl)) (by unfold Func.isWrapper; first | (rw [if_pos (by decide +kernel)]; kernel_rfl) | (rw [if_neg (by decide +kernel)]; exact ⟨rfl, rfl⟩))
    (fun os started H enc _ => route_ends_holds_lifted os started H enc)
end Go.Proofs.Ytimondpollbdfaa
