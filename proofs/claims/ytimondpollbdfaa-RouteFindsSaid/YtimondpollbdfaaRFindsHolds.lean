/- RouteFinds answers true for every input, and each argument reads afterwards as it read before; no condition. -/
import Derived.Test.YtimondpollbdfaaRows
import Derived.Test.YtimondpollbdfaaOpenA
import Derived.Test.YtimondpollbdfaaRFindsW
import Derived.ChangeMaps5
set_option linter.unusedVariables false
set_option linter.unusedSimpArgs false
namespace Go.Proofs.Ytimondpollbdfaa
open Go.ChangeShapes Go.WideShapes Go.ChangeAt Go.RowKit Go.Deep Go.ChangeMaps

theorem rfinds_any (w : World) (A K : Option Addr) (cap kc : Nat) (T k : Atl) (nodes leads : Int) (name : ByteArray) (h : MapIn w A cap T) (hk : MapIn w K kc k) (hn : name.size ≤ 9223372036854775807) (hz : (Lit.int .i64 leads).wf = true) (hzn : (Lit.int .i64 nodes).wf = true) :
    Calls Try.prog 8 #[T.val (.slice A T.sp.length cap), k.val (.slice K k.sp.length kc), .int .i64 nodes, .string name, .int .i64 leads] w fun e w' => e = .returned (.bool true) ∧ Below w.heap.size w w' := by
  cases hm : tr (MapOk T)
  · exact rfinds_wrong w A K cap kc T k nodes leads name h hk hn hz hzn hm
  by_cases h1 : nodes < 1
  · exact rfinds_few w A K cap kc T k nodes leads name h hk hn hz hzn hm h1
  have h1' : 1 ≤ nodes := by omega
  by_cases h2 : 7 < nodes
  · exact rfinds_many w A K cap kc T k nodes leads name h hk hn hz hzn hm h1' h2
  have h2' : nodes ≤ 7 := by omega
  cases hnm : named name
  · refine rfinds_nameless w A K cap kc T k nodes leads name h hk hn hz hzn hm h1' h2' fun w h => ?_
    refine (begin_bad5 w K kc k nodes 64 name hn h1' h2' (by decide) (by decide) hnm).mono ?_
    rintro e w' ⟨rfl, hb⟩
    exact ⟨none, 0, rfl, ⟨rowAt_nil _ _ _ _, Nat.le_refl _, by decide, fun s hs => by simp [zeroR] at hs, by decide⟩, hb⟩
  cases hkm : tr (MapOk k)
  · refine rfinds_go w A K cap kc T k nodes leads name h hk hn hz hzn hm h1' h2' hnm (startR nodes 64 name) (fun lead hl => onWay_start T nodes lead name hl) fun w h => ?_
    refine (begin_new w K kc k nodes 64 name hn h1' h2' (by decide) (by decide) hnm h hkm).mono ?_
    rintro e w' ⟨rfl, hb⟩
    exact ⟨none, 0, rfl, ⟨rowAt_nil _ _ _ _, Nat.le_refl _, by decide, fun s hs => by simp [startR] at hs, by show (0 : Nat) ≤ _; omega⟩, hb⟩
  · refine rfinds_go w A K cap kc T k nodes leads name h hk hn hz hzn hm h1' h2' hnm (mapR nodes 64 name k) (fun lead hl => onWay_map T k nodes lead name hl hkm) fun w h => ?_
    exact begin_map w K kc k nodes 64 name hn h1' h2' (by decide) (by decide) hnm h hkm

set_option maxRecDepth 100000 in
theorem route_finds_holds_lifted (os : Os) (started : os.Started) (H : Type) (enc : TypeId × Value → H) :
    ReturnsInHanded {} Try.checked os 8 .any (Rows.routeFindsSpec.pre6 enc Try.prog Try.f8 Rows.routeFindsRow.domain false) (Rows.routeFindsSpec.post enc Try.prog Try.f8 false true false false) := by
  refine returnsInHanded_of_change (C := Try.checked) own started (by kernel_rfl) Try.func8
    (ChangeSpec.witness6 (enc := enc) (C := Try.checked) false ⟨#[], #[.agg #[.int .i64 0, .int .i64 0, .slice none 0 0, .int .i64 0, .int .i64 0, .int .i64 0, .int .i64 0, .int .i64 0, .int .i64 0, .int .i64 0, .string ⟨#[]⟩], .agg #[.int .i64 0, .int .i64 0, .slice none 0 0, .int .i64 0, .int .i64 0, .int .i64 0, .int .i64 0, .int .i64 0, .int .i64 0, .int .i64 0, .string ⟨#[]⟩], .int .i64 0, .string ⟨#[]⟩, .int .i64 0], []⟩ 8 (by kernel_rfl) (by kernel_rfl) (by kernel_rfl) (by kernel_rfl)) ?_
  intro W base args ds gs before hval0 hW hcnd _
  have hval : ∀ (j : Nat) t v, Try.f8.params[j]? = some t → args[j]? = some v → Value.okWide Try.prog W .any base t v := hval0
  have hW' := hW
  obtain ⟨p, q, hA0, hV, rfl, hfz, hnd⟩ := hW
  have hA : DataW.TrodAll enc Try.prog W 0 (fun _ => true) true Try.f8.params.toList args.toList ds p := hA0
  rw [Try.params8] at hA hval
  obtain ⟨v0, vs0, d0, ds0, p0, q0, hargs, rfl, rfl, h0, r0⟩ := trodAll_cons hA
  obtain ⟨v1, vs1, d1, ds1, p1, q1, rfl, rfl, rfl, h1, r1⟩ := trodAll_cons r0
  obtain ⟨v2, vs2, d2, ds2, p2, q2, rfl, rfl, rfl, h2, r2⟩ := trodAll_cons r1
  obtain ⟨v3, vs3, d3, ds3, p3, q3, rfl, rfl, rfl, h3, r3⟩ := trodAll_cons r2
  obtain ⟨v4, vs4, d4, ds4, p4, q4, rfl, rfl, rfl, h4, r4⟩ := trodAll_cons r3
  obtain ⟨rfl, rfl, rfl⟩ := trodAll_nil r4
  obtain rfl : args = #[v0, v1, v2, v3, v4] := by cases args; simp_all
  obtain ⟨rfl, rfl⟩ := trodVars_none hV
  have k0 := h0
  have lt0 : ∀ x ∈ p0, x.block < W.heap.size := by obtain ⟨m, hm⟩ := k0; exact DataW.trod_lt m _ _ _ hm
  obtain ⟨c0, rfl, hcs0⟩ := okWide_struct Try.underlying26 (hval 0 26 v0 rfl rfl)
  obtain ⟨x0, A0, cap0, hc0, hI0, hfr0, hgw0, hlw0, hpw0⟩ : ∃ (m : Atl) (A : Option Addr) (cap : Nat), c0.toList = m.cells (.slice A m.sp.length cap) ∧ MapIn W A cap m ∧ (∀ s ∈ m.sp, s.fr.size ≤ 9223372036854775807) ∧ (Lit.int .i64 m.groups).wf = true ∧ (Lit.int .i64 m.last).wf = true ∧ (∀ q, q ∈ [m.plan.kind, m.plan.phase, m.plan.shard, m.plan.other, m.plan.group, m.plan.past, m.plan.epoch] → (Lit.int .i64 q).wf = true) := by
    obtain ⟨fuel, hf⟩ := h0
    have hz : Try.prog.cellsOf 26 = 11 := by kernel_rfl
    exact map_of (by simpa using hcs0.trans hz) hf
  obtain rfl : c0 = (x0.cells (.slice A0 x0.sp.length cap0)).toArray := by rw [← hc0]
  have k1 := h1
  have lt1 : ∀ x ∈ p1, x.block < W.heap.size := by obtain ⟨m, hm⟩ := k1; exact DataW.trod_lt m _ _ _ hm
  obtain ⟨c1, rfl, hcs1⟩ := okWide_struct Try.underlying26 (hval 1 26 v1 rfl rfl)
  obtain ⟨x1, A1, cap1, hc1, hI1, hfr1, hgw1, hlw1, hpw1⟩ : ∃ (m : Atl) (A : Option Addr) (cap : Nat), c1.toList = m.cells (.slice A m.sp.length cap) ∧ MapIn W A cap m ∧ (∀ s ∈ m.sp, s.fr.size ≤ 9223372036854775807) ∧ (Lit.int .i64 m.groups).wf = true ∧ (Lit.int .i64 m.last).wf = true ∧ (∀ q, q ∈ [m.plan.kind, m.plan.phase, m.plan.shard, m.plan.other, m.plan.group, m.plan.past, m.plan.epoch] → (Lit.int .i64 q).wf = true) := by
    obtain ⟨fuel, hf⟩ := h1
    have hz : Try.prog.cellsOf 26 = 11 := by kernel_rfl
    exact map_of (by simpa using hcs1.trans hz) hf
  obtain rfl : c1 = (x1.cells (.slice A1 x1.sp.length cap1)).toArray := by rw [← hc1]
  obtain ⟨n2, rfl, rfl, rfl, wf2⟩ := open_int Try.underlying3 (hval 2 3 v2 rfl rfl) h2
  obtain ⟨s3, rfl, rfl, rfl, hs3⟩ := open_string Try.underlying9 (hval 3 9 v3 rfl rfl) h3
  obtain ⟨n4, rfl, rfl, rfl, wf4⟩ := open_int Try.underlying3 (hval 4 3 v4 rfl rfl) h4
  clear hA0 hval0
  refine (rfinds_any W A0 A1 cap0 cap1 x0 x1 n2 n4 s3 hI0 hI1 (by unfold maxLen at hs3; exact hs3) wf4 wf2).mono fun e W' ⟨he, bel⟩ => ?_
  subst he
  exact ⟨_, rfl, _, _, _, [], _, [], hW', trodAll_mk1 (shut_bool Try.underlying4 _), (trodAll_cons_mk (Below.trod laidOut (by kernel_rfl) (of_decide_eq_true (by kernel_rfl)) k0 bel lt0) (trodAll_cons_mk (Below.trod laidOut (by kernel_rfl) (of_decide_eq_true (by kernel_rfl)) k1 bel lt1) (trodAll_cons_mk (shut_int Try.underlying3 wf2) (trodAll_cons_mk (shut_string Try.underlying9 hs3) (trodAll_cons_mk (shut_int Try.underlying3 wf4) trodAll_mk0))))), rfl, bel.frame _, fun h => by cases h⟩

theorem route_finds_holds : Rows.RouteFindsSaid :=
  OpenClaim.holds_of_wide 8 Try.f8 rfl rfl rfl rfl rfl rfl rfl ⟨rfl, rfl, rfl, rfl, rfl⟩ rfl rfl rfl rfl rfl (by kernel_rfl) Try.func8 (by kernel_rfl)
    (of_decide_eq_true (by kernel_rfl)) (by unfold Func.isWrapper; first | (rw [if_pos (by decide +kernel)]; kernel_rfl) | (rw [if_neg (by decide +kernel)]; exact ⟨rfl, rfl⟩))
    (fun os started H enc _ => route_finds_holds_lifted os started H enc)
end Go.Proofs.Ytimondpollbdfaa
