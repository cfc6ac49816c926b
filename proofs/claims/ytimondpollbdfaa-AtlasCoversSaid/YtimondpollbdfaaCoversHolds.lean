/- AtlasCovers answers true for every input, and each argument reads afterwards as it read before; no condition. -/
import Derived.Test.YtimondpollbdfaaRows
import Derived.Test.YtimondpollbdfaaOpenA
import Derived.Test.YtimondpollbdfaaCoversW
import Derived.ChangeMaps5
set_option linter.unusedVariables false
set_option linter.unusedSimpArgs false
namespace Go.Proofs.Ytimondpollbdfaa
open Go.ChangeShapes Go.WideShapes Go.ChangeAt Go.RowKit Go.Deep Go.ChangeMaps

section
variable {H : Type} {enc : TypeId × Value → H} {w : World} {base : Nat} {spare : Nat → Bool} {held : Bool}
set_option maxRecDepth 100000 in
theorem do_of {n : Nat} {c : List Value} {y : DataW H × List MemPlace} (hl : c.length = 10) (h : DataW.trod enc Try.prog w base spare held n 55 c = some y) : ∃ d : DoD, c = d.cells ∧ d.plan.key.size ≤ 9223372036854775807 := by
  obtain ⟨xs, f, _, _, _, hxl, hf⟩ := DataW.trod_struct Try.underlying55 h
  match c, hl with
  | [c0, c1, c2, c3, c4, c5, c6, c7, c8, c9], _ =>
    match xs, hxl with
    | [x0, x1, x2], _ =>
      obtain ⟨q0, rfl, _⟩ := int_of Try.underlying3 (hf 0 _ rfl) rfl
      have f1 : DataW.trod enc Try.prog w base spare held f 24 [c1, c2, c3, c4, c5, c6, c7, c8] = some x1 := hf 1 _ rfl
      obtain ⟨p, hp, hk, _⟩ := plan_of rfl f1
      obtain ⟨q2, rfl, _⟩ := int_of Try.underlying3 (hf 2 _ rfl) rfl
      refine ⟨⟨q0, p, q2⟩, ?_, hk⟩
      have : (Value.int .i64 q0 :: ([c1, c2, c3, c4, c5, c6, c7, c8] ++ [Value.int .i64 q2])) = Value.int .i64 q0 :: (p.cells ++ [Value.int .i64 q2]) := by rw [hp]
      exact this
theorem open_dos {fuel : Nat} {A : Option Addr} {len cap : Nat} {x : DataW H × List MemPlace} (h : DataW.trod enc Try.prog w base spare held fuel 47 [.slice A len cap] = some x) :
    ∃ dos : List DoD, dos.length = len ∧ RowAt w w.heap.size 10 A (dos.map DoD.cells) ∧ len ≤ 9223372036854775807 ∧ ∀ d ∈ dos, d.plan.key.size ≤ 9223372036854775807 := by
  obtain ⟨cs, hl, hr, hle, hm, _, hc⟩ := open_rowAt Try.underlying47 (size := 10) (by kernel_rfl) (by omega) h
  obtain ⟨dos, rfl, hd⟩ := list_of (f := DoD.cells) (Q := fun d => d.plan.key.size ≤ 9223372036854775807) cs (fun c hcs => by
    obtain ⟨h4, n, y, hy⟩ := hc c hcs
    exact do_of h4 hy)
  exact ⟨dos, by simpa using hl, hr, by unfold maxLen at hm; omega, hd⟩
end
theorem covers_law (w : World) (A : Option Addr) (cap : Nat) (a : Atl) (B : Option Addr) (bc : Nat) (ds : List DoD) (key : ByteArray) (h : MapIn w A cap a) (hrow : RowAt w w.heap.size 10 B (ds.map DoD.cells)) (hdk : ∀ d ∈ ds, d.plan.key.size ≤ 9223372036854775807) (hkey : key.size ≤ 9223372036854775807) :
    Calls Try.prog 5 #[a.val (.slice A a.sp.length cap), .slice B ds.length bc, .string key] w fun e w' => e = .returned (.bool true) ∧ Below w.heap.size w w' := by
  cases hm : tr (MapOk a)
  · exact covers_wrong w A cap a B bc ds key h hm
  · exact covers_right w A cap a B bc ds key h hrow hdk hkey hm

set_option maxRecDepth 100000 in
theorem atlas_covers_holds_lifted (os : Os) (started : os.Started) (H : Type) (enc : TypeId × Value → H) :
    ReturnsInHanded {} Try.checked os 5 .any (Rows.atlasCoversSpec.pre6 enc Try.prog Try.f5 Rows.atlasCoversRow.domain false) (Rows.atlasCoversSpec.post enc Try.prog Try.f5 false true false false) := by
  refine returnsInHanded_of_change (C := Try.checked) own started (by kernel_rfl) Try.func5
    (ChangeSpec.witness6 (enc := enc) (C := Try.checked) false ⟨#[], #[.agg #[.int .i64 0, .int .i64 0, .slice none 0 0, .int .i64 0, .int .i64 0, .int .i64 0, .int .i64 0, .int .i64 0, .int .i64 0, .int .i64 0, .string ⟨#[]⟩], .slice none 0 0, .string ⟨#[]⟩], []⟩ 8 (by kernel_rfl) (by kernel_rfl) (by kernel_rfl) (by kernel_rfl)) ?_
  intro W base args ds gs before hval0 hW hcnd _
  have hval : ∀ (j : Nat) t v, Try.f5.params[j]? = some t → args[j]? = some v → Value.okWide Try.prog W .any base t v := hval0
  have hW' := hW
  obtain ⟨p, q, hA0, hV, rfl, hfz, hnd⟩ := hW
  have hA : DataW.TrodAll enc Try.prog W 0 (fun _ => true) true Try.f5.params.toList args.toList ds p := hA0
  rw [Try.params5] at hA hval
  obtain ⟨v0, vs0, d0, ds0, p0, q0, hargs, rfl, rfl, h0, r0⟩ := trodAll_cons hA
  obtain ⟨v1, vs1, d1, ds1, p1, q1, rfl, rfl, rfl, h1, r1⟩ := trodAll_cons r0
  obtain ⟨v2, vs2, d2, ds2, p2, q2, rfl, rfl, rfl, h2, r2⟩ := trodAll_cons r1
  obtain ⟨rfl, rfl, rfl⟩ := trodAll_nil r2
  obtain rfl : args = #[v0, v1, v2] := by cases args; simp_all
  obtain ⟨rfl, rfl⟩ := trodVars_none hV
  have k0 := h0
  have lt0 : ∀ x ∈ p0, x.block < W.heap.size := by obtain ⟨m, hm⟩ := k0; exact DataW.trod_lt m _ _ _ hm
  obtain ⟨c0, rfl, hcs0⟩ := okWide_struct Try.underlying26 (hval 0 26 v0 rfl rfl)
  obtain ⟨x0, A0, cap0, hc0, hI0, hfr0, hgw0, hlw0, hpw0⟩ : ∃ (m : Atl) (A : Option Addr) (cap : Nat), c0.toList = m.cells (.slice A m.sp.length cap) ∧ MapIn W A cap m ∧ (∀ s ∈ m.sp, s.fr.size ≤ 9223372036854775807) ∧ (Lit.int .i64 m.groups).wf = true ∧ (Lit.int .i64 m.last).wf = true ∧ (∀ q, q ∈ [m.plan.kind, m.plan.phase, m.plan.shard, m.plan.other, m.plan.group, m.plan.past, m.plan.epoch] → (Lit.int .i64 q).wf = true) := by
    obtain ⟨fuel, hf⟩ := h0
    have hz : Try.prog.cellsOf 26 = 11 := by kernel_rfl
    exact map_of (by simpa using hcs0.trans hz) hf
  obtain rfl : c0 = (x0.cells (.slice A0 x0.sp.length cap0)).toArray := by rw [← hc0]
  obtain ⟨a1, len1, cap1, rfl⟩ := okWide_slice Try.underlying47 (hval 1 47 v1 rfl rfl)
  have k1 := h1
  have lt1 : ∀ x ∈ p1, x.block < W.heap.size := by obtain ⟨m, hm⟩ := k1; exact DataW.trod_lt m _ _ _ hm
  obtain ⟨x1, rfl, hrow1, hl1, hsz1⟩ : ∃ dos : List DoD, dos.length = len1 ∧ RowAt W W.heap.size 10 a1 (dos.map DoD.cells) ∧ len1 ≤ 9223372036854775807 ∧ ∀ d ∈ dos, d.plan.key.size ≤ 9223372036854775807 := by
    obtain ⟨fuel, hf⟩ := h1
    exact open_dos hf
  obtain ⟨s2, rfl, rfl, rfl, hs2⟩ := open_string Try.underlying9 (hval 2 9 v2 rfl rfl) h2
  clear hA0 hval0
  refine (covers_law W A0 cap0 x0 a1 cap1 x1 s2 hI0 hrow1 hsz1 (by unfold maxLen at hs2; exact hs2)).mono fun e W' ⟨he, bel⟩ => ?_
  subst he
  exact ⟨_, rfl, _, _, _, [], _, [], hW', trodAll_mk1 (shut_bool Try.underlying4 _), (trodAll_cons_mk (Below.trod laidOut (by kernel_rfl) (of_decide_eq_true (by kernel_rfl)) k0 bel lt0) (trodAll_cons_mk (Below.trod laidOut (by kernel_rfl) (of_decide_eq_true (by kernel_rfl)) k1 bel lt1) (trodAll_cons_mk (shut_string Try.underlying9 hs2) trodAll_mk0))), rfl, bel.frame _, fun h => by cases h⟩

theorem atlas_covers_holds : Rows.AtlasCoversSaid :=
  OpenClaim.holds_of_wide 5 Try.f5 rfl rfl rfl rfl rfl rfl rfl ⟨rfl, rfl, rfl, rfl, rfl⟩ rfl rfl rfl rfl rfl (by kernel_rfl) Try.func5 (by kernel_rfl)
    (of_decide_eq_true (by kernel_rfl)) (by unfold Func.isWrapper; first | (rw [if_pos (by decide +kernel)]; kernel_rfl) | (rw [if_neg (by decide +kernel)]; exact ⟨rfl, rfl⟩))
    (fun os started H enc _ => atlas_covers_holds_lifted os started H enc)
end Go.Proofs.Ytimondpollbdfaa
