/- What is proved: how a way, a reply and a list of replies that come in as arguments are opened. Condition: the form's own reach. -/
import Derived.Test.YtimondpollbdfaaOpen
import Derived.SizedLaws
import Derived.Test.YtimondpollbdfaaHeardSum
set_option linter.unusedVariables false
set_option linter.unusedSimpArgs false
namespace Go.Proofs.Ytimondpollbdfaa
open Go.ChangeShapes Go.WideShapes Go.ChangeAt Go.RowKit Go.Deep

theorem weightsAll_mem {H : Type} {P : Program} {e : TypeId} : ∀ {l : List (DataW H)} {d : DataW H}, d ∈ l → ∀ n ∈ d.weights P e, n ∈ DataW.weightsAll P e l
  | d' :: r, d, hd, n, hn => by
    simp only [DataW.weightsAll, List.mem_append]
    rcases List.mem_cons.1 hd with rfl | h
    · exact Or.inl hn
    · exact Or.inr (weightsAll_mem h n hn)
/-- Each slice and each string in a datum takes at most the reach. -/
def Reached {H : Type} (P : Program) (t : TypeId) (d : DataW H) : Prop := ∀ k ∈ d.weights P t, k ≤ reachBytes
theorem reached_arg {H : Type} {P : Program} {ts : List TypeId} {ds : List (DataW H)} (h : (DataW.weightsEach P ts ds).all (· ≤ reachBytes) = true) {j : Nat} {t : TypeId} {d : DataW H} (ht : ts[j]? = some t) (hd : ds[j]? = some d) : Reached P t d :=
  fun k hk => of_decide_eq_true (List.all_eq_true.1 h k (DataW.weights_mem_each ht hd k hk))
section
variable {H : Type} {enc : TypeId × Value → H} {P : Program} {w : World} {base : Nat} {spare : Nat → Bool} {held : Bool}
theorem reached_part {t : TypeId} {fs : Array Field} {xs : List (DataW H × List MemPlace)} (ht : P.underlying t = some (.struct fs)) (h : Reached P t (.agg (xs.map (·.1)))) {i : Nat} {f : Field} {y : DataW H × List MemPlace} (hf : fs[i]? = some f) (hy : xs[i]? = some y) : Reached P f.type y.1 := by
  intro k hk
  refine h k ?_
  simp only [DataW.weights, ht]
  exact DataW.weights_mem_each (j := i) (t := f.type) (by simp [hf]) (by simp [hy]) k hk
theorem open_rowAtR {t e : TypeId} {fuel : Nat} {A : Option Addr} {len cap size bytes : Nat} {x : DataW H × List MemPlace} (ht : P.underlying t = some (.slice e)) (hC : P.cellsOf e = size) (hsz : 0 < size) (hby : P.bytesOf e = bytes)
    (h : DataW.trod enc P w base spare held fuel t [.slice A len cap] = some x) (hr : Reached P t x.1) :
    ∃ cs : List (List Value), cs.length = len ∧ RowAt w w.heap.size size A cs ∧ len ≤ cap ∧ cap ≤ maxLen ∧ len * bytes ≤ 140737488351232 ∧
      ∀ c ∈ cs, c.length = size ∧ ∃ n y, DataW.trod enc P w base spare held n e c = some y ∧ Reached P e y.1 := by
  rcases open_slice ht h with ⟨h0, _⟩ | ⟨a, len', cap', m, n, D, Pl, h0, _, hl, hm, hmm, hxd, hx⟩
  · simp at h0
    obtain ⟨rfl, rfl, rfl⟩ := h0
    exact ⟨[], rfl, rowAt_nil _ _ _ _, Nat.le_refl _, Nat.zero_le _, by omega, by simp⟩
  · simp at h0
    obtain ⟨rfl, rfl, rfl⟩ := h0
    have hle : len ≤ m := by rw [hmm]; split <;> omega
    have hw : (len + (m - len)) * bytes ≤ reachBytes := by
      refine hr _ ?_
      rw [hxd]
      simp [DataW.weights, ht, hby]
    have hin : ∀ i, i < len → Reached P e (D i) := fun i hi k hk => by
      refine hr k ?_
      rw [hxd]
      simp only [DataW.weights, ht, List.mem_cons, List.mem_append]
      exact Or.inr (Or.inl (weightsAll_mem (List.mem_map_of_mem (List.mem_range.2 hi)) k hk))
    rw [hC] at hx
    obtain ⟨cs, hcl, hcs⟩ := choose_list (p := fun i c => w.cells? base (a.add (i * size)) size = some c ∧ DataW.trod enc P w base spare held n e c = some (D i, Pl i)) len (fun i hi => hx i (by omega))
    refine ⟨cs, hcl, ?_, hl, hm, ?_, fun c hc => ?_⟩
    · intro i c hc
      have hi : i < cs.length := (List.getElem?_eq_some_iff.1 hc).1
      obtain ⟨c0, hc0, hlen0, hat0⟩ : ∃ c0, cs[0]? = some c0 ∧ c0.length = size ∧ ∀ j, j < size → w.cell? ((a.add (0 * size)).add j) = c0[j]? := by
        refine ⟨cs[0]'(by omega), List.getElem?_eq_getElem (by omega), ?_⟩
        obtain ⟨h1, _⟩ := hcs 0 _ (List.getElem?_eq_getElem (by omega))
        obtain ⟨_, h2, h3⟩ := World.cells?_some h1
        exact ⟨h2, h3⟩
      have hz := hat0 0 hsz
      rw [Nat.zero_mul] at hz
      have ha0 : a.add 0 = a := by simp [Addr.add]
      rw [ha0, ha0] at hz
      obtain ⟨u0, hu0⟩ : ∃ u, c0[0]? = some u := ⟨c0[0]'(by omega), List.getElem?_eq_getElem (by omega)⟩
      rw [hu0] at hz
      obtain ⟨b, off, spot⟩ := a
      have hspot : spot = none := by simpa using World.cell?_spot hz
      subst hspot
      have hb : b < w.heap.size := World.block_lt_of_cell? w _ hz
      refine ⟨b, off, rfl, hb, fun j u hu => ?_⟩
      obtain ⟨h1, _⟩ := hcs i c hc
      obtain ⟨_, h2, h3⟩ := World.cells?_some h1
      have hj : j < size := by rw [← h2]; exact (List.getElem?_eq_some_iff.1 hu).1
      have := h3 j hj
      rw [addr_add, addr_add, hu] at this
      exact this
    · have := Nat.mul_le_mul_right bytes (show len ≤ len + (m - len) by omega)
      unfold reachBytes at hw
      omega
    · obtain ⟨i, hi, rfl⟩ := List.getElem_of_mem hc
      obtain ⟨h1, h2⟩ := hcs i _ (List.getElem?_eq_getElem hi)
      obtain ⟨_, h3, _⟩ := World.cells?_some h1
      exact ⟨h3, n, _, h2, hin i (by omega)⟩
end
end Go.Proofs.Ytimondpollbdfaa
namespace Go.Proofs.Ytimondpollbdfaa
open Go.ChangeShapes Go.WideShapes Go.ChangeAt Go.RowKit Go.Deep

section
variable {H : Type} {enc : TypeId × Value → H} {w : World} {base : Nat} {spare : Nat → Bool} {held : Bool}
theorem int_of {t : TypeId} {n : Nat} {c : Value} {y : Option (DataW H × List MemPlace)} (ht : Try.prog.underlying t = some (.int .i64)) {x : DataW H × List MemPlace} (h : DataW.trod enc Try.prog w base spare held n t [c] = y) (hy : y = some x) : ∃ q, c = .int .i64 q ∧ (Lit.int .i64 q).wf = true := by
  subst hy
  obtain ⟨q, e, _, hw⟩ := DataW.trod_int ht h
  exact ⟨q, by injection e, hw⟩
theorem str_of {n : Nat} {c : Value} {y : Option (DataW H × List MemPlace)} {x : DataW H × List MemPlace} (h : DataW.trod enc Try.prog w base spare held n 9 [c] = y) (hy : y = some x) : ∃ q, c = .string q ∧ q.size ≤ 9223372036854775807 := by
  subst hy
  obtain ⟨q, e, _, hs⟩ := DataW.trod_string Try.underlying9 h
  exact ⟨q, by injection e, by unfold maxLen at hs; exact hs⟩
theorem bool_of {n : Nat} {c : Value} {y : Option (DataW H × List MemPlace)} {x : DataW H × List MemPlace} (h : DataW.trod enc Try.prog w base spare held n 4 [c] = y) (hy : y = some x) : ∃ q, c = .bool q := by
  subst hy
  obtain ⟨q, e, _⟩ := DataW.trod_bool Try.underlying4 h
  exact ⟨q, by injection e⟩
theorem span_of {n : Nat} {c : List Value} {y : DataW H × List MemPlace} (hl : c.length = 5) (h : DataW.trod enc Try.prog w base spare held n 50 c = some y) : ∃ d : Span, c = d.cells ∧ d.fr.size ≤ 9223372036854775807 ∧ d.to.size ≤ 9223372036854775807 := by
  obtain ⟨xs, m, _, _, _, hxl, hf⟩ := DataW.trod_struct Try.underlying50 h
  match c, hl with
  | [c0, c1, c2, c3, c4], _ =>
    match xs, hxl with
    | [x0, x1, x2, x3, x4], _ =>
      obtain ⟨q0, rfl, h0⟩ := str_of (hf 0 _ rfl) rfl
      obtain ⟨q1, rfl, h1⟩ := str_of (hf 1 _ rfl) rfl
      obtain ⟨q2, rfl, _⟩ := int_of Try.underlying3 (hf 2 _ rfl) rfl
      obtain ⟨q3, rfl, _⟩ := int_of Try.underlying2 (hf 3 _ rfl) rfl
      obtain ⟨q4, rfl, _⟩ := int_of Try.underlying3 (hf 4 _ rfl) rfl
      exact ⟨⟨q0, q1, q2, q3, q4⟩, rfl, h0, h1⟩
theorem job_of {n : Nat} {c : List Value} {y : DataW H × List MemPlace} (hl : c.length = 8) (h : DataW.trod enc Try.prog w base spare held n 88 c = some y) : ∃ d : JobD, c = d.cells := by
  obtain ⟨xs, m, _, _, _, hxl, hf⟩ := DataW.trod_struct Try.underlying88 h
  match c, hl with
  | [c0, c1, c2, c3, c4, c5, c6, c7], _ =>
    match xs, hxl with
    | [x0, x1, x2, x3, x4, x5, x6, x7], _ =>
      obtain ⟨q0, rfl, _⟩ := str_of (hf 0 _ rfl) rfl
      obtain ⟨q1, rfl, _⟩ := str_of (hf 1 _ rfl) rfl
      obtain ⟨q2, rfl, _⟩ := str_of (hf 2 _ rfl) rfl
      obtain ⟨q3, rfl, _⟩ := str_of (hf 3 _ rfl) rfl
      obtain ⟨q4, rfl, _⟩ := int_of Try.underlying3 (hf 4 _ rfl) rfl
      obtain ⟨q5, rfl, _⟩ := int_of Try.underlying2 (hf 5 _ rfl) rfl
      obtain ⟨q6, rfl⟩ := bool_of (hf 6 _ rfl) rfl
      obtain ⟨q7, rfl, _⟩ := int_of Try.underlying2 (hf 7 _ rfl) rfl
      exact ⟨⟨q0, q1, q2, q3, q4, q5, q6, q7⟩, rfl⟩
/-- The cells of a plan. -/
def Plan.cells (p : Plan) : List Value := [.int .i64 p.kind, .int .i64 p.phase, .int .i64 p.shard, .int .i64 p.other, .int .i64 p.group, .int .i64 p.past, .int .i64 p.epoch, .string p.key]
theorem plan_of {n : Nat} {c : List Value} {y : DataW H × List MemPlace} (hl : c.length = 8) (h : DataW.trod enc Try.prog w base spare held n 24 c = some y) : ∃ d : Plan, c = d.cells ∧ d.key.size ≤ 9223372036854775807 ∧ (∀ q, q ∈ [d.kind, d.phase, d.shard, d.other, d.group, d.past, d.epoch] → (Lit.int .i64 q).wf = true) := by
  obtain ⟨xs, m, _, _, _, hxl, hf⟩ := DataW.trod_struct Try.underlying24 h
  match c, hl with
  | [c0, c1, c2, c3, c4, c5, c6, c7], _ =>
    match xs, hxl with
    | [x0, x1, x2, x3, x4, x5, x6, x7], _ =>
      obtain ⟨q0, rfl, k0⟩ := int_of Try.underlying3 (hf 0 _ rfl) rfl
      obtain ⟨q1, rfl, k1⟩ := int_of Try.underlying3 (hf 1 _ rfl) rfl
      obtain ⟨q2, rfl, k2⟩ := int_of Try.underlying3 (hf 2 _ rfl) rfl
      obtain ⟨q3, rfl, k3⟩ := int_of Try.underlying3 (hf 3 _ rfl) rfl
      obtain ⟨q4, rfl, k4⟩ := int_of Try.underlying3 (hf 4 _ rfl) rfl
      obtain ⟨q5, rfl, k5⟩ := int_of Try.underlying3 (hf 5 _ rfl) rfl
      obtain ⟨q6, rfl, k6⟩ := int_of Try.underlying2 (hf 6 _ rfl) rfl
      obtain ⟨q7, rfl, k7⟩ := str_of (hf 7 _ rfl) rfl
      refine ⟨⟨q0, q1, q2, q3, q4, q5, q6, q7⟩, rfl, k7, fun q hq => ?_⟩
      simp only [List.mem_cons, List.not_mem_nil, or_false] at hq
      rcases hq with rfl | rfl | rfl | rfl | rfl | rfl | rfl <;> assumption
/-- The cells of a map; v is the slice of its spans. -/
def Atl.cells (a : Atl) (v : Value) : List Value := .int .i64 a.groups :: .int .i64 a.last :: v :: a.plan.cells
theorem map_of {n : Nat} {c : List Value} {y : DataW H × List MemPlace} (hl : c.length = 11) (h : DataW.trod enc Try.prog w base spare held n 26 c = some y) : ∃ (m : Atl) (A : Option Addr) (cap : Nat), c = m.cells (.slice A m.sp.length cap) ∧ MapIn w A cap m ∧ (∀ s ∈ m.sp, s.fr.size ≤ 9223372036854775807) ∧ (Lit.int .i64 m.groups).wf = true ∧ (Lit.int .i64 m.last).wf = true ∧ (∀ q, q ∈ [m.plan.kind, m.plan.phase, m.plan.shard, m.plan.other, m.plan.group, m.plan.past, m.plan.epoch] → (Lit.int .i64 q).wf = true) := by
  obtain ⟨xs, f, _, _, _, hxl, hf⟩ := DataW.trod_struct Try.underlying26 h
  match c, hl with
  | [c0, c1, c2, c3, c4, c5, c6, c7, c8, c9, c10], _ =>
    match xs, hxl with
    | [x0, x1, x2, x3], _ =>
      obtain ⟨q0, rfl, k0⟩ := int_of Try.underlying3 (hf 0 _ rfl) rfl
      obtain ⟨q1, rfl, k1⟩ := int_of Try.underlying3 (hf 1 _ rfl) rfl
      have f2 : DataW.trod enc Try.prog w base spare held f 22 [c2] = some x2 := hf 2 _ rfl
      have f3 : DataW.trod enc Try.prog w base spare held f 24 [c3, c4, c5, c6, c7, c8, c9, c10] = some x3 := hf 3 _ rfl
      obtain ⟨p, hp, hk, hw⟩ := plan_of rfl f3
      obtain ⟨A, len, cap, rfl⟩ : ∃ A len cap, c2 = .slice A len cap := by
        rcases open_slice Try.underlying22 f2 with ⟨h0, _⟩ | ⟨a, l, cp, m, n, D, Pl, h0, _⟩
        · exact ⟨none, 0, 0, by injection h0⟩
        · exact ⟨some a, l, cp, by injection h0⟩
      obtain ⟨cs, hcl, hr, hle, hm, _, hc⟩ := open_rowAt Try.underlying22 (size := 5) (by kernel_rfl) (by omega) f2
      obtain ⟨sp, rfl, hd⟩ := list_of (f := Span.cells) (Q := fun d => d.fr.size ≤ 9223372036854775807 ∧ d.to.size ≤ 9223372036854775807) cs (fun c hcs => by
        obtain ⟨h5, n, y, hy⟩ := hc c hcs
        exact span_of h5 hy)
      have hsl : sp.length = len := by simpa using hcl
      subst hsl
      refine ⟨⟨q0, q1, sp, p⟩, A, cap, ?_, ⟨hr, hle, by unfold maxLen at hm; exact hm, fun s hs => (hd s hs).2, hk⟩, fun s hs => (hd s hs).1, k0, k1, hw⟩
      show _ = Value.int .i64 q0 :: Value.int .i64 q1 :: Value.slice A sp.length cap :: p.cells
      rw [← hp]
/-- The cells of a way; v: the slice of its map's spans, j: of its result's jobs. -/
def Rte.cells (r : Rte) (v j : Value) : List Value := .int .i64 r.nodes :: .string r.name :: (r.map.cells v ++ [.bool r.fetch, .int .i64 r.node, .int .i64 r.left, .bool r.done, .int .i64 r.err, .int .i64 r.time, j])
theorem jobs_of {n : Nat} {c : Value} {y : DataW H × List MemPlace} (h : DataW.trod enc Try.prog w base spare held n 35 [c] = some y) : ∃ (l : List JobD) (J : Option Addr) (jc : Nat), c = .slice J l.length jc ∧ RowAt w w.heap.size 8 J (l.map JobD.cells) ∧ l.length ≤ jc ∧ jc ≤ 9223372036854775807 := by
  obtain ⟨A, len, cap, rfl⟩ : ∃ A len cap, c = .slice A len cap := by
    rcases open_slice Try.underlying35 h with ⟨h0, _⟩ | ⟨a, l, cp, m, n, D, Pl, h0, _⟩
    · exact ⟨none, 0, 0, by injection h0⟩
    · exact ⟨some a, l, cp, by injection h0⟩
  obtain ⟨cs, hcl, hr, hle, hm, _, hc⟩ := open_rowAt Try.underlying35 (size := 8) (by kernel_rfl) (by omega) h
  obtain ⟨l, rfl, _⟩ := list_of (f := JobD.cells) (Q := fun _ => True) cs (fun c hcs => by
    obtain ⟨h5, n, y, hy⟩ := hc c hcs
    obtain ⟨d, hd⟩ := job_of h5 hy
    exact ⟨d, hd, trivial⟩)
  have hsl : l.length = len := by simpa using hcl
  subst hsl
  exact ⟨l, A, cap, rfl, hr, hle, by unfold maxLen at hm; exact hm⟩
set_option maxRecDepth 100000 in
theorem rte_of {n : Nat} {c : List Value} {y : DataW H × List MemPlace} (hl : c.length = 20) (h : DataW.trod enc Try.prog w base spare held n 39 c = some y) : ∃ (r : Rte) (A J : Option Addr) (cap jc : Nat) (l : List JobD), c = r.cells (.slice A r.map.sp.length cap) (.slice J l.length jc) ∧ MapIn w A cap r.map ∧ (∀ s ∈ r.map.sp, s.fr.size ≤ 9223372036854775807) ∧ r.name.size ≤ 9223372036854775807 ∧ RowAt w w.heap.size 8 J (l.map JobD.cells) ∧ l.length ≤ jc ∧ jc ≤ 9223372036854775807 := by
  obtain ⟨xs, f, _, _, _, hxl, hf⟩ := DataW.trod_struct Try.underlying39 h
  match c, hl with
  | [c0, c1, c2, c3, c4, c5, c6, c7, c8, c9, c10, c11, c12, c13, c14, c15, c16, c17, c18, c19], _ =>
    match xs, hxl with
    | [x0, x1, x2, x3, x4, x5, x6, x7], _ =>
      obtain ⟨q0, rfl, _⟩ := int_of Try.underlying3 (hf 0 _ rfl) rfl
      obtain ⟨q1, rfl, hn⟩ := str_of (hf 1 _ rfl) rfl
      obtain ⟨q3, rfl⟩ := bool_of (hf 3 _ rfl) rfl
      obtain ⟨q4, rfl, _⟩ := int_of Try.underlying3 (hf 4 _ rfl) rfl
      obtain ⟨q5, rfl, _⟩ := int_of Try.underlying3 (hf 5 _ rfl) rfl
      obtain ⟨q6, rfl⟩ := bool_of (hf 6 _ rfl) rfl
      have f2 : DataW.trod enc Try.prog w base spare held f 26 [c2, c3, c4, c5, c6, c7, c8, c9, c10, c11, c12] = some x2 := hf 2 _ rfl
      have f7 : DataW.trod enc Try.prog w base spare held f 37 [c17, c18, c19] = some x7 := hf 7 _ rfl
      obtain ⟨m, A, cap, hm, hI, hfr, _⟩ := map_of rfl f2
      obtain ⟨ys, g, _, _, _, hyl, hg⟩ := DataW.trod_struct Try.underlying37 f7
      match ys, hyl with
      | [y0, y1, y2], _ =>
        obtain ⟨z0, rfl, _⟩ := int_of Try.underlying28 (hg 0 _ rfl) rfl
        obtain ⟨z1, rfl, _⟩ := int_of Try.underlying2 (hg 1 _ rfl) rfl
        obtain ⟨l, J, jc, rfl, hj, hle, hmx⟩ := jobs_of (hg 2 _ rfl)
        refine ⟨⟨q0, q1, m, q3, q4, q5, q6, z0, z1⟩, A, J, cap, jc, l, ?_, hI, hfr, hn, hj, hle, hmx⟩
        show _ = Value.int .i64 q0 :: Value.string q1 :: (m.cells (.slice A m.sp.length cap) ++ [.bool q3, .int .i64 q4, .int .i64 q5, .bool q6, .int .i64 z0, .int .i64 z1, .slice J l.length jc])
        rw [← hm]
        rfl
end
theorem own : ownKnob Try.prog.godebug = none := by kernel_rfl
theorem laidOut : laidOutB Try.prog = true := by kernel_rfl
end Go.Proofs.Ytimondpollbdfaa
namespace Go.Proofs.Ytimondpollbdfaa
open Go.ChangeShapes Go.WideShapes Go.ChangeAt Go.RowKit Go.Deep

section
variable {H : Type} {enc : TypeId × Value → H} {w : World} {base : Nat} {spare : Nat → Bool} {held : Bool}
theorem slice_of {t e : TypeId} {n : Nat} {c : Value} {x : DataW H × List MemPlace} (ht : Try.prog.underlying t = some (.slice e)) (h : DataW.trod enc Try.prog w base spare held n t [c] = some x) : ∃ A len cap, c = .slice A len cap := by
  rcases open_slice ht h with ⟨h0, _⟩ | ⟨a, l, cp, m, n, D, Pl, h0, _⟩
  · exact ⟨none, 0, 0, by injection h0⟩
  · exact ⟨some a, l, cp, by injection h0⟩
theorem map_ofR {n : Nat} {c : List Value} {y : DataW H × List MemPlace} (hl : c.length = 11) (h : DataW.trod enc Try.prog w base spare held n 26 c = some y) (hR : Reached Try.prog 26 y.1) : ∃ (m : Atl) (A : Option Addr) (cap : Nat), c = m.cells (.slice A m.sp.length cap) ∧ MapIn w A cap m ∧ m.sp.length * 56 ≤ 140737488355328 := by
  obtain ⟨xs, f, _, rfl, _, hxl, hf⟩ := DataW.trod_struct Try.underlying26 h
  match c, hl with
  | [c0, c1, c2, c3, c4, c5, c6, c7, c8, c9, c10], _ =>
    match xs, hxl with
    | [x0, x1, x2, x3], _ =>
      obtain ⟨q0, rfl, k0⟩ := int_of Try.underlying3 (hf 0 _ rfl) rfl
      obtain ⟨q1, rfl, k1⟩ := int_of Try.underlying3 (hf 1 _ rfl) rfl
      have f2 : DataW.trod enc Try.prog w base spare held f 22 [c2] = some x2 := hf 2 _ rfl
      have f3 : DataW.trod enc Try.prog w base spare held f 24 [c3, c4, c5, c6, c7, c8, c9, c10] = some x3 := hf 3 _ rfl
      have r2 : Reached Try.prog 22 x2.1 := reached_part Try.underlying26 hR (i := 2) rfl rfl
      obtain ⟨p, hp, hk, hw⟩ := plan_of rfl f3
      obtain ⟨A, len, cap, rfl⟩ := slice_of Try.underlying22 f2
      obtain ⟨cs, hcl, hr, hle, hm, hby, hc⟩ := open_rowAtR Try.underlying22 (size := 5) (bytes := 56) (by kernel_rfl) (by omega) (by kernel_rfl) f2 r2
      obtain ⟨sp, rfl, hd⟩ := list_of (f := Span.cells) (Q := fun d => d.fr.size ≤ 9223372036854775807 ∧ d.to.size ≤ 9223372036854775807) cs (fun c hcs => by
        obtain ⟨h5, n, y, hy, _⟩ := hc c hcs
        exact span_of h5 hy)
      have hsl : sp.length = len := by simpa using hcl
      subst hsl
      refine ⟨⟨q0, q1, sp, p⟩, A, cap, ?_, ⟨hr, hle, by unfold maxLen at hm; exact hm, fun s hs => (hd s hs).2, hk⟩, by show sp.length * 56 ≤ _; omega⟩
      show _ = Value.int .i64 q0 :: Value.int .i64 q1 :: Value.slice A sp.length cap :: p.cells
      rw [← hp]
theorem jobs_ofR {n : Nat} {c : Value} {y : DataW H × List MemPlace} (h : DataW.trod enc Try.prog w base spare held n 35 [c] = some y) (hR : Reached Try.prog 35 y.1) : ∃ (l : List JobD) (J : Option Addr) (jc : Nat), c = .slice J l.length jc ∧ RowAt w w.heap.size 8 J (l.map JobD.cells) ∧ l.length ≤ jc ∧ jc ≤ 9223372036854775807 ∧ l.length * 96 ≤ 140737488355328 := by
  obtain ⟨A, len, cap, rfl⟩ := slice_of Try.underlying35 h
  obtain ⟨cs, hcl, hr, hle, hm, hby, hc⟩ := open_rowAtR Try.underlying35 (size := 8) (bytes := 96) (by kernel_rfl) (by omega) (by kernel_rfl) h hR
  obtain ⟨l, rfl, _⟩ := list_of (f := JobD.cells) (Q := fun _ => True) cs (fun c hcs => by
    obtain ⟨h5, n, y, hy, _⟩ := hc c hcs
    obtain ⟨d, hd⟩ := job_of h5 hy
    exact ⟨d, hd, trivial⟩)
  have hsl : l.length = len := by simpa using hcl
  subst hsl
  exact ⟨l, A, cap, rfl, hr, hle, by unfold maxLen at hm; exact hm, by omega⟩
theorem res_ofR {n : Nat} {c17 c18 c19 : Value} {y : DataW H × List MemPlace} (h : DataW.trod enc Try.prog w base spare held n 37 [c17, c18, c19] = some y) (hR : Reached Try.prog 37 y.1) : ∃ (e t : Int) (l : List JobD) (J : Option Addr) (jc : Nat), c17 = .int .i64 e ∧ c18 = .int .i64 t ∧ c19 = .slice J l.length jc ∧ RowAt w w.heap.size 8 J (l.map JobD.cells) ∧ l.length ≤ jc ∧ jc ≤ 9223372036854775807 ∧ l.length * 96 ≤ 140737488355328 := by
  obtain ⟨ys, g, _, rfl, _, hyl, hg⟩ := DataW.trod_struct Try.underlying37 h
  match ys, hyl with
  | [y0, y1, y2], _ =>
    obtain ⟨z0, rfl, _⟩ := int_of Try.underlying28 (hg 0 _ rfl) rfl
    obtain ⟨z1, rfl, _⟩ := int_of Try.underlying2 (hg 1 _ rfl) rfl
    have g2 : DataW.trod enc Try.prog w base spare held g 35 [c19] = some y2 := hg 2 _ rfl
    have r2 : Reached Try.prog 35 y2.1 := reached_part Try.underlying37 hR (i := 2) rfl rfl
    obtain ⟨l, J, jc, rfl, h1, h2, h3, h4⟩ := jobs_ofR g2 r2
    exact ⟨z0, z1, l, J, jc, rfl, rfl, rfl, h1, h2, h3, h4⟩
set_option maxRecDepth 100000 in
theorem way_of {n : Nat} {c : List Value} {y : DataW H × List MemPlace} (hl : c.length = 20) (h : DataW.trod enc Try.prog w base spare held n 39 c = some y) (hR : Reached Try.prog 39 y.1) : ∃ (r : Rte) (A : Option Addr) (cap : Nat) (J : Option Addr) (jc : Nat) (l : List JobD), c = r.cells (.slice A r.map.sp.length cap) (.slice J l.length jc) ∧ WayIn w A cap J jc r l := by
  obtain ⟨xs, f, _, rfl, _, hxl, hf⟩ := DataW.trod_struct Try.underlying39 h
  match c, hl with
  | [c0, c1, c2, c3, c4, c5, c6, c7, c8, c9, c10, c11, c12, c13, c14, c15, c16, c17, c18, c19], _ =>
    match xs, hxl with
    | [x0, x1, x2, x3, x4, x5, x6, x7], _ =>
      obtain ⟨q0, rfl, _⟩ := int_of Try.underlying3 (hf 0 _ rfl) rfl
      obtain ⟨q1, rfl, hn⟩ := str_of (hf 1 _ rfl) rfl
      obtain ⟨q3, rfl⟩ := bool_of (hf 3 _ rfl) rfl
      obtain ⟨q4, rfl, _⟩ := int_of Try.underlying3 (hf 4 _ rfl) rfl
      obtain ⟨q5, rfl, _⟩ := int_of Try.underlying3 (hf 5 _ rfl) rfl
      obtain ⟨q6, rfl⟩ := bool_of (hf 6 _ rfl) rfl
      have f2 : DataW.trod enc Try.prog w base spare held f 26 [c2, c3, c4, c5, c6, c7, c8, c9, c10, c11, c12] = some x2 := hf 2 _ rfl
      have f7 : DataW.trod enc Try.prog w base spare held f 37 [c17, c18, c19] = some x7 := hf 7 _ rfl
      have r2 : Reached Try.prog 26 x2.1 := reached_part Try.underlying39 hR (i := 2) rfl rfl
      have r7 : Reached Try.prog 37 x7.1 := reached_part Try.underlying39 hR (i := 7) rfl rfl
      obtain ⟨m, A, cap, hm, hI, hs⟩ := map_ofR rfl f2 r2
      obtain ⟨z0, z1, l, J, jc, rfl, rfl, rfl, h1, h2, h3, h4⟩ := res_ofR f7 r7
      refine ⟨⟨q0, q1, m, q3, q4, q5, q6, z0, z1⟩, A, cap, J, jc, l, ?_, hI, hn, hs, h1, h2, h3, h4⟩
      show _ = Value.int .i64 q0 :: Value.string q1 :: (m.cells (.slice A m.sp.length cap) ++ [.bool q3, .int .i64 q4, .int .i64 q5, .bool q6, .int .i64 z0, .int .i64 z1, .slice J l.length jc])
      rw [← hm]
      rfl
/-- The cells of a reply; j: the slice of its result's jobs, v: of its map's spans. -/
def Rep.cells (p : Rep) (j v : Value) : List Value := .int .i64 p.kind :: .int .i64 p.hint :: .int .i64 p.err :: .int .i64 p.time :: j :: p.map.cells v
set_option maxRecDepth 100000 in
theorem rep_of {n : Nat} {c : List Value} {y : DataW H × List MemPlace} (hl : c.length = 16) (h : DataW.trod enc Try.prog w base spare held n 59 c = some y) (hR : Reached Try.prog 59 y.1) : ∃ (p : Rep) (K : Option Addr) (kc : Nat) (B : Option Addr) (bc : Nat) (l : List JobD), c = p.cells (.slice K l.length kc) (.slice B p.map.sp.length bc) ∧ RepIn w K kc B bc p l := by
  obtain ⟨xs, f, _, rfl, _, hxl, hf⟩ := DataW.trod_struct Try.underlying59 h
  match c, hl with
  | [c0, c1, c2, c3, c4, c5, c6, c7, c8, c9, c10, c11, c12, c13, c14, c15], _ =>
    match xs, hxl with
    | [x0, x1, x2, x3], _ =>
      obtain ⟨q0, rfl, _⟩ := int_of Try.underlying3 (hf 0 _ rfl) rfl
      obtain ⟨q1, rfl, _⟩ := int_of Try.underlying3 (hf 1 _ rfl) rfl
      have f2 : DataW.trod enc Try.prog w base spare held f 37 [c2, c3, c4] = some x2 := hf 2 _ rfl
      have f3 : DataW.trod enc Try.prog w base spare held f 26 [c5, c6, c7, c8, c9, c10, c11, c12, c13, c14, c15] = some x3 := hf 3 _ rfl
      have r2 : Reached Try.prog 37 x2.1 := reached_part Try.underlying59 hR (i := 2) rfl rfl
      have r3 : Reached Try.prog 26 x3.1 := reached_part Try.underlying59 hR (i := 3) rfl rfl
      obtain ⟨m, B, bc, hm, hI, hs⟩ := map_ofR rfl f3 r3
      obtain ⟨z0, z1, l, K, kc, rfl, rfl, rfl, h1, h2, h3, h4⟩ := res_ofR f2 r2
      refine ⟨⟨q0, q1, z0, z1, m⟩, K, kc, B, bc, l, ?_, hI, hs, h1, h2, h3, h4⟩
      show _ = Value.int .i64 q0 :: Value.int .i64 q1 :: Value.int .i64 z0 :: Value.int .i64 z1 :: Value.slice K l.length kc :: m.cells (.slice B m.sp.length bc)
      rw [← hm]
/-- A reply and where it lies. -/
structure RepD where
  p : Rep
  pl : List JobD
  K : Option Addr
  kc : Nat
  B : Option Addr
  bc : Nat
def RepD.jv (d : RepD) : Value := .slice d.K d.pl.length d.kc
def RepD.mv (d : RepD) : Value := .slice d.B d.p.map.sp.length d.bc
def RepD.cells (d : RepD) : List Value := d.p.cells d.jv d.mv
theorem open_reps {fuel : Nat} {A : Option Addr} {len cap : Nat} {x : DataW H × List MemPlace} (h : DataW.trod enc Try.prog w base spare held fuel 62 [.slice A len cap] = some x) (hR : Reached Try.prog 62 x.1) :
    ∃ ds : List RepD, ds.length = len ∧ RowAt w w.heap.size 16 A (ds.map RepD.cells) ∧ len ≤ 9223372036854775807 ∧ ∀ d ∈ ds, RepIn w d.K d.kc d.B d.bc d.p d.pl := by
  obtain ⟨cs, hl, hr, hle, hm, hby, hc⟩ := open_rowAtR Try.underlying62 (size := 16) (bytes := Try.prog.bytesOf 59) (by kernel_rfl) (by omega) rfl h hR
  obtain ⟨ds, rfl, hd⟩ := list_of (f := RepD.cells) (Q := fun d => RepIn w d.K d.kc d.B d.bc d.p d.pl) cs (fun c hcs => by
    obtain ⟨h4, n, y, hy, hry⟩ := hc c hcs
    obtain ⟨p, K, kc, B, bc, l, h1, h2⟩ := rep_of h4 hy hry
    exact ⟨⟨p, l, K, kc, B, bc⟩, h1, h2⟩)
  exact ⟨ds, by simpa using hl, hr, by unfold maxLen at hm; omega, hd⟩
end
end Go.Proofs.Ytimondpollbdfaa
