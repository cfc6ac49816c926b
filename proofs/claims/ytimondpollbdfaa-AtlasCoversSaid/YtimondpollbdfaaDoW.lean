/- What is proved: what one step (a plan begins, a phase is done, a plan is given up) makes of a right map: the law's does. -/
import Derived.Test.YtimondpollbdfaaKeeps
set_option linter.unusedVariables false
set_option linter.unusedSimpArgs false
namespace Go.Proofs.Ytimondpollbdfaa
open Go.RowKit
attribute [local go_sem] Span.val Atl.val Plan.val

/-- What is known of a step: the map that comes out is right, its epochs grow; what is refused changes nothing. -/
def StepIs (a R : Atl) (n : Int) : Prop := MapOk R ∧ Grows a.sp R.sp ∧ (n = 0 ∨ ¬ n = 0 ∧ R = a)
theorem place_set' {l : List Span} (hd : (l.map Span.sh).Nodup) (k : Nat) (hk : k < l.length) (s s' : Span) (hs : l[k] = s) (h : s'.sh = s.sh) : place (l.set k s') s.sh = (k : Int) := by
  have hab := about l k hk
  rw [hs] at hab
  have hm : (l.set k s').map Span.sh = l.map Span.sh := by
    rw [set_parts l k s' hk, List.map_append, List.map_cons, h]
    conv => rhs; rw [hab, List.map_append, List.map_cons]
  have := place_at (hm ▸ hd : ((l.set k s').map Span.sh).Nodup) k (by rw [List.length_set]; exact hk)
  rw [List.getElem_set_self, h] at this
  exact this
theorem step_same {a : Atl} (hok : MapOk a) {n : Int} (hn : ¬ n = 0) : StepIs a a n := ⟨hok, grows_refl (mapOk_iff.1 hok).2.2.1.1, .inr ⟨hn, rfl⟩⟩
theorem begin_all (A : Option Addr) (cap : Nat) (a : Atl) (p : Plan) (hks : p.key.size ≤ 9223372036854775807) (hok : MapOk a) : ∃ R n, GivesMap 14 (fun v => #[v, p.val]) A cap a R n ∧ StepIs a R n := by
  rcases begin_gives A cap a p hks hok with ⟨n, hn, hg⟩ | ⟨R, hg, hR, hs, _⟩
  · exact ⟨a, n, hg, step_same hok hn⟩
  · exact ⟨R, 0, hg, hR, by rw [hs]; exact grows_refl (mapOk_iff.1 hok).2.2.1.1, .inl rfl⟩
theorem advance_all (A : Option Addr) (cap : Nat) (a : Atl) (ph : Int) (hok : MapOk a) : ∃ R n, GivesMap 17 (fun v => #[v, .int .i64 ph]) A cap a R n ∧ StepIs a R n := by
  have hm := tr_true hok
  cases b0 : (a.plan.kind == 0)
  rotate_left
  · exact ⟨a, 4, fun w h => advance_none w A cap a ph h hm b0, step_same hok (by decide)⟩
  cases b1 : (a.plan.phase == ph)
  · exact ⟨a, 4, fun w h => advance_phase w A cap a ph h hm b0 b1, step_same hok (by decide)⟩
  obtain ⟨R, hg, hR, hG, _⟩ := advance_gives A cap a ph hok b0 b1
  exact ⟨R, 0, hg, hR, hG, .inl rfl⟩
theorem abort_all (A : Option Addr) (cap : Nat) (a : Atl) (hok : MapOk a) : ∃ R n, GivesMap 19 (fun v => #[v]) A cap a R n ∧ StepIs a R n := by
  have hm := tr_true hok
  cases b0 : (a.plan.kind == 0)
  rotate_left
  · exact ⟨a, 4, fun w h => abort_none w A cap a h hm b0, step_same hok (by decide)⟩
  cases b1 : (a.plan.phase == 1)
  · exact ⟨a, 4, fun w h => abort_phase w A cap a h hm b0 b1, step_same hok (by decide)⟩
  have hph : a.plan.phase = 1 := by simpa using b1
  have hnd := (mapOk_iff.1 hok).2.2.1.1
  obtain ⟨k, hk, hp, hpl⟩ := plan_place hok b0
  obtain ⟨s, hs⟩ : ∃ s, a.sp[k] = s := ⟨_, rfl⟩
  have hso := hok.2.2.2.2.1 k hk
  rw [hs] at hso hpl
  obtain ⟨_, _, hp0, he1, he2, o4, o5⟩ := hso
  obtain ⟨q1, q2, hpl⟩ := hpl
  have hsh : s.sh = a.plan.shard := by
    have := (idxOf_first (q := hasSh a.plan.shard) (by unfold place at hp; exact hp)).2.1
    rw [hs] at this
    unfold hasSh at this
    simpa using this
  have hps := place_set' hnd k hk s { s with ep := s.ep + 2 } hs rfl
  have hks : k < (a.sp.set k { s with ep := s.ep + 2 }).length := by rw [List.length_set]; exact hk
  have hss : (a.sp.set k { s with ep := s.ep + 2 })[k] = { s with ep := s.ep + 2 } := List.getElem_set_self _
  have hep : s.ep = a.plan.epoch := by
    rcases hpl with ⟨_, hmv⟩ | ⟨_, _, hphs, _⟩
    · obtain ⟨_, _, _, _, _, _, _, m8⟩ := move_of hmv
      rcases m8 with h | h | h
      · exact h.2.2
      · rcases h.1 with h | h <;> omega
      · omega
    · rcases hphs with h | h
      · exact h.2
      · omega
  have hq : PlanOk { a with sp := a.sp.set k { s with ep := s.ep + 2 }, plan := { a.plan with phase := 9 } } := by
    refine .inr ⟨k, hks, by show place (a.sp.set k _) a.plan.shard = _; rw [← hsh]; exact hps, ?_⟩
    show PlanAt _ k ((a.sp.set k { s with ep := s.ep + 2 })[k])
    rw [hss]
    refine ⟨q1, q2, ?_⟩
    rcases hpl with ⟨hkd, hmv⟩ | ⟨hpast, hgr, _, hkd⟩
    · obtain ⟨m1, m2, m3, m4, m5, m6, m7, m8⟩ := move_of hmv
      have hgr : s.gr = a.plan.past := by
        rcases m8 with h | h | h
        · exact h.2.1
        · rcases h.1 with h | h <;> omega
        · omega
      exact .inl ⟨hkd, move_ok _ a.plan.group a.plan.past 9 a.plan.epoch _ m1 m2 m3 m4 m5 _ rfl rfl m6 m7 rfl rfl (.inr (.inr ⟨rfl, hgr, by show s.ep + 2 - 2 = a.plan.epoch; omega⟩))⟩
    · refine .inr ⟨hpast, hgr, .inr ⟨rfl, by show s.ep + 2 - 2 = a.plan.epoch; omega⟩, ?_⟩
      rcases hkd with ⟨h1, h2, h3, h4, h5⟩ | ⟨h1, h2, h3, h4, h5, h6⟩
      · refine .inl ⟨h1, h2, ?_, h4, by show (a.sp.set k _).length < 16; rw [List.length_set]; exact h5⟩
        show place (a.sp.set k { s with ep := s.ep + 2 }) a.plan.other < 0
        rw [place_no fun t ht he => ?_]
        · decide
        · rcases List.mem_or_eq_of_mem_set ht with h | rfl
          · exact place_neg h3 t h he
          · exact place_neg h3 s (hs ▸ List.getElem_mem hk) he
      · have hg : (a.sp.set k { s with ep := s.ep + 2 })[k + 1]'(by rw [List.length_set]; exact h3) = a.sp[k+1] := by
          rw [List.getElem_set]
          exact if_neg (by omega)
        refine .inr ⟨h1, h2, by show k + 1 < (a.sp.set k _).length; rw [List.length_set]; exact h3, ?_, ?_, ?_⟩
        · show ((a.sp.set k { s with ep := s.ep + 2 })[k + 1]'_).sh = _
          rw [hg]; exact h4
        · show ((a.sp.set k { s with ep := s.ep + 2 })[k + 1]'_).gr = _
          rw [hg]; exact h5
        · show ((a.sp.set k { s with ep := s.ep + 2 })[k + 1]'_).ep ≤ _
          rw [hg]; exact h6
  obtain ⟨n1, n2⟩ := set_keeps hok k hk s { s with ep := s.ep + 2 } hs rfl rfl rfl (by show s.ep ≤ s.ep + 2; omega) (by show s.ep + 2 ≤ _; omega) o4 o5 (.inl rfl) { a.plan with phase := 9 } hq
  exact ⟨_, 0, fun w h => abort_ok w A cap a h hm k s hk hs hp he1 he2 b0 b1, n1, n2, .inl rfl⟩

/-- One step of a script. -/
structure DoD where
  kind : Int
  plan : Plan
  phase : Int
def DoD.cells (d : DoD) : List Value := [.int .i64 d.kind, .int .i64 d.plan.kind, .int .i64 d.plan.phase, .int .i64 d.plan.shard, .int .i64 d.plan.other, .int .i64 d.plan.group, .int .i64 d.plan.past, .int .i64 d.plan.epoch, .string d.plan.key, .int .i64 d.phase]
def DoD.val (d : DoD) : Value := .agg #[.int .i64 d.kind, .int .i64 d.plan.kind, .int .i64 d.plan.phase, .int .i64 d.plan.shard, .int .i64 d.plan.other, .int .i64 d.plan.group, .int .i64 d.plan.past, .int .i64 d.plan.epoch, .string d.plan.key, .int .i64 d.phase]
def DoD.blk (d : DoD) : Obj := .cells #[.int .i64 d.kind, .int .i64 d.plan.kind, .int .i64 d.plan.phase, .int .i64 d.plan.shard, .int .i64 d.plan.other, .int .i64 d.plan.group, .int .i64 d.plan.past, .int .i64 d.plan.epoch, .string d.plan.key, .int .i64 d.phase] 55
theorem do_blk {w : World} {g : Nat} {d : DoD} (h : w.heap[g]? = some d.blk) : w.cell? ⟨g, 0, none⟩ = some (.int .i64 d.kind) ∧ w.cell? ⟨g, 9, none⟩ = some (.int .i64 d.phase) := by
  refine ⟨?_, ?_⟩
  all_goals simp [World.cell?, h, DoD.blk]
theorem dplan_range {W : World} {g : Nat} {d : DoD} (h : W.heap[g]? = some d.blk) : W.rangeAt g 1 [.int .i64 d.plan.kind, .int .i64 d.plan.phase, .int .i64 d.plan.shard, .int .i64 d.plan.other, .int .i64 d.plan.group, .int .i64 d.plan.past, .int .i64 d.plan.epoch, .string d.plan.key] := fun i u hi => by
  simp only [World.cell?, h, DoD.blk]
  match i, hi with
  | 0, hi => simpa using hi
  | 1, hi => simpa using hi
  | 2, hi => simpa using hi
  | 3, hi => simpa using hi
  | 4, hi => simpa using hi
  | 5, hi => simpa using hi
  | 6, hi => simpa using hi
  | 7, hi => simpa using hi
  | i + 8, hi => simp at hi
attribute [local go_sem] DoD.val
set_option maxRecDepth 100000 in
set_option maxHeartbeats 4000000 in
theorem does_begin (w : World) (A : Option Addr) (cap : Nat) (a : Atl) (d : DoD) (h : MapIn w A cap a) (R : Atl) (n : Int) (k0 : (d.kind == 0) = true) (hG : GivesMap 14 (fun v => #[v, d.plan.val]) A cap a R n) :
    Calls Try.prog 31 #[a.val (.slice A a.sp.length cap), d.val] w fun e w' => ∃ A' cap', e = .returned (.tuple #[R.val (.slice A' R.sp.length cap'), .int .i64 n]) ∧ MapIn w' A' cap' R ∧ Below w.heap.size w w' := by
  have HG := Lib.hid hG; have HI := Lib.hid h
  clear hG h
  go_enter Try.func31, Try.ntmps31
  go_upto_region 1 with fail
  have hat := al3_at w (a.blk (.slice A a.sp.length cap)) d.blk (zeroA.blk nilV)
  change Code.wp _ _ _ _ (((w.alloc (a.blk (.slice A a.sp.length cap))).alloc d.blk).alloc (zeroA.blk nilV))
  generalize ((w.alloc (a.blk (.slice A a.sp.length cap))).alloc d.blk).alloc (zeroA.blk nilV) = w0 at *
  have HA0 := Lib.hid hat.1; have HD0 := Lib.hid hat.2.1; have HZ0 := Lib.hid hat.2.2.1; have HB0 := Lib.hid hat.2.2.2.1
  clear hat
  obtain ⟨d0, d9⟩ := do_blk HD0.out
  go_upto_region 3 with fail
  refine wp_region_lit ?_
  refine wpList_load26 rfl (.tmp 2) rfl (w.heap.size) rfl HA0.out ?_
  simp only [Act.put, List.setIfInBounds_toArray, List.set_cons_zero, List.set_cons_succ]
  refine wpList_step (fun K hK => ?_)
  go_simp
  refine hK _ _ ?_
  clear hK K
  refine wpList_load_mid rfl 24 (.tmp 11) rfl (w.heap.size + 1) 1 rfl _ _ (dplan_range HD0.out) Try.underlying24 rfl info24 ?_
  simp only [Act.put, List.setIfInBounds_toArray, List.set_cons_zero, List.set_cons_succ]
  refine wpList_step (fun K hK => ?_)
  go_simp
  go_at_call 14
  refine (HG.out _ (HI.out.below HB0.out)).mono ?_
  rintro e w2 ⟨A2, c2, rfl, hI2, hb2⟩
  refine hK _ _ ?_
  clear hK K
  refine wpList_step (fun K hK => ?_)
  go_simp
  refine hK _ _ ?_
  clear hK K
  refine wpList_step (fun K hK => ?_)
  go_simp
  refine hK _ _ ?_
  clear hK K
  have hZ2 := blk_below hb2 (lt_of_some HZ0.out) HZ0.out
  have hB2 := HB0.out.trans (hb2.mono HB0.out.size)
  refine wpList_store26 rfl (.tmp 4) (.tmp 14) rfl (w.heap.size + 1 + 1) rfl (m := R) (v := .slice A2 R.sp.length c2) (m0 := zeroA) (v0 := nilV) rfl rfl hZ2 ?_
  intro w3 h9 ho9
  simp only [Act.put, List.setIfInBounds_toArray, List.set_cons_zero, List.set_cons_succ]
  have HB9 := Lib.hid (ho9.below hB2 (fun q hq => by omega) hB2.size)
  have HI9 := Lib.hid (hI2.setMap hZ2 ho9)
  have H9 := Lib.hid h9
  clear d0 d9 h9 ho9 hI2 hZ2 hB2 hb2
  go_wp2
  refine bodyPost_ret (results26 rfl _ _ (w.heap.size + 1 + 1) rfl H9.out) rfl ?_
  exact ⟨A2, c2, rfl, HI9.out, HB9.out⟩
set_option maxRecDepth 100000 in
set_option maxHeartbeats 4000000 in
theorem does_advance (w : World) (A : Option Addr) (cap : Nat) (a : Atl) (d : DoD) (h : MapIn w A cap a) (R : Atl) (n : Int) (k0 : (d.kind == 0) = false) (k1 : (d.kind == 1) = true) (hG : GivesMap 17 (fun v => #[v, .int .i64 d.phase]) A cap a R n) :
    Calls Try.prog 31 #[a.val (.slice A a.sp.length cap), d.val] w fun e w' => ∃ A' cap', e = .returned (.tuple #[R.val (.slice A' R.sp.length cap'), .int .i64 n]) ∧ MapIn w' A' cap' R ∧ Below w.heap.size w w' := by
  have HG := Lib.hid hG; have HI := Lib.hid h
  clear hG h
  go_enter Try.func31, Try.ntmps31
  go_upto_region 1 with fail
  have hat := al3_at w (a.blk (.slice A a.sp.length cap)) d.blk (zeroA.blk nilV)
  change Code.wp _ _ _ _ (((w.alloc (a.blk (.slice A a.sp.length cap))).alloc d.blk).alloc (zeroA.blk nilV))
  generalize ((w.alloc (a.blk (.slice A a.sp.length cap))).alloc d.blk).alloc (zeroA.blk nilV) = w0 at *
  have HA0 := Lib.hid hat.1; have HD0 := Lib.hid hat.2.1; have HZ0 := Lib.hid hat.2.2.1; have HB0 := Lib.hid hat.2.2.2.1
  clear hat
  obtain ⟨d0, d9⟩ := do_blk HD0.out
  go_upto_region 5 with fail
  refine wp_region_lit ?_
  refine wpList_load26 rfl (.tmp 2) rfl (w.heap.size) rfl HA0.out ?_
  simp only [Act.put, List.setIfInBounds_toArray, List.set_cons_zero, List.set_cons_succ]
  refine wpList_step (fun K hK => ?_)
  go_simp
  refine hK _ _ ?_
  clear hK K
  refine wpList_step (fun K hK => ?_)
  go_simp
  refine hK _ _ ?_
  clear hK K
  refine wpList_step (fun K hK => ?_)
  go_simp
  go_at_call 17
  refine (HG.out _ (HI.out.below HB0.out)).mono ?_
  rintro e w2 ⟨A2, c2, rfl, hI2, hb2⟩
  refine hK _ _ ?_
  clear hK K
  refine wpList_step (fun K hK => ?_)
  go_simp
  refine hK _ _ ?_
  clear hK K
  refine wpList_step (fun K hK => ?_)
  go_simp
  refine hK _ _ ?_
  clear hK K
  have hZ2 := blk_below hb2 (lt_of_some HZ0.out) HZ0.out
  have hB2 := HB0.out.trans (hb2.mono HB0.out.size)
  refine wpList_store26 rfl (.tmp 4) (.tmp 22) rfl (w.heap.size + 1 + 1) rfl (m := R) (v := .slice A2 R.sp.length c2) (m0 := zeroA) (v0 := nilV) rfl rfl hZ2 ?_
  intro w3 h9 ho9
  simp only [Act.put, List.setIfInBounds_toArray, List.set_cons_zero, List.set_cons_succ]
  have HB9 := Lib.hid (ho9.below hB2 (fun q hq => by omega) hB2.size)
  have HI9 := Lib.hid (hI2.setMap hZ2 ho9)
  have H9 := Lib.hid h9
  clear d0 d9 h9 ho9 hI2 hZ2 hB2 hb2
  go_wp2
  refine bodyPost_ret (results26 rfl _ _ (w.heap.size + 1 + 1) rfl H9.out) rfl ?_
  exact ⟨A2, c2, rfl, HI9.out, HB9.out⟩
set_option maxRecDepth 100000 in
set_option maxHeartbeats 4000000 in
theorem does_abort (w : World) (A : Option Addr) (cap : Nat) (a : Atl) (d : DoD) (h : MapIn w A cap a) (R : Atl) (n : Int) (k0 : (d.kind == 0) = false) (k1 : (d.kind == 1) = false) (hG : GivesMap 19 (fun v => #[v]) A cap a R n) :
    Calls Try.prog 31 #[a.val (.slice A a.sp.length cap), d.val] w fun e w' => ∃ A' cap', e = .returned (.tuple #[R.val (.slice A' R.sp.length cap'), .int .i64 n]) ∧ MapIn w' A' cap' R ∧ Below w.heap.size w w' := by
  have HG := Lib.hid hG; have HI := Lib.hid h
  clear hG h
  go_enter Try.func31, Try.ntmps31
  go_upto_region 1 with fail
  have hat := al3_at w (a.blk (.slice A a.sp.length cap)) d.blk (zeroA.blk nilV)
  change Code.wp _ _ _ _ (((w.alloc (a.blk (.slice A a.sp.length cap))).alloc d.blk).alloc (zeroA.blk nilV))
  generalize ((w.alloc (a.blk (.slice A a.sp.length cap))).alloc d.blk).alloc (zeroA.blk nilV) = w0 at *
  have HA0 := Lib.hid hat.1; have HD0 := Lib.hid hat.2.1; have HZ0 := Lib.hid hat.2.2.1; have HB0 := Lib.hid hat.2.2.2.1
  clear hat
  obtain ⟨d0, d9⟩ := do_blk HD0.out
  go_upto_region 6 with fail
  refine wp_region_lit ?_
  refine wpList_load26 rfl (.tmp 2) rfl (w.heap.size) rfl HA0.out ?_
  simp only [Act.put, List.setIfInBounds_toArray, List.set_cons_zero, List.set_cons_succ]
  refine wpList_step (fun K hK => ?_)
  go_simp
  go_at_call 19
  refine (HG.out _ (HI.out.below HB0.out)).mono ?_
  rintro e w2 ⟨A2, c2, rfl, hI2, hb2⟩
  refine hK _ _ ?_
  clear hK K
  refine wpList_step (fun K hK => ?_)
  go_simp
  refine hK _ _ ?_
  clear hK K
  refine wpList_step (fun K hK => ?_)
  go_simp
  refine hK _ _ ?_
  clear hK K
  have hZ2 := blk_below hb2 (lt_of_some HZ0.out) HZ0.out
  have hB2 := HB0.out.trans (hb2.mono HB0.out.size)
  refine wpList_store26 rfl (.tmp 4) (.tmp 26) rfl (w.heap.size + 1 + 1) rfl (m := R) (v := .slice A2 R.sp.length c2) (m0 := zeroA) (v0 := nilV) rfl rfl hZ2 ?_
  intro w3 h9 ho9
  simp only [Act.put, List.setIfInBounds_toArray, List.set_cons_zero, List.set_cons_succ]
  have HB9 := Lib.hid (ho9.below hB2 (fun q hq => by omega) hB2.size)
  have HI9 := Lib.hid (hI2.setMap hZ2 ho9)
  have H9 := Lib.hid h9
  clear d0 d9 h9 ho9 hI2 hZ2 hB2 hb2
  go_wp2
  refine bodyPost_ret (results26 rfl _ _ (w.heap.size + 1 + 1) rfl H9.out) rfl ?_
  exact ⟨A2, c2, rfl, HI9.out, HB9.out⟩
theorem does_gives (A : Option Addr) (cap : Nat) (a : Atl) (d : DoD) (hks : d.plan.key.size ≤ 9223372036854775807) (hok : MapOk a) : ∃ R n, GivesMap 31 (fun v => #[v, d.val]) A cap a R n ∧ StepIs a R n := by
  cases k0 : (d.kind == 0)
  · cases k1 : (d.kind == 1)
    · obtain ⟨R, n, hg, hs⟩ := abort_all A cap a hok
      exact ⟨R, n, fun w h => does_abort w A cap a d h R n k0 k1 hg, hs⟩
    · obtain ⟨R, n, hg, hs⟩ := advance_all A cap a d.phase hok
      exact ⟨R, n, fun w h => does_advance w A cap a d h R n k0 k1 hg, hs⟩
  · obtain ⟨R, n, hg, hs⟩ := begin_all A cap a d.plan hks hok
    exact ⟨R, n, fun w h => does_begin w A cap a d h R n k0 hg, hs⟩
end Go.Proofs.Ytimondpollbdfaa
