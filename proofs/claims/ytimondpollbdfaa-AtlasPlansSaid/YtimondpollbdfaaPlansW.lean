/- What is proved: AtlasPlans answers yes, whatever the map and the two plans. -/
import Derived.Test.YtimondpollbdfaaKeeps
import Derived.Deep.RegionHeld3
import Derived.BigQuiet
set_option linter.unusedVariables false
set_option linter.unusedSimpArgs false
namespace Go.Proofs.Ytimondpollbdfaa
open Go.RowKit
attribute [local go_sem] Span.val Atl.val Plan.val
attribute [local go_sem high] run_eql_eqP run_neq_eqP run_eql_eqS run_neq_eqS
attribute [local go_sem] eqP_refl eqS_refl

theorem below_dr {w8 wr : World} (h1 : Below w8.heap.size w8 wr) (n : Nat) : Below w8.heap.size w8 (wr.drewN n) :=
  h1.trans ((show Below wr.heap.size wr (wr.drewN n) from ⟨rfl, rfl, rfl, Nat.le_refl _, fun _ _ => rfl⟩).mono h1.size)
theorem plan_next {M R : Atl} {n : Nat} (b0 : (M.plan.kind == 0) = false) (hlt : n < 3) (h1 : M.plan.kind = 0 ∨ n < 3 ∧ M.plan.phase = (n : Int) + 1) (h2 : R.plan.kind = 0 ∨ (M.plan.phase = 1 ∨ M.plan.phase = 2) ∧ R.plan.phase = M.plan.phase + 1) : R.plan.kind = 0 ∨ n + 1 < 3 ∧ R.plan.phase = ((n + 1 : Nat) : Int) + 1 := by
  rcases h1 with h | ⟨_, h⟩
  · rw [h] at b0; cases b0
  rcases h2 with h' | ⟨h', h''⟩
  · exact .inl h'
  · exact .inr (by omega)

set_option maxRecDepth 100000 in
set_option maxHeartbeats 4000000 in
theorem plans_err (w : World) (A : Option Addr) (cap : Nat) (a : Atl) (p q : Plan) (h : MapIn w A cap a) (R : Atl) (n : Int) (hB1 : GivesMap 14 (fun v => #[v, p.val]) A cap a R n) (gn : ¬ n = 0) (gn2 : (n == 0) = false) :
    Calls Try.prog 12 #[a.val (.slice A a.sp.length cap), p.val, q.val] w fun e w' => e = .returned (.bool true) ∧ Below w.heap.size w w' := by
  have HG1 := Lib.hid hB1; have HI := Lib.hid h
  clear hB1 h
  go_enter Try.func12, Try.ntmps12
  go_upto_region 1 with fail
  have hat := al3_at w (a.blk (.slice A a.sp.length cap)) p.blk q.blk
  change Code.wp _ _ _ _ (((w.alloc (a.blk (.slice A a.sp.length cap))).alloc p.blk).alloc q.blk)
  generalize ((w.alloc (a.blk (.slice A a.sp.length cap))).alloc p.blk).alloc q.blk = w0 at *
  have HA0 := Lib.hid hat.1; have HP0 := Lib.hid hat.2.1; have HQ0 := Lib.hid hat.2.2.1; have HB0 := Lib.hid hat.2.2.2.1
  clear hat
  go_upto_region 3 with (go_at_call 13
                         refine (awakeA _).mono ?_
                         rintro e w1 ⟨rfl, hb1⟩
                         have HA1 := Lib.hid (blk_below hb1 (lt_of_some HA0.out) HA0.out)
                         have HP1 := Lib.hid (blk_below hb1 (lt_of_some HP0.out) HP0.out)
                         have HQ1 := Lib.hid (blk_below hb1 (lt_of_some HQ0.out) HQ0.out)
                         have HB1 := Lib.hid (HB0.out.trans (hb1.mono HB0.out.size))
                         clear hb1)
  refine wp_region_lit ?_
  refine wpList_load26 rfl (.tmp 3) rfl (w.heap.size) rfl HA1.out ?_
  simp only [Act.put, List.setIfInBounds_toArray, List.set_cons_zero, List.set_cons_succ]
  refine wpList_load24 rfl (.tmp 4) rfl (w.heap.size + 1) rfl HP1.out ?_
  simp only [Act.put, List.setIfInBounds_toArray, List.set_cons_zero, List.set_cons_succ]
  refine wpList_step (fun K hK => ?_)
  go_simp
  go_at_call 14
  refine (HG1.out _ (HI.out.below HB1.out)).mono ?_
  rintro e w2 ⟨A2, c2, rfl, hI2, hb2⟩
  refine hK _ _ ?_
  clear hK K
  refine wpList_step (fun K hK => ?_)
  go_simp
  refine hK _ _ ?_
  clear hK K
  refine wpList_step (fun K hK => ?_)
  go_simp
  refine hK _ _ ?_
  clear hK K
  refine wpList_step (fun K hK => ?_)
  go_simp
  refine hK _ _ ?_
  clear hK K
  refine wpList_step (fun K hK => ?_)
  go_simp
  refine hK _ _ ?_
  clear hK K
  refine wpList_store26 rfl (.tmp 7) (.tmp 21) rfl w2.heap.size rfl (m := R) (v := (.slice A2 R.sp.length c2)) (m0 := zeroA) (v0 := nilV) rfl rfl (heap_alloc_new w2 _) ?_
  intro w3 hS ho
  simp only [Act.put, List.setIfInBounds_toArray, List.set_cons_zero, List.set_cons_succ]
  have hb : Below w2.heap.size w2 w3 := ho.below (al _) (fun k hk => by omega) (by simp)
  have hl : w2.heap.size < w3.heap.size := lt_of_some hS
  clear ho
  have hd1 : w.heap.size + 1 + 1 < w2.heap.size := by have := lt_of_some HQ1.out; have := hb2.size; omega
  have hbx : Below w1.heap.size w1 w3 := hb2.trans (hb.mono hb2.size)
  have HA3 := Lib.hid (blk_below hbx (lt_of_some HA1.out) HA1.out)
  have HQ3 := Lib.hid (blk_below hbx (lt_of_some HQ1.out) HQ1.out)
  have HB3 := Lib.hid (HB1.out.trans (hbx.mono HB1.out.size))
  have HIs3 := Lib.hid (hI2.below hb)
  have HS3 := Lib.hid hS
  clear hb2 hb hbx hI2 hS
  go_wp2_with fail
  go_ret
  exact ⟨rfl, HB3.out⟩
set_option maxRecDepth 100000 in
set_option maxHeartbeats 4000000 in
theorem plans_ok (w : World) (A : Option Addr) (cap : Nat) (a : Atl) (p q : Plan) (h : MapIn w A cap a) (h16 : a.sp.length ≤ 16) (l : Int) (pl : Plan) (hB1 : GivesMap 14 (fun v => #[v, p.val]) A cap a (⟨a.groups, l, a.sp, pl⟩ : Atl) 0) (hok : MapOk (⟨a.groups, l, a.sp, pl⟩ : Atl)) (hph : pl.phase = 1)
    (hB2 : ∀ A cap, GivesMap 14 (fun v => #[v, q.val]) A cap (⟨a.groups, l, a.sp, pl⟩ : Atl) (⟨a.groups, l, a.sp, pl⟩ : Atl) 180) :
    Calls Try.prog 12 #[a.val (.slice A a.sp.length cap), p.val, q.val] w fun e w' => e = .returned (.bool true) ∧ Below w.heap.size w w' := by
  have HG2 := Lib.hid hB2; have Hok := Lib.hid hok; have Hph := Lib.hid hph
  clear hB2 hok hph
  have HG1 := Lib.hid hB1; have HI := Lib.hid h
  clear hB1 h
  go_enter Try.func12, Try.ntmps12
  go_upto_region 1 with fail
  have hat := al3_at w (a.blk (.slice A a.sp.length cap)) p.blk q.blk
  change Code.wp _ _ _ _ (((w.alloc (a.blk (.slice A a.sp.length cap))).alloc p.blk).alloc q.blk)
  generalize ((w.alloc (a.blk (.slice A a.sp.length cap))).alloc p.blk).alloc q.blk = w0 at *
  have HA0 := Lib.hid hat.1; have HP0 := Lib.hid hat.2.1; have HQ0 := Lib.hid hat.2.2.1; have HB0 := Lib.hid hat.2.2.2.1
  clear hat
  go_upto_region 3 with (go_at_call 13
                         refine (awakeA _).mono ?_
                         rintro e w1 ⟨rfl, hb1⟩
                         have HA1 := Lib.hid (blk_below hb1 (lt_of_some HA0.out) HA0.out)
                         have HP1 := Lib.hid (blk_below hb1 (lt_of_some HP0.out) HP0.out)
                         have HQ1 := Lib.hid (blk_below hb1 (lt_of_some HQ0.out) HQ0.out)
                         have HB1 := Lib.hid (HB0.out.trans (hb1.mono HB0.out.size))
                         clear hb1)
  refine wp_region_lit ?_
  refine wpList_load26 rfl (.tmp 3) rfl (w.heap.size) rfl HA1.out ?_
  simp only [Act.put, List.setIfInBounds_toArray, List.set_cons_zero, List.set_cons_succ]
  refine wpList_load24 rfl (.tmp 4) rfl (w.heap.size + 1) rfl HP1.out ?_
  simp only [Act.put, List.setIfInBounds_toArray, List.set_cons_zero, List.set_cons_succ]
  refine wpList_step (fun K hK => ?_)
  go_simp
  go_at_call 14
  refine (HG1.out _ (HI.out.below HB1.out)).mono ?_
  rintro e w2 ⟨A2, c2, rfl, hI2, hb2⟩
  refine hK _ _ ?_
  clear hK K
  refine wpList_step (fun K hK => ?_)
  go_simp
  refine hK _ _ ?_
  clear hK K
  refine wpList_step (fun K hK => ?_)
  go_simp
  refine hK _ _ ?_
  clear hK K
  refine wpList_step (fun K hK => ?_)
  go_simp
  refine hK _ _ ?_
  clear hK K
  refine wpList_step (fun K hK => ?_)
  go_simp
  refine hK _ _ ?_
  clear hK K
  refine wpList_store26 rfl (.tmp 7) (.tmp 21) rfl w2.heap.size rfl (m := (⟨a.groups, l, a.sp, pl⟩ : Atl)) (v := (.slice A2 a.sp.length c2)) (m0 := zeroA) (v0 := nilV) rfl rfl (heap_alloc_new w2 _) ?_
  intro w3 hS ho
  simp only [Act.put, List.setIfInBounds_toArray, List.set_cons_zero, List.set_cons_succ]
  have hb : Below w2.heap.size w2 w3 := ho.below (al _) (fun k hk => by omega) (by simp)
  have hl : w2.heap.size < w3.heap.size := lt_of_some hS
  clear ho
  have hd1 : w.heap.size + 1 + 1 < w2.heap.size := by have := lt_of_some HQ1.out; have := hb2.size; omega
  have hbx : Below w1.heap.size w1 w3 := hb2.trans (hb.mono hb2.size)
  have HA3 := Lib.hid (blk_below hbx (lt_of_some HA1.out) HA1.out)
  have HQ3 := Lib.hid (blk_below hbx (lt_of_some HQ1.out) HQ1.out)
  have HB3 := Lib.hid (HB1.out.trans (hbx.mono HB1.out.size))
  have HIs3 := Lib.hid (hI2.below hb)
  have HS3 := Lib.hid hS
  clear hb2 hb hbx hI2 hS
  have m := map_cells HA3.out
  have s := map_cells HS3.out
  obtain ⟨m0, m1, m2, m3, m4, m5, m6, m7, m8, m9, m10, mlt⟩ := m
  obtain ⟨s0, s1, s2, s3, s4, s5, s6, s7, s8, s9, s10, slt⟩ := s
  go_upto_region 8 with fail
  clear m0 m1 m2 m3 m4 m5 m6 m7 m8 m9 m10 mlt s0 s1 s2 s3 s4 s5 s6 s7 s8 s9 s10 slt
  go_wp2_with fail
  go_loopw [9] (fun v wr => ∃ k : Nat, k ≤ a.sp.length ∧ v = .int .i64 k ∧ Below w3.heap.size w3 wr) (fun v _ => a.sp.length - (intOf v).toNat)
  case atStart => exact ⟨0, Nat.zero_le _, rfl, Below.refl _ _⟩
  case round =>
    obtain ⟨k, hk, rfl, hbel⟩ := hrel
    have HAr := Lib.hid (blk_below hbel (lt_of_some HA3.out) HA3.out)
    have HSr := Lib.hid (blk_below hbel (lt_of_some HS3.out) HS3.out)
    have HQr := Lib.hid (blk_below hbel (lt_of_some HQ3.out) HQ3.out)
    have HBr := Lib.hid (HB3.out.trans (hbel.mono HB3.out.size))
    have HIsr := Lib.hid (HIs3.out.below hbel)
    have Hbel := Lib.hid hbel
    clear hbel
    have hw1 : IntKind.i64.wrap ((k : Int) + 1) = (k : Int) + 1 := IntWalk.i64_in _ (by omega)
    obtain ⟨m0, m1, m2, m3, m4, m5, m6, m7, m8, m9, m10, mlt⟩ := map_cells HAr.out
    by_cases hlt : k < a.sp.length
    · obtain ⟨s0, s1, s2, s3, s4, s5, s6, s7, s8, s9, s10, slt⟩ := map_cells HSr.out
      obtain ⟨b, off, rfl, blt, p0, p1, p2, p3, p4⟩ := span_cells (HI.out.below HBr.out).row k hlt
      obtain ⟨b2, off2, rfl, blt2, r0, r1, r2, r3, r4⟩ := span_cells HIsr.out.row k hlt
      have hk1 : (0 : Int) ≤ (k : Int) := by omega
      have hk2 : (k : Int) < (a.sp.length : Int) := by omega
      go_wp2_with fail
      go_quiet (fail)
      go_wp2_with fail
      go_roundw
      case rel => exact ⟨k + 1, by omega, by go_num, below_dr Hbel.out _⟩
      case measure => simp [intOf]; omega
    · obtain ⟨wo, rfl⟩ : ∃ wo : World, wo = wr := ⟨_, rfl⟩
      go_upto_region 13 with fail
      clear m0 m1 m2 m3 m4 m5 m6 m7 m8 m9 m10 mlt
      refine wp_region_lit ?_
      refine wpList_load26 rfl (.tmp 7) rfl (w2.heap.size) rfl HSr.out ?_
      simp only [Act.put, List.setIfInBounds_toArray, List.set_cons_zero, List.set_cons_succ]
      refine wpList_load24 rfl (.tmp 5) rfl (w.heap.size + 1 + 1) rfl HQr.out ?_
      simp only [Act.put, List.setIfInBounds_toArray, List.set_cons_zero, List.set_cons_succ]
      refine wpList_step (fun K hK => ?_)
      go_simp
      go_at_call 14
      refine (HG2.out _ _ _ HIsr.out).mono ?_
      rintro e w4 ⟨A4, c4, rfl, hI4, hb4⟩
      refine hK _ _ ?_
      clear hK K
      refine wpList_step (fun K hK => ?_)
      go_simp
      refine hK _ _ ?_
      clear hK K
      refine wpList_step (fun K hK => ?_)
      go_simp
      refine hK _ _ ?_
      clear hK K
      refine wpList_step (fun K hK => ?_)
      go_simp
      refine hK _ _ ?_
      clear hK K
      refine wpList_step (fun K hK => ?_)
      go_simp
      refine hK _ _ ?_
      clear hK K
      refine wpList_store26 rfl (.tmp 10) (.tmp 54) rfl w4.heap.size rfl (m := (⟨a.groups, l, a.sp, pl⟩ : Atl)) (v := (.slice A4 a.sp.length c4)) (m0 := zeroA) (v0 := nilV) rfl rfl (heap_alloc_new w4 _) ?_
      intro w5 hT ho
      simp only [Act.put, List.setIfInBounds_toArray, List.set_cons_zero, List.set_cons_succ]
      have hb : Below w4.heap.size w4 w5 := ho.below (al _) (fun k hk => by omega) (by simp)
      have hl : w4.heap.size < w5.heap.size := lt_of_some hT
      clear ho
      have hbx : Below wo.heap.size wo w5 := hb4.trans (hb.mono hb4.size)
      have HS5 := Lib.hid (blk_below hbx (lt_of_some HSr.out) HSr.out)
      have HB5 := Lib.hid (HBr.out.trans (hbx.mono HBr.out.size))
      have HIs5 := Lib.hid (HIsr.out.below hbx)
      have HIt5 := Lib.hid (hI4.below hb)
      have HT5 := Lib.hid hT
      clear hb4 hb hbx hI4 hT
      obtain ⟨s0, s1, s2, s3, s4, s5, s6, s7, s8, s9, s10, slt⟩ := map_cells HS5.out
      obtain ⟨t0, t1, t2, t3, t4, t5, t6, t7, t8, t9, t10, tlt⟩ := map_cells HT5.out
      go_upto_region 16 with (go_at_call 16
                              refine (same_true _ A2 A4 c2 c4 (⟨a.groups, l, a.sp, pl⟩ : Atl) HIs5.out HIt5.out).mono ?_
                              rintro e w6 ⟨rfl, hbx⟩
                              have HS6 := Lib.hid (blk_below hbx (lt_of_some HS5.out) HS5.out)
                              have HB6 := Lib.hid (HB5.out.trans (hbx.mono HB5.out.size))
                              have HIs6 := Lib.hid (HIs5.out.below hbx)
                              clear hbx)
      clear s0 s1 s2 s3 s4 s5 s6 s7 s8 s9 s10 slt t0 t1 t2 t3 t4 t5 t6 t7 t8 t9 t10 tlt
      have hdw : w.heap.size + 1 + 1 < w2.heap.size := hd1
      go_wp2_with fail
      go_loopw [12] (fun v wr => ∃ (n : Nat) (M : Atl) (B : Option Addr) (c : Nat), n ≤ 3 ∧ v = .int .i64 n ∧ wr.heap[w2.heap.size]? = some (M.blk (.slice B M.sp.length c)) ∧ MapIn wr B c M ∧ MapOk M ∧ (M.plan.kind = 0 ∨ n < 3 ∧ M.plan.phase = (n : Int) + 1) ∧ Below w.heap.size w wr) (fun v _ => 3 - (intOf v).toNat)
      case atStart => exact ⟨0, (⟨a.groups, l, a.sp, pl⟩ : Atl), A2, c2, by omega, rfl, HS6.out, HIs6.out, Hok.out, .inr ⟨by omega, Hph.out⟩, HB6.out⟩
      case round =>
        obtain ⟨n, M, B, c, hn, rfl, hSn, hIn, hMok, hpn, hBn⟩ := hrel
        have hw2 : IntKind.i64.wrap ((n : Int) + 1) = (n : Int) + 1 := IntWalk.i64_in _ (by omega)
        obtain ⟨s0, s1, s2, s3, s4, s5, s6, s7, s8, s9, s10, slt⟩ := map_cells hSn
        have HSn := Lib.hid hSn; have HIn := Lib.hid hIn; have HMok := Lib.hid hMok; have Hpn := Lib.hid hpn; have HBn := Lib.hid hBn
        clear hSn hIn hMok hpn hBn
        cases b0 : (M.plan.kind == 0)
        · by_cases hlt : n < 3
          · obtain ⟨R, hV, hRok, _, hRp⟩ := advance_gives B c M M.plan.phase HMok.out b0 (by simp)
            have HV := Lib.hid hV; have HRok := Lib.hid hRok; have HRp := Lib.hid hRp
            clear hV hRok hRp
            go_upto_region 21 with fail
            refine wp_region_lit ?_
            refine wpList_load26 rfl (.tmp 7) rfl (w2.heap.size) rfl HSn.out ?_
            simp only [Act.put, List.setIfInBounds_toArray, List.set_cons_zero, List.set_cons_succ]
            refine wpList_step (fun K hK => ?_)
            go_simp
            refine hK _ _ ?_
            clear hK K
            refine wpList_step (fun K hK => ?_)
            go_simp
            refine hK _ _ ?_
            clear hK K
            refine wpList_step (fun K hK => ?_)
            go_simp
            refine hK _ _ ?_
            clear hK K
            refine wpList_step (fun K hK => ?_)
            go_simp
            go_at_call 17
            refine (HV.out _ HIn.out).mono ?_
            rintro e w7 ⟨A7, c7, rfl, hI7, hb7⟩
            refine hK _ _ ?_
            clear hK K
            refine wpList_step (fun K hK => ?_)
            go_simp
            refine hK _ _ ?_
            clear hK K
            refine wpList_step (fun K hK => ?_)
            go_simp
            refine hK _ _ ?_
            clear hK K
            refine wpList_step (fun K hK => ?_)
            go_simp
            refine hK _ _ ?_
            clear hK K
            refine wpList_step (fun K hK => ?_)
            go_simp
            refine hK _ _ ?_
            clear hK K
            refine wpList_store26 rfl (.tmp 13) (.tmp 78) rfl w7.heap.size rfl (m := R) (v := (.slice A7 R.sp.length c7)) (m0 := zeroA) (v0 := nilV) rfl rfl (heap_alloc_new w7 _) ?_
            intro w8 hT ho
            simp only [Act.put, List.setIfInBounds_toArray, List.set_cons_zero, List.set_cons_succ]
            have hb : Below w7.heap.size w7 w8 := ho.below (al _) (fun k hk => by omega) (by simp)
            have hl : w7.heap.size < w8.heap.size := lt_of_some hT
            clear ho
            have hbx : Below wr.heap.size wr w8 := hb7.trans (hb.mono hb7.size)
            have HS8 := Lib.hid (blk_below hbx (lt_of_some HSn.out) HSn.out)
            have HB8 := Lib.hid (HBn.out.trans (hbx.mono HBn.out.size))
            have HI8 := Lib.hid (hI7.below hb)
            have HT8 := Lib.hid hT
            clear s0 s1 s2 s3 s4 s5 s6 s7 s8 s9 s10 slt hb7 hb hbx hI7 hT
            go_upto_region 24 with fail
            refine wp_region_lit ?_
            refine wpList_load26 rfl (.tmp 13) rfl (w7.heap.size) rfl HT8.out ?_
            simp only [Act.put, List.setIfInBounds_toArray, List.set_cons_zero, List.set_cons_succ]
            refine wpList_store26 rfl (.tmp 7) (.tmp 82) rfl w2.heap.size rfl (m := R) (v := .slice A7 R.sp.length c7) (m0 := M) (v0 := .slice B M.sp.length c) rfl rfl HS8.out ?_
            intro w9 hN ho
            simp only [Act.put, List.setIfInBounds_toArray, List.set_cons_zero, List.set_cons_succ]
            have HB9 := Lib.hid (ho.below HB8.out (fun q hq => by have hq : q = w2.heap.size := hq; omega) HB8.out.size)
            have HI9 := Lib.hid (HI8.out.setMap HS8.out ho)
            have HN9 := Lib.hid hN
            clear hN ho
            go_wp2_with fail
            go_roundw
            case rel => exact ⟨n + 1, R, A7, c7, by omega, by go_num, HN9.out, HI9.out, HRok.out, plan_next b0 hlt Hpn.out HRp.out, HB9.out⟩
            case measure => simp [intOf]; omega
          · exfalso
            rcases Hpn.out with h | ⟨h, _⟩
            · rw [h] at b0; cases b0
            · exact hlt h
        · by_cases hlt : n < 3
          · go_wp2
            go_ret
            exact ⟨rfl, HBn.out⟩
          · go_wp2
            go_ret
            exact ⟨rfl, HBn.out⟩

theorem plans_any (w : World) (A : Option Addr) (cap : Nat) (a : Atl) (p q : Plan) (h : MapIn w A cap a) (hp : p.key.size ≤ 9223372036854775807) :
    Calls Try.prog 12 #[a.val (.slice A a.sp.length cap), p.val, q.val] w fun e w' => e = .returned (.bool true) ∧ Below w.heap.size w w' := by
  cases hm : tr (MapOk a)
  · exact plans_err w A cap a p q h zeroA 4 (fun w h => begin_wrong w A cap a p h hm) (by decide) (by decide)
  have hok := of_tr hm
  rcases begin_gives A cap a p hp hok with ⟨n, hn, hg⟩ | ⟨R, hg, hR, _, hb⟩
  · exact plans_err w A cap a p q h a n hg hn (by simpa using hn)
  have h16 := hok.2.2.2.1.1
  have hR1 : ∃ l pl, R = ⟨a.groups, l, a.sp, pl⟩ ∧ pl.phase = 1 ∧ ¬ pl.kind = 0 := by
    obtain ⟨_, k, hk, s, _, _, _, _, ⟨h1, _, _, _, h2⟩ | ⟨h1, _, _, h2⟩ | ⟨h1, _, _, _, _, _, h2⟩⟩ := hb
    · exact ⟨_, _, h2, rfl, by show ¬ p.kind = 0; omega⟩
    · exact ⟨_, _, h2, rfl, by show ¬ p.kind = 0; omega⟩
    · exact ⟨_, _, h2, rfl, by show ¬ p.kind = 0; omega⟩
  obtain ⟨l, pl, rfl, h1, h2⟩ := hR1
  exact plans_ok w A cap a p q h h16 l pl hg hR h1 (fun A cap w h => begin_busy w A cap _ q _ h (tr_true hR) h2 rfl)
end Go.Proofs.Ytimondpollbdfaa
