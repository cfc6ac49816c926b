/- What is proved: SeatOnce answers yes, whatever the list. Condition: the jobs of each session take at most 2^47 bytes. -/
import Derived.Test.YtofdkincbhahfaaOnceL
set_option linter.unusedVariables false
set_option linter.unusedSimpArgs false
namespace Go.Proofs.Ytofdkincbhahfaa
open Go.RowKit
attribute [local go_sem] Seen.val resV cell_over frozen_over

set_option maxRecDepth 100000 in
set_option maxHeartbeats 16000000 in
theorem once_law (w : World) (A : Option Addr) (cap : Nat) (l : List Seen) (h : BookIn w A cap l) :
    Calls Try.prog 4 #[.slice A l.length cap] w fun e w' => e = .returned (.bool true) ∧ Below w.heap.size w w' := by
  have HI := Lib.hid h
  have hl : l.length ≤ 9223372036854775807 := Nat.le_trans h.ncap h.cmax
  obtain ⟨i0, hi0, hz0, hz1, hz2⟩ := info_parts info2
  obtain ⟨j0, hj0, hy0, hy1, hy2⟩ := info_parts info28
  clear h
  go_enter Try.func4, Try.ntmps4
  go_upto_region 4 with (go_at_call 7
                         refine (awakeS _).mono ?_
                         rintro e w1 ⟨rfl, hb1⟩
                         have HB1 := Lib.hid hb1
                         clear hb1)
  obtain ⟨w2, hmk, hown, hgr⟩ := run_makeSlice_full (P := Try.prog) (w := w1) w.heap.size 38 2 i0 _ 1 Try.underlying38 hi0 hz0 hz1 .i64 .i64 65 (by omega) (by rw [hz2]; omega) (by unfold maxLen; omega) HB1.out.size
  have hmk2 : (Instr.makeSlice 38 (.int .i64 65) (.int .i64 65)).run Try.prog w1 = .ok (.slice (some ⟨w1.heap.size, 0, none⟩) 65 65) w2 := hmk
  rw [made65] at hown
  have HS0 := Lib.hid (show OSt w w1.heap.size w2 none 0 [] (List.replicate 65 0) none 0 [] from ⟨book_nil _, offB_nil _ _, (fun q hq => by cases hq), hown, World.ownsRow_nil _ _ _ _, HB1.out.grown hgr HB1.out.size (fun q hq => by cases hq)⟩)
  have HG := Lib.hid (HB1.out.size)
  obtain ⟨g, hg⟩ : ∃ g, w1.heap.size = g := ⟨_, rfl⟩
  rw [hg] at hmk2 HS0 HG
  clear hmk hown hgr hz1 hz2 hz0 hi0
  go_upto_region 6 with fail
  clear hmk2 HB1 hg
  go_wp2_with fail
  go_loopw [3, 5, 6] (fun b dv iv wr => ∃ (k : Nat) (M : Option Addr) (mc : Nat) (m : List Seen) (la : List Int) (D : Option Addr) (dc : Nat) (dn : List Seen), k ≤ l.length ∧ k ≤ 400 ∧ b = .slice M m.length mc ∧ dv = .slice D dn.length dc ∧ iv = .int .i64 k ∧ OInv (m.map Seen.dat) la dn ∧ (∀ t ∈ dn, t ∈ l) ∧ dn.length ≤ k ∧ OSt w g wr M mc m la D dc dn) (fun _ _ iv _ => l.length - (intOf iv).toNat)
  case atStart => exact ⟨0, none, 0, [], _, none, 0, [], Nat.zero_le _, Nat.zero_le _, rfl, rfl, rfl, oInv_nil, (fun t ht => by cases ht), Nat.le_refl _, HS0.out⟩
  case round =>
    clear HS0
    obtain ⟨k, M, mc, m, la, D, dc, dn, hk, hk4, rfl, rfl, rfl, hinv, hin, hdl, hst⟩ := hrel
    have Hinv := Lib.hid hinv; have Hin := Lib.hid hin; have HSr := Lib.hid hst
    clear hinv hin hst
    by_cases hlt : k < l.length
    rotate_left
    · have l1 : ¬ (k : Int) < (l.length : Int) := by omega
      have hck := check_dat wr M mc m HSr.out.book
      rw [tr_true Hinv.out.ok] at hck
      have Hck := Lib.hid hck
      clear hck
      go_wp2_with (go_at_call 12
                   refine Hck.out.mono ?_
                   rintro e w9 ⟨rfl, hb9⟩
                   have HB9 := Lib.hid (HSr.out.bel.trans (hb9.mono HSr.out.bel.size))
                   clear hb9)
      go_ret
      exact ⟨rfl, HB9.out⟩
    have k1 : (0 : Int) ≤ (k : Int) := by omega
    have k2 : (k : Int) < (l.length : Int) := by omega
    by_cases h400 : k < 400
    rotate_left
    · have l1 : ¬ (k : Int) < 400 := by omega
      have hck := check_dat wr M mc m HSr.out.book
      rw [tr_true Hinv.out.ok] at hck
      have Hck := Lib.hid hck
      clear hck
      go_wp2_with (go_at_call 12
                   refine Hck.out.mono ?_
                   rintro e w9 ⟨rfl, hb9⟩
                   have HB9 := Lib.hid (HSr.out.bel.trans (hb9.mono HSr.out.bel.size))
                   clear hb9)
      go_ret
      exact ⟨rfl, HB9.out⟩
    have k3 : (k : Int) < 400 := by omega
    obtain ⟨ga, oa, rfl, hga, p0, p1, p2, p3, p4⟩ := seen_cells (HI.out.below HSr.out.bel).row k hlt
    have hjs := HI.out.jobs l[k] (List.getElem_mem hlt)
    have hmem : l[k] ∈ l := List.getElem_mem hlt
    have hway := Hinv.out.way l[k]
    obtain ⟨s, hs⟩ : ∃ s, l[k] = s := ⟨_, rfl⟩
    rw [hs] at p0 p1 p2 p3 p4 hjs hmem hway
    have Hjs := Lib.hid hjs; have Hmem := Lib.hid hmem
    clear hs hjs hmem
    have hL := fun w (h : BookIn w M mc m) => look8 w M mc m s.client s.seq h
    rcases hway with h | ⟨c, v, hc, hc0, hc1, h, hv, hlt2, hp, hr, hf⟩ | ⟨c, t, hc, hc0, hc1, ht, h1, h2, h, hv, hu⟩ | ⟨c, v, hc, hc0, hc1, h, hv, hlt2⟩
    · rw [h] at hL
      have HL := Lib.hid hL
      clear h hL
      go_upto_region 10 with fail
      have hv := heap_alloc_new wr s.blk
      have hal : Below wr.heap.size wr (wr.alloc s.blk) := al _
      change Code.wp _ _ _ _ (wr.alloc s.blk)
      generalize wr.alloc s.blk = wz at *
      have HX := Lib.hid hv; have HS := Lib.hid (HSr.out.below hal); have Hz := Lib.hid hal.size
      clear hal hv
      obtain ⟨x0, x1, x2, x3, x4, xlt⟩ := seen_blk HX.out
      go_upto_region 11 with (go_at_call 8
                              refine (HL.out _ HS.out.book).mono ?_
                              rintro e w2 ⟨J2, jc2, rfl, hr2, hb2⟩
                              have HX2 := Lib.hid (blk_below hb2 (lt_of_some HX.out) HX.out); have HS2 := Lib.hid (HS.out.below hb2); have HR2 := Lib.hid hr2
                              have hz2 := hb2.size
                              clear hb2 hr2 x0 x1 x2 x3 x4 xlt)
      have hy3 : (w2.alloc (resBlk 0 0 (.slice J2 0 jc2))).heap[w2.heap.size]? = some (resBlk 0 0 (.slice J2 0 jc2)) := heap_alloc_new w2 _
      change Code.wp _ _ _ _ (w2.alloc (resBlk 0 0 (.slice J2 0 jc2)))
      have hb3 : Below w2.heap.size w2 (w2.alloc (resBlk 0 0 (.slice J2 0 jc2))) := al _
      generalize w2.alloc (resBlk 0 0 (.slice J2 0 jc2)) = w3 at *
      have HX3 := Lib.hid (blk_below hb3 (lt_of_some HX2.out) HX2.out); have HS3 := Lib.hid (HS2.out.below hb3); have HY3 := Lib.hid hy3; have HR3 := Lib.hid (HR2.out.below hb3)
      have Hz3 := Lib.hid (Nat.le_trans Hz.out (Nat.le_trans hz2 hb3.size))
      clear hb3 hy3 hz2
      obtain ⟨x0, x1, x2, x3, x4, xlt⟩ := seen_blk HX3.out
      go_wp2_with fail
      go_roundw
      case rel => exact ⟨k + 1, M, mc, m, la, D, dc, dn, by omega, by omega, rfl, rfl, by go_num, Hinv.out, Hin.out, by omega, HS3.out⟩
      case measure => simp [intOf]; omega
    · rw [h] at hL
      have HL := Lib.hid hL
      have Hnx := Lib.hid (Hinv.out.step hc (by omega) hr hf)
      have Hc := Lib.hid hc
      clear h hL hr hf hc
      have hP := fun w (h1 : BookIn w M mc m) (h2 : JobsIn w s) => put10_new w M mc m s h1 h2 hp
      have HP := Lib.hid hP
      clear hP hp
      go_upto_region 10 with fail
      have hv := heap_alloc_new wr s.blk
      have hal : Below wr.heap.size wr (wr.alloc s.blk) := al _
      change Code.wp _ _ _ _ (wr.alloc s.blk)
      generalize wr.alloc s.blk = wz at *
      have HX := Lib.hid hv; have HS := Lib.hid (HSr.out.below hal); have Hz := Lib.hid hal.size
      clear hal hv
      obtain ⟨x0, x1, x2, x3, x4, xlt⟩ := seen_blk HX.out
      go_upto_region 11 with (go_at_call 8
                              refine (HL.out _ HS.out.book).mono ?_
                              rintro e w2 ⟨J2, jc2, rfl, hr2, hb2⟩
                              have HX2 := Lib.hid (blk_below hb2 (lt_of_some HX.out) HX.out); have HS2 := Lib.hid (HS.out.below hb2); have HR2 := Lib.hid hr2
                              have hz2 := hb2.size
                              clear hb2 hr2 x0 x1 x2 x3 x4 xlt)
      have hy3 : (w2.alloc (resBlk 0 0 (.slice J2 0 jc2))).heap[w2.heap.size]? = some (resBlk 0 0 (.slice J2 0 jc2)) := heap_alloc_new w2 _
      change Code.wp _ _ _ _ (w2.alloc (resBlk 0 0 (.slice J2 0 jc2)))
      have hb3 : Below w2.heap.size w2 (w2.alloc (resBlk 0 0 (.slice J2 0 jc2))) := al _
      generalize w2.alloc (resBlk 0 0 (.slice J2 0 jc2)) = w3 at *
      have HX3 := Lib.hid (blk_below hb3 (lt_of_some HX2.out) HX2.out); have HS3 := Lib.hid (HS2.out.below hb3); have HY3 := Lib.hid hy3; have HR3 := Lib.hid (HR2.out.below hb3)
      have Hz3 := Lib.hid (Nat.le_trans Hz.out (Nat.le_trans hz2 hb3.size))
      clear hb3 hy3 hz2
      obtain ⟨x0, x1, x2, x3, x4, xlt⟩ := seen_blk HX3.out
      have c1 : ¬ s.client < 1 := by have := Hc.out; omega
      have c2 : decide (s.client < 1) = false := decide_eq_false c1
      have c3 : ¬ (64 : Int) < s.client := by have := Hc.out; omega
      have c4 : decide ((64 : Int) < s.client) = false := decide_eq_false c3
      have c5 : (0 : Int) ≤ s.client := by have := Hc.out; omega
      have c6 : s.client < 65 := by have := Hc.out; omega
      have c7 : s.client.toNat = c := by have := Hc.out; omega
      have d1 : ¬ s.seq ≤ v := by omega
      have d2 : decide (s.seq ≤ v) = false := decide_eq_false d1
      have hcl := HS3.out.cell hv
      have hgl : g < w3.heap.size := (HS3.out.last.lt g rfl).2
      go_upto_region 17 with fail
      refine wp_region_over (by kernel_rfl) (by kernel_rfl) ?_
      repeat (go_big_quiet_step ((fail)))
      refine wpQuiet_nil ?_
      intro _ hw'
      obtain ⟨nx, hw''⟩ := hw'
      subst hw''
      have hbo := below_over w3 nx
      have HX4 := Lib.hid (blk_below hbo (lt_of_some HX3.out) HX3.out); have HS4 := Lib.hid (HS3.out.below hbo)
      clear hbo x0 x1 x2 x3 x4 xlt hcl hgl
      generalize over w3 nx = w4 at *
      obtain ⟨x0, x1, x2, x3, x4, xlt⟩ := seen_blk HX4.out
      go_upto_region 20 with (go_at_call 10
                              refine (HP.out _ HS4.out.book (Hjs.out.below HS4.out.bel)).mono ?_
                              rintro e w5 ⟨M5, c5', m5, rfl, hm, hI, hN, hb⟩
                              have HM5 := Lib.hid hm; have HS5 := Lib.hid (HS4.out.put hI hN hb); have HX5 := Lib.hid (blk_below hb (lt_of_some HX4.out) HX4.out)
                              clear hm hI hN hb x0 x1 x2 x3 x4 xlt)
      obtain ⟨x0, x1, x2, x3, x4, xlt⟩ := seen_blk HX5.out
      have hcl := HS5.out.cell hv
      have hfz : w5.frozen? ⟨g, c, none⟩ = false := HS5.out.last.frozenAt c
      have hng : w.heap.size ≤ g ∧ g < w5.heap.size := HS5.out.last.lt g rfl
      have HS6 := Lib.hid (HS5.out.store c s.seq)
      have hon := only_setCell w5 ⟨g, c, none⟩ (.int .i64 s.seq)
      have hneq : ¬ wr.heap.size = g := fun he => by
        have := (HSr.out.last.lt g rfl).2
        omega
      have HX6 := Lib.hid ((hon.block _ (lt_of_some HX5.out) (by show ¬ wr.heap.size = g; exact hneq)).trans HX5.out)
      go_upto_region 24 with fail
      clear hon hcl hfz hng hneq
      change Code.wp _ _ _ _ (w5.setCell ⟨g, c, none⟩ (.int .i64 s.seq))
      generalize w5.setCell ⟨g, c, none⟩ (.int .i64 s.seq) = w6 at *
      clear x0 x1 x2 x3 x4 xlt
      obtain ⟨x0, x1, x2, x3, x4, xlt⟩ := seen_blk HX6.out
      have hv1 := heap_alloc_new w6 s.blk
      have hr1 : RowAt (w6.alloc s.blk) (w6.alloc s.blk).heap.size 5 (some ⟨w6.heap.size, 0, none⟩) [s.cells] := rowAt_one (l := s.cells) (t := 28) (fr := (0, 0)) hv1 (lt_of_some hv1)
      have Hr1 := Lib.hid hr1
      have HS7 := Lib.hid (HS6.out.below (al (w := w6) s.blk))
      have hone : ∀ u ∈ [s.cells].flatten, u.oneCell' = true := by simpa using one_seen s
      have hfive : ∀ c ∈ [s.cells], c.length = 5 := by simp [Seen.cells]
      have hmx : dn.length + 1 ≤ maxLen := by unfold maxLen; omega
      have hby : (dn.length + 1) * 56 ≤ 140737488355328 := by omega
      have hbs : w.heap.size ≤ (w6.alloc s.blk).heap.size := HS7.out.bel.size
      have hdl2 : (dn ++ [s]).length = dn.length + 1 := by simp
      clear hv1 hr1
      go_wp2_with (at_builtin
                   refine wpList_app _ rfl (.tmp 76) (.tmp 78) 22 rfl 28 j0 _ w.heap.size 5 56 Try.underlying22 hj0 hy0 hy1 hy2 rfl (by omega) (.slice D dn.length dc) dn.length ((dn.map Seen.cells).flatten) rfl HS7.out.done (w6.alloc s.blk).heap.size (some ⟨w6.heap.size, 0, none⟩) 1 1 [s.cells] rfl Hr1.out hfive rfl hone hmx hby hbs ?_
                   intro D8 c8 w8 hO8 hg8 hat8
                   have HS8 := Lib.hid (HS7.out.app s hO8 hg8 hat8)
                   clear hO8 hg8 hat8)
      have hnx : OInv (m5.map Seen.dat) (la.set c s.seq) (dn ++ [s]) := by rw [HM5.out]; exact Hnx.out
      have hin8 : ∀ t ∈ dn ++ [s], t ∈ l := fun t ht => by
        rcases List.mem_append.1 ht with h1 | h1
        · exact Hin.out t h1
        · obtain rfl : t = s := by simpa using h1
          exact Hmem.out
      have Hnx8 := Lib.hid hnx; have Hin8 := Lib.hid hin8
      clear hnx hin8
      go_roundw
      case rel => exact ⟨k + 1, M5, c5', m5, la.set c s.seq, D8, c8, dn ++ [s], by omega, by omega, rfl, by rw [hdl2], by go_num, Hnx8.out, Hin8.out, by omega, HS8.out⟩
      case measure => simp [intOf]; omega
    · rw [h] at hL
      have HL := Lib.hid hL
      have Hu := Lib.hid hu
      have Hfa := Lib.hid (fnd_all ht h1 h2)
      have Hc := Lib.hid hc
      clear h hL hu ht h1 h2 hc
      go_upto_region 10 with fail
      have hv := heap_alloc_new wr s.blk
      have hal : Below wr.heap.size wr (wr.alloc s.blk) := al _
      change Code.wp _ _ _ _ (wr.alloc s.blk)
      generalize wr.alloc s.blk = wz at *
      have HX := Lib.hid hv; have HS := Lib.hid (HSr.out.below hal); have Hz := Lib.hid hal.size
      clear hal hv
      obtain ⟨x0, x1, x2, x3, x4, xlt⟩ := seen_blk HX.out
      go_upto_region 11 with (go_at_call 8
                              refine (HL.out _ HS.out.book).mono ?_
                              rintro e w2 ⟨J2, jc2, rfl, hr2, hb2⟩
                              have HX2 := Lib.hid (blk_below hb2 (lt_of_some HX.out) HX.out); have HS2 := Lib.hid (HS.out.below hb2); have HR2 := Lib.hid hr2
                              have hz2 := hb2.size
                              clear hb2 hr2 x0 x1 x2 x3 x4 xlt)
      have hy3 : (w2.alloc (resBlk t.err t.time (.slice J2 t.jobs.length jc2))).heap[w2.heap.size]? = some (resBlk t.err t.time (.slice J2 t.jobs.length jc2)) := heap_alloc_new w2 _
      change Code.wp _ _ _ _ (w2.alloc (resBlk t.err t.time (.slice J2 t.jobs.length jc2)))
      have hb3 : Below w2.heap.size w2 (w2.alloc (resBlk t.err t.time (.slice J2 t.jobs.length jc2))) := al _
      generalize w2.alloc (resBlk t.err t.time (.slice J2 t.jobs.length jc2)) = w3 at *
      have HX3 := Lib.hid (blk_below hb3 (lt_of_some HX2.out) HX2.out); have HS3 := Lib.hid (HS2.out.below hb3); have HY3 := Lib.hid hy3; have HR3 := Lib.hid (HR2.out.below hb3)
      have Hz3 := Lib.hid (Nat.le_trans Hz.out (Nat.le_trans hz2 hb3.size))
      clear hb3 hy3 hz2
      obtain ⟨x0, x1, x2, x3, x4, xlt⟩ := seen_blk HX3.out
      have c1 : ¬ s.client < 1 := by have := Hc.out; omega
      have c2 : decide (s.client < 1) = false := decide_eq_false c1
      have c3 : ¬ (64 : Int) < s.client := by have := Hc.out; omega
      have c4 : decide ((64 : Int) < s.client) = false := decide_eq_false c3
      have c5 : (0 : Int) ≤ s.client := by have := Hc.out; omega
      have c6 : s.client < 65 := by have := Hc.out; omega
      have c7 : s.client.toNat = c := by have := Hc.out; omega
      go_upto_region 26 with fail
      obtain ⟨wo, rfl⟩ : ∃ wo : World, wo = w3 := ⟨_, rfl⟩
      obtain ⟨wq, rfl⟩ : ∃ wq : World, wq = wr := ⟨_, rfl⟩
      clear x0 x1 x2 x3 x4 xlt
      go_wp2_with fail
      go_loopw [12, 13] (fun fv jv wx => ∃ j : Nat, j ≤ dn.length ∧ jv = .int .i64 j ∧ fv = .bool (fnd dn s j) ∧ Below wo.heap.size wo wx) (fun _ jv _ => dn.length - (intOf jv).toNat)
      case atStart => exact ⟨0, Nat.zero_le _, rfl, rfl, Below.refl _ _⟩
      case round =>
        obtain ⟨j, hj, rfl, rfl, hbx⟩ := hrel
        have Hbx := Lib.hid hbx
        have HX4 := Lib.hid (blk_below hbx (lt_of_some HX3.out) HX3.out); have HS4 := Lib.hid (HS3.out.below hbx)
        obtain ⟨x0, x1, x2, x3, x4, xlt⟩ := seen_blk HX4.out
        by_cases hjl : j < dn.length
        · have hfs := fnd_succ (s := s) hjl
          have hjw := (HI.out.below HS4.out.bel).jobs _ (Hin.out _ (List.getElem_mem hjl))
          have huj := Hu.out _ (List.getElem_mem hjl)
          obtain ⟨gd, rfl, hgd1, hgd2⟩ := own_addr HS4.out.done (by omega)
          obtain ⟨d0, d1, d2, d3, d4⟩ := own_seen rfl HS4.out.done j hjl
          have j1 : (0 : Int) ≤ (j : Int) := by omega
          have j2 : (j : Int) < (dn.length : Int) := by omega
          obtain ⟨u, hu2⟩ : ∃ u, dn[j] = u := ⟨_, rfl⟩
          rw [hu2] at hfs hjw huj d0 d1 d2 d3 d4
          have Hfs := Lib.hid hfs; have Hjw := Lib.hid hjw; have Huj := Lib.hid huj
          obtain ⟨fb, hfb⟩ : ∃ fb, fnd dn s j = fb := ⟨_, rfl⟩
          rw [hfb] at Hfs ⊢
          clear hu2 hfs hjw huj hbx hfb
          cases fb
          · cases e1 : (u.client == s.client)
            · rw [e1] at Hfs
              go_upto_region 30 with fail
              refine wp_region_over (by kernel_rfl) (by kernel_rfl) ?_
              repeat (go_big_quiet_step ((fail)))
              refine wpQuiet_nil ?_
              intro _ hw'
              obtain ⟨nx, hw''⟩ := hw'
              subst hw''
              have hbo := below_over wr nx
              have hbx := Hbx.out.trans (hbo.mono Hbx.out.size)
              clear hbo
              generalize over wr nx = wy at *
              have HBy := Lib.hid hbx
              clear hbx
              go_wp2_with fail
              go_roundw
              case rel => exact ⟨j + 1, by omega, by go_num, by rw [Hfs.out]; rfl, HBy.out⟩
              case measure => simp [intOf]; omega
            · cases e2 : (u.seq == s.seq)
              · rw [e1, e2] at Hfs
                go_upto_region 30 with fail
                refine wp_region_over (by kernel_rfl) (by kernel_rfl) ?_
                repeat (go_big_quiet_step ((fail)))
                refine wpQuiet_nil ?_
                intro _ hw'
                obtain ⟨nx, hw''⟩ := hw'
                subst hw''
                have hbo := below_over wr nx
                have hbx := Hbx.out.trans (hbo.mono Hbx.out.size)
                clear hbo
                generalize over wr nx = wy at *
                have HBy := Lib.hid hbx
                clear hbx
                go_wp2_with fail
                go_roundw
                case rel => exact ⟨j + 1, by omega, by go_num, by rw [Hfs.out]; rfl, HBy.out⟩
                case measure => simp [intOf]; omega
              · rw [e1, e2] at Hfs
                have hut := Huj.out (by simpa using e1) (by simpa using e2)
                simp only [Seen.dat, Prod.mk.injEq] at hut
                obtain ⟨u4, u5, u1, u2, u3⟩ := hut
                obtain ⟨y0, y1, y2, _, _, _⟩ := res_cells (blk_below Hbx.out (lt_of_some HY3.out) HY3.out)
                have hrx := HR3.out.below Hbx.out
                rw [← u1] at y0
                rw [← u2] at y1
                rw [← u3] at y2 hrx
                have hylt : w2.heap.size < wr.heap.size := lt_of_some (blk_below Hbx.out (lt_of_some HY3.out) HY3.out)
                have hC := fun y => result_true (over wr y) u.J J2 u.jc jc2 u.err u.time u.jobs (by have := Hjw.out.2.1; have := Hjw.out.2.2.1; omega) ((Hjw.out.below (below_over wr y)).1) ((hrx.below (below_over wr y)).1)
                have HC := Lib.hid hC
                clear hC u1 u2 u3 u4 u5 hrx
                go_upto_region 30 with fail
                refine wp_region_over (by kernel_rfl) (by kernel_rfl) ?_
                repeat (go_big_quiet_step ((go_at_call 14; exact calls_over (HC.out _))))
                refine wpQuiet_nil ?_
                intro _ hw'
                obtain ⟨nx, hw''⟩ := hw'
                subst hw''
                have hbo := below_over wr nx
                have hbx := Hbx.out.trans (hbo.mono Hbx.out.size)
                clear hbo
                generalize over wr nx = wy at *
                have HBy := Lib.hid hbx
                clear hbx
                go_wp2_with fail
                go_roundw
                case rel => exact ⟨j + 1, by omega, by go_num, by rw [Hfs.out]; rfl, HBy.out⟩
                case measure => simp [intOf]; omega
          · go_upto_region 30 with fail
            refine wp_region_over (by kernel_rfl) (by kernel_rfl) ?_
            repeat (go_big_quiet_step ((fail)))
            refine wpQuiet_nil ?_
            intro _ hw'
            obtain ⟨nx, hw''⟩ := hw'
            subst hw''
            have hbo := below_over wr nx
            have hbx := Hbx.out.trans (hbo.mono Hbx.out.size)
            clear hbo
            generalize over wr nx = wy at *
            have HBy := Lib.hid hbx
            clear hbx
            go_wp2_with fail
            go_roundw
            case rel => exact ⟨j + 1, by omega, by go_num, by rw [Hfs.out]; rfl, HBy.out⟩
            case measure => simp [intOf]; omega
        · obtain rfl : j = dn.length := by omega
          have j2 : ¬ (dn.length : Int) < (dn.length : Int) := by omega
          rw [Hfa.out]
          have hcl := HS4.out.cell hv
          have hgl : g < wr.heap.size := (HS4.out.last.lt g rfl).2
          go_upto_region 31 with fail
          refine wp_region_over (by kernel_rfl) (by kernel_rfl) ?_
          repeat (go_big_quiet_step ((fail)))
          refine wpQuiet_nil ?_
          intro _ hw'
          obtain ⟨nx, hw''⟩ := hw'
          subst hw''
          have hbo := below_over wr nx
          have HS5 := Lib.hid (HS4.out.below hbo)
          clear hbo x0 x1 x2 x3 x4 xlt hcl hgl
          generalize over wr nx = w5 at *
          go_wp2_with fail
          go_roundw
          case rel => exact ⟨k + 1, M, mc, m, la, D, dc, dn, by omega, by omega, rfl, rfl, by go_num, Hinv.out, Hin.out, by omega, HS5.out⟩
          case measure => simp [intOf]; omega
    · rw [h] at hL
      have HL := Lib.hid hL
      have Hc := Lib.hid hc
      clear h hL hc
      go_upto_region 10 with fail
      have hv := heap_alloc_new wr s.blk
      have hal : Below wr.heap.size wr (wr.alloc s.blk) := al _
      change Code.wp _ _ _ _ (wr.alloc s.blk)
      generalize wr.alloc s.blk = wz at *
      have HX := Lib.hid hv; have HS := Lib.hid (HSr.out.below hal); have Hz := Lib.hid hal.size
      clear hal hv
      obtain ⟨x0, x1, x2, x3, x4, xlt⟩ := seen_blk HX.out
      go_upto_region 11 with (go_at_call 8
                              refine (HL.out _ HS.out.book).mono ?_
                              rintro e w2 ⟨J2, jc2, rfl, hr2, hb2⟩
                              have HX2 := Lib.hid (blk_below hb2 (lt_of_some HX.out) HX.out); have HS2 := Lib.hid (HS.out.below hb2); have HR2 := Lib.hid hr2
                              have hz2 := hb2.size
                              clear hb2 hr2 x0 x1 x2 x3 x4 xlt)
      have hy3 : (w2.alloc (resBlk 0 0 (.slice J2 0 jc2))).heap[w2.heap.size]? = some (resBlk 0 0 (.slice J2 0 jc2)) := heap_alloc_new w2 _
      change Code.wp _ _ _ _ (w2.alloc (resBlk 0 0 (.slice J2 0 jc2)))
      have hb3 : Below w2.heap.size w2 (w2.alloc (resBlk 0 0 (.slice J2 0 jc2))) := al _
      generalize w2.alloc (resBlk 0 0 (.slice J2 0 jc2)) = w3 at *
      have HX3 := Lib.hid (blk_below hb3 (lt_of_some HX2.out) HX2.out); have HS3 := Lib.hid (HS2.out.below hb3); have HY3 := Lib.hid hy3; have HR3 := Lib.hid (HR2.out.below hb3)
      have Hz3 := Lib.hid (Nat.le_trans Hz.out (Nat.le_trans hz2 hb3.size))
      clear hb3 hy3 hz2
      obtain ⟨x0, x1, x2, x3, x4, xlt⟩ := seen_blk HX3.out
      have c1 : ¬ s.client < 1 := by have := Hc.out; omega
      have c2 : decide (s.client < 1) = false := decide_eq_false c1
      have c3 : ¬ (64 : Int) < s.client := by have := Hc.out; omega
      have c4 : decide ((64 : Int) < s.client) = false := decide_eq_false c3
      have c5 : (0 : Int) ≤ s.client := by have := Hc.out; omega
      have c6 : s.client < 65 := by have := Hc.out; omega
      have c7 : s.client.toNat = c := by have := Hc.out; omega
      have d1 : ¬ v ≤ s.seq := by omega
      have d2 : decide (v ≤ s.seq) = false := decide_eq_false d1
      have hcl := HS3.out.cell hv
      have hgl : g < w3.heap.size := (HS3.out.last.lt g rfl).2
      go_upto_region 34 with fail
      refine wp_region_over (by kernel_rfl) (by kernel_rfl) ?_
      repeat (go_big_quiet_step ((fail)))
      refine wpQuiet_nil ?_
      intro _ hw'
      obtain ⟨nx, hw''⟩ := hw'
      subst hw''
      have hbo := below_over w3 nx
      have HS4 := Lib.hid (HS3.out.below hbo)
      clear hbo x0 x1 x2 x3 x4 xlt hcl hgl
      generalize over w3 nx = w4 at *
      go_wp2_with fail
      go_roundw
      case rel => exact ⟨k + 1, M, mc, m, la, D, dc, dn, by omega, by omega, rfl, rfl, by go_num, Hinv.out, Hin.out, by omega, HS4.out⟩
      case measure => simp [intOf]; omega
end Go.Proofs.Ytofdkincbhahfaa
