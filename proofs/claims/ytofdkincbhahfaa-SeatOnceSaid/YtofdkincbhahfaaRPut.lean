/- What is proved: what a session put into a book makes: the document's Put. -/
import Derived.Test.YtofdkincbhahfaaMerge
import Derived.Test.YtofdkincbhahfaaPlain
set_option linter.unusedVariables false
set_option linter.unusedSimpArgs false
namespace Go.Proofs.Ytofdkincbhahfaa
open Go.RowKit
attribute [local go_sem] Seen.val cell_over frozen_over

set_option maxRecDepth 100000 in
set_option maxHeartbeats 4000000 in
theorem rput_bad (A : Option Addr) (cap : Nat) (l : List Seen) (s : Seen) (hb : tr (BookOk l) = false) : Puts 11 A cap l s [] 4 := by
  intro w h hjs
  have hl : l.length ≤ 9223372036854775807 := Nat.le_trans h.ncap h.cmax
  have H := Lib.hid h; have HJ := Lib.hid hjs
  have hC := fun w (h : BookIn w A cap l) => rCheck_any w A cap l h.row hl
  rw [hb] at hC
  have HC := Lib.hid hC; clear hC
  clear h hjs
  go_enter Try.func11, Try.ntmps11
  go_upto_region 1 with fail
  have hX0 : (w.alloc s.blk).heap[w.heap.size]? = some s.blk := heap_alloc_new w _
  change Code.wp _ _ _ _ (w.alloc s.blk)
  have hB0 : Below w.heap.size w (w.alloc s.blk) := al _
  generalize (w.alloc s.blk) = w0 at *
  have HX0 := Lib.hid hX0; have HB0 := Lib.hid hB0
  clear hX0 hB0
  go_upto_region 2 with (first
                | (go_at_call 13
                   refine (HC.out _ (H.out.below HB0.out)).mono ?_
                   rintro e w1 ⟨rfl, hb1⟩
                   have HX1 := Lib.hid (blk_below hb1 (lt_of_some HX0.out) HX0.out)
                   have HB1 := Lib.hid (HB0.out.trans (hb1.mono HB0.out.size))
                   obtain ⟨x0, x1, x2, x3, x4, xlt⟩ := seen_blk HX1.out
                   clear hb1))
  go_wp2_with fail
  go_ret2
  exact ⟨none, 0, [], rfl, rfl, book_nil _, HB1.out⟩
set_option maxRecDepth 100000 in
set_option maxHeartbeats 4000000 in
theorem rput_arg (A : Option Addr) (cap : Nat) (l : List Seen) (s : Seen) (hb : tr (BookOk l) = true) (hr : rightB s.client s.seq = false) : Puts 11 A cap l s [] 1 := by
  intro w h hjs
  have hl : l.length ≤ 9223372036854775807 := Nat.le_trans h.ncap h.cmax
  have H := Lib.hid h; have HJ := Lib.hid hjs
  have hC := fun w (h : BookIn w A cap l) => rCheck_any w A cap l h.row hl
  rw [hb] at hC
  have HC := Lib.hid hC; clear hC
  have hR : ∀ w, Calls Try.prog 21 #[.int .i64 s.client, .int .i64 s.seq] w fun e w' => e = .returned (.bool false) ∧ Below w.heap.size w w' := fun w => by
    have := rRight_any w s.client s.seq
    rw [hr] at this
    exact this.mono fun e w' ⟨h1, h2⟩ => ⟨h1, h2 ▸ Below.refl _ _⟩
  have HR := Lib.hid hR; clear hR
  clear h hjs
  go_enter Try.func11, Try.ntmps11
  go_upto_region 1 with fail
  have hX0 : (w.alloc s.blk).heap[w.heap.size]? = some s.blk := heap_alloc_new w _
  change Code.wp _ _ _ _ (w.alloc s.blk)
  have hB0 : Below w.heap.size w (w.alloc s.blk) := al _
  generalize (w.alloc s.blk) = w0 at *
  have HX0 := Lib.hid hX0; have HB0 := Lib.hid hB0
  clear hX0 hB0
  go_upto_region 4 with (first
                | (go_at_call 13
                   refine (HC.out _ (H.out.below HB0.out)).mono ?_
                   rintro e w1 ⟨rfl, hb1⟩
                   have HX1 := Lib.hid (blk_below hb1 (lt_of_some HX0.out) HX0.out)
                   have HB1 := Lib.hid (HB0.out.trans (hb1.mono HB0.out.size))
                   obtain ⟨x0, x1, x2, x3, x4, xlt⟩ := seen_blk HX1.out
                   clear hb1)
                | (go_at_call 21
                   refine (HR.out _).mono ?_
                   rintro e w2 ⟨rfl, hb2⟩
                   have HX2 := Lib.hid (blk_below hb2 (lt_of_some HX1.out) HX1.out)
                   have HB2 := Lib.hid (HB1.out.trans (hb2.mono HB1.out.size))
                   obtain ⟨x0, x1, x2, x3, x4, xlt⟩ := seen_blk HX2.out
                   clear hb2))
  go_wp2_with fail
  go_ret2
  exact ⟨none, 0, [], rfl, rfl, book_nil _, HB2.out⟩
set_option maxRecDepth 100000 in
set_option maxHeartbeats 4000000 in
theorem rput_stale (A : Option Addr) (cap : Nat) (l : List Seen) (s : Seen) (hb : tr (BookOk l) = true) (hr : rightB s.client s.seq = true) (i : Nat) (hi : i < l.length) (hne : ∀ k (h : k < l.length), ¬ k = i → ¬ l[k].client = s.client) (t : Seen) (hs : l[i] = t) (hc1 : (t.client == s.client) = true) (hq : s.seq ≤ t.seq) (hq2 : decide (s.seq ≤ t.seq) = true) : Puts 11 A cap l s [] 160 := by
  intro w h hjs
  have hl : l.length ≤ 9223372036854775807 := Nat.le_trans h.ncap h.cmax
  have H := Lib.hid h; have HJ := Lib.hid hjs
  have hC := fun w (h : BookIn w A cap l) => rCheck_any w A cap l h.row hl
  rw [hb] at hC
  have HC := Lib.hid hC; clear hC
  have hR : ∀ w, Calls Try.prog 21 #[.int .i64 s.client, .int .i64 s.seq] w fun e w' => e = .returned (.bool true) ∧ Below w.heap.size w w' := fun w => by
    have := rRight_any w s.client s.seq
    rw [hr] at this
    exact this.mono fun e w' ⟨h1, h2⟩ => ⟨h1, h2 ▸ Below.refl _ _⟩
  have HR := Lib.hid hR; clear hR
  clear h hjs
  go_enter Try.func11, Try.ntmps11
  go_upto_region 1 with fail
  have hX0 : (w.alloc s.blk).heap[w.heap.size]? = some s.blk := heap_alloc_new w _
  change Code.wp _ _ _ _ (w.alloc s.blk)
  have hB0 : Below w.heap.size w (w.alloc s.blk) := al _
  generalize (w.alloc s.blk) = w0 at *
  have HX0 := Lib.hid hX0; have HB0 := Lib.hid hB0
  clear hX0 hB0
  go_upto_region 5 with (first
                | (go_at_call 13
                   refine (HC.out _ (H.out.below HB0.out)).mono ?_
                   rintro e w1 ⟨rfl, hb1⟩
                   have HX1 := Lib.hid (blk_below hb1 (lt_of_some HX0.out) HX0.out)
                   have HB1 := Lib.hid (HB0.out.trans (hb1.mono HB0.out.size))
                   obtain ⟨x0, x1, x2, x3, x4, xlt⟩ := seen_blk HX1.out
                   clear hb1)
                | (go_at_call 21
                   refine (HR.out _).mono ?_
                   rintro e w2 ⟨rfl, hb2⟩
                   have HX2 := Lib.hid (blk_below hb2 (lt_of_some HX1.out) HX1.out)
                   have HB2 := Lib.hid (HB1.out.trans (hb2.mono HB1.out.size))
                   obtain ⟨x0, x1, x2, x3, x4, xlt⟩ := seen_blk HX2.out
                   clear hb2))
  go_wp2_with fail
  go_loopw [6] (fun v wr => ∃ k : Nat, k ≤ i ∧ v = .int .i64 k ∧ Below w2.heap.size w2 wr) (fun v _ => l.length - (intOf v).toNat)
  case atStart => exact ⟨0, Nat.zero_le _, rfl, Below.refl _ _⟩
  case round =>
    clear x0 x1 x2 x3 x4 xlt
    obtain ⟨k, hk, rfl, hbel⟩ := hrel
    have HX3 := Lib.hid (blk_below hbel (lt_of_some HX2.out) HX2.out)
    have HB3 := Lib.hid (HB2.out.trans (hbel.mono HB2.out.size))
    have Hbel := Lib.hid hbel
    clear hbel
    obtain ⟨x0, x1, x2, x3, x4, xlt⟩ := seen_blk HX3.out
    by_cases hlt : k < l.length
    · obtain ⟨g, off, rfl, hg, p0, p1, p2, p3, p4⟩ := seen_cells (H.out.below HB3.out).row k hlt
      have hk1 : (0 : Int) ≤ (k : Int) := by omega
      have hk2 : (k : Int) < (l.length : Int) := by omega
      have hnk := hne k hlt
      by_cases hki : k = i
      · subst hki
        rw [hs] at p0 p1 p2 p3 p4
        clear hnk
        go_upto_region 8 with fail
        refine wp_region_over (by kernel_rfl) (by kernel_rfl) ?_
        repeat (go_big_quiet_step ((fail)))
        refine wpQuiet_nil ?_
        intro _ hw'
        obtain ⟨nx, hw''⟩ := hw'
        subst hw''
        have hbo := below_over wr nx
        have Hbel2 := Lib.hid (Hbel.out.trans (hbo.mono Hbel.out.size))
        have HB4 := Lib.hid (HB3.out.trans (hbo.mono HB3.out.size))
        clear hbo
        clear x0 x1 x2 x3 x4 xlt p0 p1 p2 p3 p4
        generalize over wr nx = w4 at *
        go_wp2_with fail
        go_ret2
        exact ⟨none, 0, [], rfl, rfl, book_nil _, HB4.out⟩
      · have hne1 := hnk hki
        obtain ⟨s1, hs1⟩ : ∃ s1, l[k] = s1 := ⟨_, rfl⟩
        rw [hs1] at p0 p1 p2 p3 p4 hne1
        have hne2 : (s1.client == s.client) = false := by simpa using hne1
        clear hs1 hnk hc1 hq hq2 hne1
        go_upto_region 8 with fail
        refine wp_region_over (by kernel_rfl) (by kernel_rfl) ?_
        repeat (go_big_quiet_step ((fail)))
        refine wpQuiet_nil ?_
        intro _ hw'
        obtain ⟨nx, hw''⟩ := hw'
        subst hw''
        have hbo := below_over wr nx
        have Hbel2 := Lib.hid (Hbel.out.trans (hbo.mono Hbel.out.size))
        have HB4 := Lib.hid (HB3.out.trans (hbo.mono HB3.out.size))
        clear hbo
        clear x0 x1 x2 x3 x4 xlt p0 p1 p2 p3 p4
        generalize over wr nx = w4 at *
        go_wp2_with fail
        go_roundw
        case rel => exact ⟨k + 1, by omega, by go_num, Hbel2.out⟩
        case measure => simp [intOf]; omega
    · omega
set_option maxRecDepth 100000 in
set_option maxHeartbeats 4000000 in
theorem rput_ok (A : Option Addr) (cap : Nat) (l : List Seen) (s : Seen) (hb : tr (BookOk l) = true) (hr : rightB s.client s.seq = true) (hne : ∀ k (h : k < l.length), l[k].client = s.client → l[k].seq < s.seq) : Puts 11 A cap l s (mergeL l [s]) 0 := by
  intro w h hjs
  have hl : l.length ≤ 9223372036854775807 := Nat.le_trans h.ncap h.cmax
  have H := Lib.hid h; have HJ := Lib.hid hjs
  have hC := fun w (h : BookIn w A cap l) => rCheck_any w A cap l h.row hl
  rw [hb] at hC
  have HC := Lib.hid hC; clear hC
  have hR : ∀ w, Calls Try.prog 21 #[.int .i64 s.client, .int .i64 s.seq] w fun e w' => e = .returned (.bool true) ∧ Below w.heap.size w w' := fun w => by
    have := rRight_any w s.client s.seq
    rw [hr] at this
    exact this.mono fun e w' ⟨h1, h2⟩ => ⟨h1, h2 ▸ Below.refl _ _⟩
  have HR := Lib.hid hR; clear hR
  have hl64 := book_len (of_tr hb)
  clear h hjs
  go_enter Try.func11, Try.ntmps11
  go_upto_region 1 with fail
  have hX0 : (w.alloc s.blk).heap[w.heap.size]? = some s.blk := heap_alloc_new w _
  change Code.wp _ _ _ _ (w.alloc s.blk)
  have hB0 : Below w.heap.size w (w.alloc s.blk) := al _
  generalize (w.alloc s.blk) = w0 at *
  have HX0 := Lib.hid hX0; have HB0 := Lib.hid hB0
  clear hX0 hB0
  go_upto_region 5 with (first
                | (go_at_call 13
                   refine (HC.out _ (H.out.below HB0.out)).mono ?_
                   rintro e w1 ⟨rfl, hb1⟩
                   have HX1 := Lib.hid (blk_below hb1 (lt_of_some HX0.out) HX0.out)
                   have HB1 := Lib.hid (HB0.out.trans (hb1.mono HB0.out.size))
                   obtain ⟨x0, x1, x2, x3, x4, xlt⟩ := seen_blk HX1.out
                   clear hb1)
                | (go_at_call 21
                   refine (HR.out _).mono ?_
                   rintro e w2 ⟨rfl, hb2⟩
                   have HX2 := Lib.hid (blk_below hb2 (lt_of_some HX1.out) HX1.out)
                   have HB2 := Lib.hid (HB1.out.trans (hb2.mono HB1.out.size))
                   obtain ⟨x0, x1, x2, x3, x4, xlt⟩ := seen_blk HX2.out
                   clear hb2))
  go_wp2_with fail
  go_loopw [6] (fun v wr => ∃ k : Nat, k ≤ l.length ∧ v = .int .i64 k ∧ Below w2.heap.size w2 wr) (fun v _ => l.length - (intOf v).toNat)
  case atStart => exact ⟨0, Nat.zero_le _, rfl, Below.refl _ _⟩
  case round =>
    clear x0 x1 x2 x3 x4 xlt
    obtain ⟨k, hk, rfl, hbel⟩ := hrel
    have HX3 := Lib.hid (blk_below hbel (lt_of_some HX2.out) HX2.out)
    have HB3 := Lib.hid (HB2.out.trans (hbel.mono HB2.out.size))
    have Hbel := Lib.hid hbel
    clear hbel
    obtain ⟨x0, x1, x2, x3, x4, xlt⟩ := seen_blk HX3.out
    by_cases hlt : k < l.length
    · obtain ⟨g, off, rfl, hg, p0, p1, p2, p3, p4⟩ := seen_cells (H.out.below HB3.out).row k hlt
      have hk1 : (0 : Int) ≤ (k : Int) := by omega
      have hk2 : (k : Int) < (l.length : Int) := by omega
      have hnk := hne k hlt
      obtain ⟨s1, hs1⟩ : ∃ s1, l[k] = s1 := ⟨_, rfl⟩
      rw [hs1] at p0 p1 p2 p3 p4 hnk
      clear hs1
      by_cases hc : s1.client = s.client
      · have hc1 : (s1.client == s.client) = true := by simpa using hc
        have hq : ¬ s.seq ≤ s1.seq := by have := hnk hc; omega
        have hq2 : decide (s.seq ≤ s1.seq) = false := decide_eq_false hq
        clear hc hnk
        go_upto_region 8 with fail
        refine wp_region_over (by kernel_rfl) (by kernel_rfl) ?_
        repeat (go_big_quiet_step ((fail)))
        refine wpQuiet_nil ?_
        intro _ hw'
        obtain ⟨nx, hw''⟩ := hw'
        subst hw''
        have hbo := below_over wr nx
        have Hbel2 := Lib.hid (Hbel.out.trans (hbo.mono Hbel.out.size))
        have HB4 := Lib.hid (HB3.out.trans (hbo.mono HB3.out.size))
        clear hbo
        clear x0 x1 x2 x3 x4 xlt p0 p1 p2 p3 p4
        generalize over wr nx = w4 at *
        go_wp2_with fail
        go_roundw
        case rel => exact ⟨k + 1, by omega, by go_num, Hbel2.out⟩
        case measure => simp [intOf]; omega
      · have hc1 : (s1.client == s.client) = false := by simpa using hc
        clear hc hnk
        go_upto_region 8 with fail
        refine wp_region_over (by kernel_rfl) (by kernel_rfl) ?_
        repeat (go_big_quiet_step ((fail)))
        refine wpQuiet_nil ?_
        intro _ hw'
        obtain ⟨nx, hw''⟩ := hw'
        subst hw''
        have hbo := below_over wr nx
        have Hbel2 := Lib.hid (Hbel.out.trans (hbo.mono Hbel.out.size))
        have HB4 := Lib.hid (HB3.out.trans (hbo.mono HB3.out.size))
        clear hbo
        clear x0 x1 x2 x3 x4 xlt p0 p1 p2 p3 p4
        generalize over wr nx = w4 at *
        go_wp2_with fail
        go_roundw
        case rel => exact ⟨k + 1, by omega, by go_num, Hbel2.out⟩
        case measure => simp [intOf]; omega
    · have l1 : ¬ (k : Int) < (l.length : Int) := by omega
      go_upto_region 10 with fail
      have hv := heap_alloc_new wr s.blk
      have hal : Below wr.heap.size wr (wr.alloc s.blk) := al _
      have hlt2 := lt_of_some hv
      have hbk : BookIn (wr.alloc s.blk) (some ⟨wr.heap.size, 0, none⟩) 1 [s] :=
        ⟨rowAt_one (l := s.cells) (t := 28) (fr := (0, 0)) hv hlt2, Nat.le_refl _, by decide, fun s1 hs1 => by
          rcases List.mem_cons.1 hs1 with rfl | h1
          · exact (HJ.out.below HB3.out).below hal
          · cases h1⟩
      have hm := merge_any (wr.alloc s.blk) A (some ⟨wr.heap.size, 0, none⟩) cap 1 l [s] ((H.out.below HB3.out).below hal) hbk hl64 (by simp)
      have HM := Lib.hid hm
      have HA := Lib.hid (HB3.out.trans (hal.mono HB3.out.size))
      clear hm hbk hal hv hlt2
      go_wp2_with (go_at_call 24
                   refine HM.out.mono ?_
                   rintro e w5 ⟨M, mc, rfl, hO5, hb5⟩
                   have HO5 := Lib.hid hO5
                   have HB5 := Lib.hid (HA.out.trans (hb5.mono HA.out.size))
                   clear hO5 hb5)
      go_ret2
      exact ⟨M, mc, mergeL l [s], rfl, rfl, BookIn.ofOwn HO5.out (fun s1 hs1 => by
        rcases mergeL_mem _ _ _ (Nat.le_refl _) s1 hs1 with h1 | h1
        · exact (H.out.jobs s1 h1).below HB5.out
        · rcases List.mem_cons.1 h1 with rfl | h2
          · exact HJ.out.below HB5.out
          · cases h2), HB5.out⟩
end Go.Proofs.Ytofdkincbhahfaa
