/- What is proved: what a client was answered: the document's Look. -/
import Derived.Test.YtofdkincbhahfaaLook
set_option linter.unusedVariables false
set_option linter.unusedSimpArgs false
namespace Go.Proofs.Ytofdkincbhahfaa
open Go.RowKit
attribute [local go_sem] Seen.val

set_option maxRecDepth 100000 in
set_option maxHeartbeats 4000000 in
theorem rlook_bad (A : Option Addr) (cap : Nat) (l : List Seen) (c q : Int) (hb : tr (BookOk l) = false) : Looks 9 A cap l c q (noAns 4) := by
  intro w h
  have hl : l.length ≤ 9223372036854775807 := Nat.le_trans h.ncap h.cmax
  have H := Lib.hid h
  have hC := fun w (h : BookIn w A cap l) => rCheck_any w A cap l h.row hl
  rw [hb] at hC
  have HC := Lib.hid hC; clear hC
  clear h
  go_enter Try.func9, Try.ntmps9
  go_upto_region 1 with fail
  have hX0 : (w.alloc (resBlk 0 0 (.slice none 0 0))).heap[w.heap.size]? = some (resBlk 0 0 (.slice none 0 0)) := heap_alloc_new w _
  change Code.wp _ _ _ _ (w.alloc (resBlk 0 0 (.slice none 0 0)))
  have hB0 : Below w.heap.size w (w.alloc (resBlk 0 0 (.slice none 0 0))) := al _
  generalize w.alloc (resBlk 0 0 (.slice none 0 0)) = w0 at *
  have HX0 := Lib.hid hX0; have HB0 := Lib.hid hB0
  clear hX0 hB0
  go_upto_region 2 with (first
                | (go_at_call 13
                   refine (HC.out _ (H.out.below HB0.out)).mono ?_
                   rintro e w1 ⟨rfl, hb1⟩
                   have HX1 := Lib.hid (blk_below hb1 (lt_of_some HX0.out) HX0.out)
                   have HB1 := Lib.hid (HB0.out.trans (hb1.mono HB0.out.size))
                   clear hb1))
  obtain ⟨c0, c1, c2, f0, f1, f2⟩ := res_cells HX1.out
  have Hs := Lib.hid (res_set (e' := 0) (t' := 0) (j' := .slice none 0 0) HX1.out)
  have Ho := Lib.hid ((res_only w1 w.heap.size (.int .i64 0) (.int .i64 0) (.slice none 0 0)).below HB1.out (fun k hk => by have hk : k = w.heap.size := hk; omega) HB1.out.size)
  go_wp2_with fail
  refine bodyPost_ret (results26 rfl _ _ w.heap.size rfl Hs.out) rfl ?_
  exact ⟨none, 0, rfl, resIn_nil _, Ho.out⟩
set_option maxRecDepth 100000 in
set_option maxHeartbeats 4000000 in
theorem rlook_arg (A : Option Addr) (cap : Nat) (l : List Seen) (c q : Int) (hb : tr (BookOk l) = true) (hr : rightB c q = false) : Looks 9 A cap l c q (noAns 1) := by
  intro w h
  have hl : l.length ≤ 9223372036854775807 := Nat.le_trans h.ncap h.cmax
  have H := Lib.hid h
  have hC := fun w (h : BookIn w A cap l) => rCheck_any w A cap l h.row hl
  rw [hb] at hC
  have HC := Lib.hid hC; clear hC
  have hR : ∀ w, Calls Try.prog 21 #[.int .i64 c, .int .i64 q] w fun e w' => e = .returned (.bool false) ∧ Below w.heap.size w w' := fun w => by
    have := rRight_any w c q
    rw [hr] at this
    exact this.mono fun e w' ⟨h1, h2⟩ => ⟨h1, h2 ▸ Below.refl _ _⟩
  have HR := Lib.hid hR; clear hR
  clear h
  go_enter Try.func9, Try.ntmps9
  go_upto_region 1 with fail
  have hX0 : (w.alloc (resBlk 0 0 (.slice none 0 0))).heap[w.heap.size]? = some (resBlk 0 0 (.slice none 0 0)) := heap_alloc_new w _
  change Code.wp _ _ _ _ (w.alloc (resBlk 0 0 (.slice none 0 0)))
  have hB0 : Below w.heap.size w (w.alloc (resBlk 0 0 (.slice none 0 0))) := al _
  generalize w.alloc (resBlk 0 0 (.slice none 0 0)) = w0 at *
  have HX0 := Lib.hid hX0; have HB0 := Lib.hid hB0
  clear hX0 hB0
  go_upto_region 4 with (first
                | (go_at_call 13
                   refine (HC.out _ (H.out.below HB0.out)).mono ?_
                   rintro e w1 ⟨rfl, hb1⟩
                   have HX1 := Lib.hid (blk_below hb1 (lt_of_some HX0.out) HX0.out)
                   have HB1 := Lib.hid (HB0.out.trans (hb1.mono HB0.out.size))
                   clear hb1)
                | (go_at_call 21
                   refine (HR.out _).mono ?_
                   rintro e w2 ⟨rfl, hb2⟩
                   have HX2 := Lib.hid (blk_below hb2 (lt_of_some HX1.out) HX1.out)
                   have HB2 := Lib.hid (HB1.out.trans (hb2.mono HB1.out.size))
                   clear hb2))
  obtain ⟨c0, c1, c2, f0, f1, f2⟩ := res_cells HX2.out
  have Hs := Lib.hid (res_set (e' := 0) (t' := 0) (j' := .slice none 0 0) HX2.out)
  have Ho := Lib.hid ((res_only w2 w.heap.size (.int .i64 0) (.int .i64 0) (.slice none 0 0)).below HB2.out (fun k hk => by have hk : k = w.heap.size := hk; omega) HB2.out.size)
  go_wp2_with fail
  refine bodyPost_ret (results26 rfl _ _ w.heap.size rfl Hs.out) rfl ?_
  exact ⟨none, 0, rfl, resIn_nil _, Ho.out⟩
set_option maxRecDepth 100000 in
set_option maxHeartbeats 4000000 in
theorem rlook_no (A : Option Addr) (cap : Nat) (l : List Seen) (c q : Int) (hb : tr (BookOk l) = true) (hr : rightB c q = true) (hne : ∀ k (h : k < l.length), ¬ l[k].client = c) : Looks 9 A cap l c q (noAns 60) := by
  intro w h
  have hl : l.length ≤ 9223372036854775807 := Nat.le_trans h.ncap h.cmax
  have H := Lib.hid h
  have hC := fun w (h : BookIn w A cap l) => rCheck_any w A cap l h.row hl
  rw [hb] at hC
  have HC := Lib.hid hC; clear hC
  have hR : ∀ w, Calls Try.prog 21 #[.int .i64 c, .int .i64 q] w fun e w' => e = .returned (.bool true) ∧ Below w.heap.size w w' := fun w => by
    have := rRight_any w c q
    rw [hr] at this
    exact this.mono fun e w' ⟨h1, h2⟩ => ⟨h1, h2 ▸ Below.refl _ _⟩
  have HR := Lib.hid hR; clear hR
  clear h
  go_enter Try.func9, Try.ntmps9
  go_upto_region 1 with fail
  have hX0 : (w.alloc (resBlk 0 0 (.slice none 0 0))).heap[w.heap.size]? = some (resBlk 0 0 (.slice none 0 0)) := heap_alloc_new w _
  change Code.wp _ _ _ _ (w.alloc (resBlk 0 0 (.slice none 0 0)))
  have hB0 : Below w.heap.size w (w.alloc (resBlk 0 0 (.slice none 0 0))) := al _
  generalize w.alloc (resBlk 0 0 (.slice none 0 0)) = w0 at *
  have HX0 := Lib.hid hX0; have HB0 := Lib.hid hB0
  clear hX0 hB0
  go_upto_region 5 with (first
                | (go_at_call 13
                   refine (HC.out _ (H.out.below HB0.out)).mono ?_
                   rintro e w1 ⟨rfl, hb1⟩
                   have HX1 := Lib.hid (blk_below hb1 (lt_of_some HX0.out) HX0.out)
                   have HB1 := Lib.hid (HB0.out.trans (hb1.mono HB0.out.size))
                   clear hb1)
                | (go_at_call 21
                   refine (HR.out _).mono ?_
                   rintro e w2 ⟨rfl, hb2⟩
                   have HX2 := Lib.hid (blk_below hb2 (lt_of_some HX1.out) HX1.out)
                   have HB2 := Lib.hid (HB1.out.trans (hb2.mono HB1.out.size))
                   clear hb2))
  go_wp2_with fail
  go_loopw [8] (fun v wr => ∃ k : Nat, k ≤ l.length ∧ v = .int .i64 k ∧ Below w2.heap.size w2 wr) (fun v _ => l.length - (intOf v).toNat)
  case atStart => exact ⟨0, Nat.zero_le _, rfl, Below.refl _ _⟩
  case round =>
    obtain ⟨k, hk, rfl, hbel⟩ := hrel
    have HX3 := Lib.hid (blk_below hbel (lt_of_some HX2.out) HX2.out)
    have HB3 := Lib.hid (HB2.out.trans (hbel.mono HB2.out.size))
    have Hbel := Lib.hid hbel
    clear hbel
    by_cases hlt : k < l.length
    · obtain ⟨g, off, rfl, hg, p0, p1, p2, p3, p4⟩ := seen_cells (H.out.below HB3.out).row k hlt
      have hk1 : (0 : Int) ≤ (k : Int) := by omega
      have hk2 : (k : Int) < (l.length : Int) := by omega
      have hnk := hne k hlt
      have hne1 := hnk
      obtain ⟨s1, hs1⟩ : ∃ s1, l[k] = s1 := ⟨_, rfl⟩
      rw [hs1] at p0 p1 p2 p3 p4 hne1
      have hne2 : (s1.client == c) = false := by simpa using hne1
      clear hs1 hnk
      go_wp2_with fail
      go_roundw
      case rel => exact ⟨k + 1, by omega, by go_num, Hbel.out⟩
      case measure => simp [intOf]; omega
    · skip
      have l1 : ¬ (k : Int) < (l.length : Int) := by omega
      obtain ⟨c0, c1, c2, f0, f1, f2⟩ := res_cells HX3.out
      have Hs := Lib.hid (res_set (e' := 0) (t' := 0) (j' := .slice none 0 0) HX3.out)
      have Ho := Lib.hid ((res_only wr w.heap.size (.int .i64 0) (.int .i64 0) (.slice none 0 0)).below HB3.out (fun k hk => by have hk : k = w.heap.size := hk; omega) HB3.out.size)
      go_upto_region 12 with fail
      go_wp2_with fail
      refine bodyPost_ret (results26 rfl _ _ w.heap.size rfl Hs.out) rfl ?_
      exact ⟨none, 0, rfl, resIn_nil _, Ho.out⟩
set_option maxRecDepth 100000 in
set_option maxHeartbeats 4000000 in
theorem rlook_less (A : Option Addr) (cap : Nat) (l : List Seen) (c q : Int) (hb : tr (BookOk l) = true) (hr : rightB c q = true) (i : Nat) (hi : i < l.length) (hne : ∀ k (h : k < l.length), ¬ k = i → ¬ l[k].client = c) (s : Seen) (hs : l[i] = s) (hc1 : (s.client == c) = true) (hq1 : (s.seq == q) = false) (hq2 : ¬ (q < s.seq)) (hq3 : decide (q < s.seq) = false) : Looks 9 A cap l c q (noAns 60) := by
  intro w h
  have hl : l.length ≤ 9223372036854775807 := Nat.le_trans h.ncap h.cmax
  have H := Lib.hid h
  have hC := fun w (h : BookIn w A cap l) => rCheck_any w A cap l h.row hl
  rw [hb] at hC
  have HC := Lib.hid hC; clear hC
  have hR : ∀ w, Calls Try.prog 21 #[.int .i64 c, .int .i64 q] w fun e w' => e = .returned (.bool true) ∧ Below w.heap.size w w' := fun w => by
    have := rRight_any w c q
    rw [hr] at this
    exact this.mono fun e w' ⟨h1, h2⟩ => ⟨h1, h2 ▸ Below.refl _ _⟩
  have HR := Lib.hid hR; clear hR
  clear h
  go_enter Try.func9, Try.ntmps9
  go_upto_region 1 with fail
  have hX0 : (w.alloc (resBlk 0 0 (.slice none 0 0))).heap[w.heap.size]? = some (resBlk 0 0 (.slice none 0 0)) := heap_alloc_new w _
  change Code.wp _ _ _ _ (w.alloc (resBlk 0 0 (.slice none 0 0)))
  have hB0 : Below w.heap.size w (w.alloc (resBlk 0 0 (.slice none 0 0))) := al _
  generalize w.alloc (resBlk 0 0 (.slice none 0 0)) = w0 at *
  have HX0 := Lib.hid hX0; have HB0 := Lib.hid hB0
  clear hX0 hB0
  go_upto_region 5 with (first
                | (go_at_call 13
                   refine (HC.out _ (H.out.below HB0.out)).mono ?_
                   rintro e w1 ⟨rfl, hb1⟩
                   have HX1 := Lib.hid (blk_below hb1 (lt_of_some HX0.out) HX0.out)
                   have HB1 := Lib.hid (HB0.out.trans (hb1.mono HB0.out.size))
                   clear hb1)
                | (go_at_call 21
                   refine (HR.out _).mono ?_
                   rintro e w2 ⟨rfl, hb2⟩
                   have HX2 := Lib.hid (blk_below hb2 (lt_of_some HX1.out) HX1.out)
                   have HB2 := Lib.hid (HB1.out.trans (hb2.mono HB1.out.size))
                   clear hb2))
  go_wp2_with fail
  go_loopw [8] (fun v wr => ∃ k : Nat, k ≤ l.length ∧ v = .int .i64 k ∧ Below w2.heap.size w2 wr) (fun v _ => l.length - (intOf v).toNat)
  case atStart => exact ⟨0, Nat.zero_le _, rfl, Below.refl _ _⟩
  case round =>
    obtain ⟨k, hk, rfl, hbel⟩ := hrel
    have HX3 := Lib.hid (blk_below hbel (lt_of_some HX2.out) HX2.out)
    have HB3 := Lib.hid (HB2.out.trans (hbel.mono HB2.out.size))
    have Hbel := Lib.hid hbel
    clear hbel
    by_cases hlt : k < l.length
    · obtain ⟨g, off, rfl, hg, p0, p1, p2, p3, p4⟩ := seen_cells (H.out.below HB3.out).row k hlt
      have hk1 : (0 : Int) ≤ (k : Int) := by omega
      have hk2 : (k : Int) < (l.length : Int) := by omega
      have hnk := hne k hlt
      by_cases hki : k = i
      · subst hki
        rw [hs] at p0 p1 p2 p3 p4
        clear hnk
        go_wp2_with fail
        go_roundw
        case rel => exact ⟨k + 1, by omega, by go_num, Hbel.out⟩
        case measure => simp [intOf]; omega
      · have hne1 := hnk hki
        obtain ⟨s1, hs1⟩ : ∃ s1, l[k] = s1 := ⟨_, rfl⟩
        rw [hs1] at p0 p1 p2 p3 p4 hne1
        have hne2 : (s1.client == c) = false := by simpa using hne1
        clear hs1 hnk
        go_wp2_with fail
        go_roundw
        case rel => exact ⟨k + 1, by omega, by go_num, Hbel.out⟩
        case measure => simp [intOf]; omega
    · skip
      have l1 : ¬ (k : Int) < (l.length : Int) := by omega
      obtain ⟨c0, c1, c2, f0, f1, f2⟩ := res_cells HX3.out
      have Hs := Lib.hid (res_set (e' := 0) (t' := 0) (j' := .slice none 0 0) HX3.out)
      have Ho := Lib.hid ((res_only wr w.heap.size (.int .i64 0) (.int .i64 0) (.slice none 0 0)).below HB3.out (fun k hk => by have hk : k = w.heap.size := hk; omega) HB3.out.size)
      go_upto_region 12 with fail
      go_wp2_with fail
      refine bodyPost_ret (results26 rfl _ _ w.heap.size rfl Hs.out) rfl ?_
      exact ⟨none, 0, rfl, resIn_nil _, Ho.out⟩
set_option maxRecDepth 100000 in
set_option maxHeartbeats 4000000 in
theorem rlook_stale (A : Option Addr) (cap : Nat) (l : List Seen) (c q : Int) (hb : tr (BookOk l) = true) (hr : rightB c q = true) (i : Nat) (hi : i < l.length) (hne : ∀ k (h : k < l.length), ¬ k = i → ¬ l[k].client = c) (s : Seen) (hs : l[i] = s) (hc1 : (s.client == c) = true) (hq1 : (s.seq == q) = false) (hq2 : q < s.seq) (hq3 : decide (q < s.seq) = true) : Looks 9 A cap l c q (noAns 160) := by
  intro w h
  have hl : l.length ≤ 9223372036854775807 := Nat.le_trans h.ncap h.cmax
  have H := Lib.hid h
  have hC := fun w (h : BookIn w A cap l) => rCheck_any w A cap l h.row hl
  rw [hb] at hC
  have HC := Lib.hid hC; clear hC
  have hR : ∀ w, Calls Try.prog 21 #[.int .i64 c, .int .i64 q] w fun e w' => e = .returned (.bool true) ∧ Below w.heap.size w w' := fun w => by
    have := rRight_any w c q
    rw [hr] at this
    exact this.mono fun e w' ⟨h1, h2⟩ => ⟨h1, h2 ▸ Below.refl _ _⟩
  have HR := Lib.hid hR; clear hR
  clear h
  go_enter Try.func9, Try.ntmps9
  go_upto_region 1 with fail
  have hX0 : (w.alloc (resBlk 0 0 (.slice none 0 0))).heap[w.heap.size]? = some (resBlk 0 0 (.slice none 0 0)) := heap_alloc_new w _
  change Code.wp _ _ _ _ (w.alloc (resBlk 0 0 (.slice none 0 0)))
  have hB0 : Below w.heap.size w (w.alloc (resBlk 0 0 (.slice none 0 0))) := al _
  generalize w.alloc (resBlk 0 0 (.slice none 0 0)) = w0 at *
  have HX0 := Lib.hid hX0; have HB0 := Lib.hid hB0
  clear hX0 hB0
  go_upto_region 5 with (first
                | (go_at_call 13
                   refine (HC.out _ (H.out.below HB0.out)).mono ?_
                   rintro e w1 ⟨rfl, hb1⟩
                   have HX1 := Lib.hid (blk_below hb1 (lt_of_some HX0.out) HX0.out)
                   have HB1 := Lib.hid (HB0.out.trans (hb1.mono HB0.out.size))
                   clear hb1)
                | (go_at_call 21
                   refine (HR.out _).mono ?_
                   rintro e w2 ⟨rfl, hb2⟩
                   have HX2 := Lib.hid (blk_below hb2 (lt_of_some HX1.out) HX1.out)
                   have HB2 := Lib.hid (HB1.out.trans (hb2.mono HB1.out.size))
                   clear hb2))
  go_wp2_with fail
  go_loopw [8] (fun v wr => ∃ k : Nat, k ≤ i ∧ v = .int .i64 k ∧ Below w2.heap.size w2 wr) (fun v _ => l.length - (intOf v).toNat)
  case atStart => exact ⟨0, Nat.zero_le _, rfl, Below.refl _ _⟩
  case round =>
    obtain ⟨k, hk, rfl, hbel⟩ := hrel
    have HX3 := Lib.hid (blk_below hbel (lt_of_some HX2.out) HX2.out)
    have HB3 := Lib.hid (HB2.out.trans (hbel.mono HB2.out.size))
    have Hbel := Lib.hid hbel
    clear hbel
    by_cases hlt : k < l.length
    · obtain ⟨g, off, rfl, hg, p0, p1, p2, p3, p4⟩ := seen_cells (H.out.below HB3.out).row k hlt
      have hk1 : (0 : Int) ≤ (k : Int) := by omega
      have hk2 : (k : Int) < (l.length : Int) := by omega
      have hnk := hne k hlt
      by_cases hki : k = i
      · subst hki
        rw [hs] at p0 p1 p2 p3 p4
        clear hnk
        obtain ⟨c0, c1, c2, f0, f1, f2⟩ := res_cells HX3.out
        have Hs := Lib.hid (res_set (e' := 0) (t' := 0) (j' := .slice none 0 0) HX3.out)
        have Ho := Lib.hid ((res_only wr w.heap.size (.int .i64 0) (.int .i64 0) (.slice none 0 0)).below HB3.out (fun k hk => by have hk : k = w.heap.size := hk; omega) HB3.out.size)
        go_wp2_with fail
        refine bodyPost_ret (results26 rfl _ _ w.heap.size rfl Hs.out) rfl ?_
        exact ⟨none, 0, rfl, resIn_nil _, Ho.out⟩
      · have hne1 := hnk hki
        obtain ⟨s1, hs1⟩ : ∃ s1, l[k] = s1 := ⟨_, rfl⟩
        rw [hs1] at p0 p1 p2 p3 p4 hne1
        have hne2 : (s1.client == c) = false := by simpa using hne1
        clear hs1 hnk
        go_wp2_with fail
        go_roundw
        case rel => exact ⟨k + 1, by omega, by go_num, Hbel.out⟩
        case measure => simp [intOf]; omega
    · omega
set_option maxRecDepth 100000 in
set_option maxHeartbeats 4000000 in
theorem rlook_ok (A : Option Addr) (cap : Nat) (l : List Seen) (c q : Int) (hb : tr (BookOk l) = true) (hr : rightB c q = true) (i : Nat) (hi : i < l.length) (hne : ∀ k (h : k < l.length), ¬ k = i → ¬ l[k].client = c) (s : Seen) (hs : l[i] = s) (hc1 : (s.client == c) = true) (hq1 : (s.seq == q) = true) : Looks 9 A cap l c q ⟨s.err, s.time, s.jobs, 0⟩ := by
  intro w h
  have hl : l.length ≤ 9223372036854775807 := Nat.le_trans h.ncap h.cmax
  have H := Lib.hid h
  have hC := fun w (h : BookIn w A cap l) => rCheck_any w A cap l h.row hl
  rw [hb] at hC
  have HC := Lib.hid hC; clear hC
  have hR : ∀ w, Calls Try.prog 21 #[.int .i64 c, .int .i64 q] w fun e w' => e = .returned (.bool true) ∧ Below w.heap.size w w' := fun w => by
    have := rRight_any w c q
    rw [hr] at this
    exact this.mono fun e w' ⟨h1, h2⟩ => ⟨h1, h2 ▸ Below.refl _ _⟩
  have HR := Lib.hid hR; clear hR
  clear h
  go_enter Try.func9, Try.ntmps9
  go_upto_region 1 with fail
  have hX0 : (w.alloc (resBlk 0 0 (.slice none 0 0))).heap[w.heap.size]? = some (resBlk 0 0 (.slice none 0 0)) := heap_alloc_new w _
  change Code.wp _ _ _ _ (w.alloc (resBlk 0 0 (.slice none 0 0)))
  have hB0 : Below w.heap.size w (w.alloc (resBlk 0 0 (.slice none 0 0))) := al _
  generalize w.alloc (resBlk 0 0 (.slice none 0 0)) = w0 at *
  have HX0 := Lib.hid hX0; have HB0 := Lib.hid hB0
  clear hX0 hB0
  go_upto_region 5 with (first
                | (go_at_call 13
                   refine (HC.out _ (H.out.below HB0.out)).mono ?_
                   rintro e w1 ⟨rfl, hb1⟩
                   have HX1 := Lib.hid (blk_below hb1 (lt_of_some HX0.out) HX0.out)
                   have HB1 := Lib.hid (HB0.out.trans (hb1.mono HB0.out.size))
                   clear hb1)
                | (go_at_call 21
                   refine (HR.out _).mono ?_
                   rintro e w2 ⟨rfl, hb2⟩
                   have HX2 := Lib.hid (blk_below hb2 (lt_of_some HX1.out) HX1.out)
                   have HB2 := Lib.hid (HB1.out.trans (hb2.mono HB1.out.size))
                   clear hb2))
  go_wp2_with fail
  go_loopw [8] (fun v wr => ∃ k : Nat, k ≤ i ∧ v = .int .i64 k ∧ Below w2.heap.size w2 wr) (fun v _ => l.length - (intOf v).toNat)
  case atStart => exact ⟨0, Nat.zero_le _, rfl, Below.refl _ _⟩
  case round =>
    obtain ⟨k, hk, rfl, hbel⟩ := hrel
    have HX3 := Lib.hid (blk_below hbel (lt_of_some HX2.out) HX2.out)
    have HB3 := Lib.hid (HB2.out.trans (hbel.mono HB2.out.size))
    have Hbel := Lib.hid hbel
    clear hbel
    by_cases hlt : k < l.length
    · obtain ⟨g, off, rfl, hg, p0, p1, p2, p3, p4⟩ := seen_cells (H.out.below HB3.out).row k hlt
      have hk1 : (0 : Int) ≤ (k : Int) := by omega
      have hk2 : (k : Int) < (l.length : Int) := by omega
      have hnk := hne k hlt
      by_cases hki : k = i
      · subst hki
        rw [hs] at p0 p1 p2 p3 p4
        clear hnk
        obtain ⟨c0, c1, c2, f0, f1, f2⟩ := res_cells HX3.out
        have hsm : s ∈ l := by rw [← hs]; exact List.getElem_mem hi
        have Hs := Lib.hid (res_set (e' := s.err) (t' := s.time) (j' := .slice s.J s.jobs.length s.jc) HX3.out)
        have hon := res_only wr w.heap.size (.int .i64 s.err) (.int .i64 s.time) (.slice s.J s.jobs.length s.jc)
        have Ho := Lib.hid (hon.below HB3.out (fun k hk => by have hk : k = w.heap.size := hk; omega) HB3.out.size)
        have Hj := Lib.hid (((H.out.jobs s hsm).below HB3.out).only hon ((H.out.jobs s hsm).off (Nat.le_refl _)))
        clear hon hsm
        go_wp2_with fail
        refine bodyPost_ret (results26 rfl _ _ w.heap.size rfl Hs.out) rfl ?_
        exact ⟨s.J, s.jc, rfl, Hj.out, Ho.out⟩
      · have hne1 := hnk hki
        obtain ⟨s1, hs1⟩ : ∃ s1, l[k] = s1 := ⟨_, rfl⟩
        rw [hs1] at p0 p1 p2 p3 p4 hne1
        have hne2 : (s1.client == c) = false := by simpa using hne1
        clear hs1 hnk
        go_wp2_with fail
        go_roundw
        case rel => exact ⟨k + 1, by omega, by go_num, Hbel.out⟩
        case measure => simp [intOf]; omega
    · omega
end Go.Proofs.Ytofdkincbhahfaa
