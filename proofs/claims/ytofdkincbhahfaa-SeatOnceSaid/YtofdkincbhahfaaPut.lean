/- What is proved: what a session put into a book makes: the program's Put. -/
import Derived.Test.YtofdkincbhahfaaLookBoth
import Derived.Test.YtofdkincbhahfaaIns
set_option linter.unusedVariables false
set_option linter.unusedSimpArgs false
namespace Go.Proofs.Ytofdkincbhahfaa
open Go.RowKit
attribute [local go_sem] Seen.val cell_over frozen_over

/-- A put makes a book that says D, and the error's number n. -/
def Puts (f : FuncId) (A : Option Addr) (cap : Nat) (l : List Seen) (s : Seen) (D : List Seen) (n : Int) : Prop :=
  ∀ w, BookIn w A cap l → JobsIn w s → Calls Try.prog f #[.slice A l.length cap, s.val] w fun e w' => ∃ (A' : Option Addr) (cap' : Nat) (m : List Seen), e = .returned (.tuple #[.slice A' m.length cap', .int .i64 n]) ∧ m.map Seen.dat = D.map Seen.dat ∧ BookIn w' A' cap' m ∧ Below w.heap.size w w'
theorem book_nil (w : World) : BookIn w none 0 [] := ⟨rowAt_nil _ _ _ _, Nat.le_refl _, by decide, fun s hs => by cases hs⟩
/-- slices.Insert into a book without sessions. -/
theorem insert_none (w : World) (B : Nat) (v : Seen) (vb : Nat) (hv : w.heap[vb]? = some v.blk) (hB : B ≤ w.heap.size) :
    Calls Try.prog 23 #[.slice none 0 0, .int .i64 0, .slice (some ⟨vb, 0, none⟩) 1 1] w fun e w' => ∃ A' cap', e = .returned (.slice A' 1 cap') ∧
      w'.ownsRow B 28 5 (.slice A' 1 cap') 1 ([v].map Seen.cells).flatten ∧ Below w.heap.size w w' := by
  obtain ⟨i0, hi0, hz0, hz1, hz2⟩ := info_parts info28
  have hrow : RowAt w w.heap.size 5 (some ⟨vb, 0, none⟩) [v.cells] := rowAt_one (l := v.cells) (t := 28) (fr := (0, 0)) hv (lt_of_some hv)
  have Hrow := Lib.hid hrow
  clear hrow hv
  have h1 : ∀ u ∈ [v.cells].flatten, u.oneCell' = true := by simpa using one_seen v
  have h63 : 0 + 1 ≤ maxLen := by unfold maxLen; omega
  have hs5 : ∀ c ∈ [v.cells], c.length = 5 := by simp [Seen.cells]
  go_enter Try.func23, Try.ntmps23
  go_wp2_with (at_builtin
               refine wpList_app _ rfl (.tmp 23) (.tmp 24) 22 rfl 28 i0 _ B 5 56 Try.underlying22 hi0 hz0 hz1 hz2 rfl (by omega) (.slice none 0 0) 0 [] rfl (World.ownsRow_nil _ _ _ _) w.heap.size (some ⟨vb, 0, none⟩) 1 1 [v.cells] rfl Hrow.out hs5 rfl h1 h63 (by omega) hB ?_
               intro A' c' w' hO hg _
               have HO := Lib.hid hO; have HG := Lib.hid hg
               clear hO hg)
  go_ret
  refine ⟨A', c', rfl, by simpa using HO.out, (Below.refl _ _).grown HG.out (by simp) (by simp [Value.ownBlock])⟩
/-- A session is put into a row that is owned, at any place. -/
theorem insert_all (w : World) (B : Nat) (A : Option Addr) (cap i : Nat) (l : List Seen) (v : Seen) (vb : Nat) (hown : w.ownsRow B 28 5 (.slice A l.length cap) l.length (l.map Seen.cells).flatten) (hi : i ≤ l.length) (hn : l.length ≤ 64) (hv : w.heap[vb]? = some v.blk) (hne : (Value.slice A l.length cap).ownBlock ≠ some vb) (hB : B ≤ w.heap.size) :
    Calls Try.prog 23 #[.slice A l.length cap, .int .i64 i, .slice (some ⟨vb, 0, none⟩) 1 1] w fun e w' => ∃ A' cap', e = .returned (.slice A' (l.length + 1) cap') ∧
      w'.ownsRow B 28 5 (.slice A' (l.length + 1) cap') (l.length + 1) ((l.take i ++ v :: l.drop i).map Seen.cells).flatten ∧ Below B w w' := by
  by_cases h0 : 0 < l.length
  · obtain ⟨g, rfl, hg, _⟩ := own_addr hown h0
    refine (insert_any w B (some ⟨g, 0, none⟩) cap i i rfl l v vb hown h0 hi hn hv hne hB).mono ?_
    rintro e w' ⟨A', cap', h1, h2, h3⟩
    exact ⟨A', cap', h1, h2, h3.below (Below.refl _ _) (fun k hk => by have : g = k := Option.some.inj hk; omega) hB⟩
  · have hl : l = [] := List.eq_nil_of_length_eq_zero (by omega)
    subst hl
    obtain rfl : i = 0 := by simpa using hi
    rcases hown.2 with ⟨h1, _⟩ | ⟨g, cap', cur, h1, hBg, hg, hc, hm, hsz, htk⟩
    · injection h1 with h1 h2 h3
      subst h1; subst h3
      refine (insert_none w B v vb hv hB).mono ?_
      rintro e w' ⟨A', cap', h1, h2, h3⟩
      exact ⟨A', cap', h1, h2, h3.mono hB⟩
    · injection h1 with h1 h2 h3
      subst h1; subst h3
      refine (insert_end w B g 0 cap [] v vb rfl hown (by omega) (Nat.zero_le _) (own_caps hown).2 hv hB).mono ?_
      rintro e w' ⟨A', cap', h1, h2, h3⟩
      exact ⟨A', cap', h1, h2, h3.below (Below.refl _ _) (fun k hk => by have : k = g := hk; omega) hB⟩
set_option maxRecDepth 100000 in
set_option maxHeartbeats 4000000 in
theorem put_bad (A : Option Addr) (cap : Nat) (l : List Seen) (s : Seen) (hb : tr (BookOk l) = false) : Puts 10 A cap l s [] 4 := by
  intro w h hjs
  have hl : l.length ≤ 9223372036854775807 := Nat.le_trans h.ncap h.cmax
  have H := Lib.hid h; have HJ := Lib.hid hjs
  have hC := fun w (h : BookIn w A cap l) => check_any w A cap l h.row hl
  rw [hb] at hC
  have HC := Lib.hid hC; clear hC
  clear h hjs
  go_enter Try.func10, Try.ntmps10
  go_upto_region 1 with fail
  have hX0 : (w.alloc s.blk).heap[w.heap.size]? = some s.blk := heap_alloc_new w _
  change Code.wp _ _ _ _ (w.alloc s.blk)
  have hB0 : Below w.heap.size w (w.alloc s.blk) := al _
  generalize (w.alloc s.blk) = w0 at *
  have HX0 := Lib.hid hX0; have HB0 := Lib.hid hB0
  clear hX0 hB0
  go_upto_region 2 with (first
                | (go_at_call 12
                   refine (HC.out _ (H.out.below HB0.out)).mono ?_
                   rintro e w1 ⟨rfl, hb1⟩
                   have HX1 := Lib.hid (blk_below hb1 (lt_of_some HX0.out) HX0.out)
                   have HB1 := Lib.hid (HB0.out.trans (hb1.mono HB0.out.size))
                   obtain ⟨x0, x1, x2, x3, x4, xlt⟩ := seen_blk HX1.out
                   clear hb1))
  go_wp2_with fail
  go_ret2
  exact ⟨none, 0, [], rfl, rfl, book_nil _, HB1.out⟩
set_option maxRecDepth 100000 in
set_option maxHeartbeats 4000000 in
theorem put_arg (A : Option Addr) (cap : Nat) (l : List Seen) (s : Seen) (hb : tr (BookOk l) = true) (hr : rightB s.client s.seq = false) : Puts 10 A cap l s [] 1 := by
  intro w h hjs
  have hl : l.length ≤ 9223372036854775807 := Nat.le_trans h.ncap h.cmax
  have H := Lib.hid h; have HJ := Lib.hid hjs
  have hC := fun w (h : BookIn w A cap l) => check_any w A cap l h.row hl
  rw [hb] at hC
  have HC := Lib.hid hC; clear hC
  have hR : ∀ w, Calls Try.prog 18 #[.int .i64 s.client, .int .i64 s.seq] w fun e w' => e = .returned (.bool false) ∧ Below w.heap.size w w' := fun w => by
    have := right_any w s.client s.seq
    rw [hr] at this
    exact this.mono fun e w' ⟨h1, h2⟩ => ⟨h1, h2 ▸ Below.refl _ _⟩
  have HR := Lib.hid hR; clear hR
  clear h hjs
  go_enter Try.func10, Try.ntmps10
  go_upto_region 1 with fail
  have hX0 : (w.alloc s.blk).heap[w.heap.size]? = some s.blk := heap_alloc_new w _
  change Code.wp _ _ _ _ (w.alloc s.blk)
  have hB0 : Below w.heap.size w (w.alloc s.blk) := al _
  generalize (w.alloc s.blk) = w0 at *
  have HX0 := Lib.hid hX0; have HB0 := Lib.hid hB0
  clear hX0 hB0
  go_upto_region 4 with (first
                | (go_at_call 12
                   refine (HC.out _ (H.out.below HB0.out)).mono ?_
                   rintro e w1 ⟨rfl, hb1⟩
                   have HX1 := Lib.hid (blk_below hb1 (lt_of_some HX0.out) HX0.out)
                   have HB1 := Lib.hid (HB0.out.trans (hb1.mono HB0.out.size))
                   obtain ⟨x0, x1, x2, x3, x4, xlt⟩ := seen_blk HX1.out
                   clear hb1)
                | (go_at_call 18
                   refine (HR.out _).mono ?_
                   rintro e w2 ⟨rfl, hb2⟩
                   have HX2 := Lib.hid (blk_below hb2 (lt_of_some HX1.out) HX1.out)
                   have HB2 := Lib.hid (HB1.out.trans (hb2.mono HB1.out.size))
                   obtain ⟨x0, x1, x2, x3, x4, xlt⟩ := seen_blk HX2.out
                   clear hb2))
  go_wp2_with fail
  go_ret2
  exact ⟨none, 0, [], rfl, rfl, book_nil _, HB2.out⟩
set_option maxRecDepth 100000 in
set_option maxHeartbeats 4000000 in
theorem put_stale (A : Option Addr) (cap : Nat) (l : List Seen) (s : Seen) (hb : tr (BookOk l) = true) (hr : rightB s.client s.seq = true) (hl2 : l.length ≤ 4611686018427387903) (i : Nat) (hp : Pos l s.client i) (hf : foundB l s.client i = true) (hi : i < l.length) (t : Seen) (hs : l[i] = t) (hq : s.seq ≤ t.seq) (hq2 : decide (s.seq ≤ t.seq) = true) : Puts 10 A cap l s [] 160 := by
  intro w h hjs
  have hl : l.length ≤ 9223372036854775807 := Nat.le_trans h.ncap h.cmax
  have H := Lib.hid h; have HJ := Lib.hid hjs
  have hC := fun w (h : BookIn w A cap l) => check_any w A cap l h.row hl
  rw [hb] at hC
  have HC := Lib.hid hC; clear hC
  have hR : ∀ w, Calls Try.prog 18 #[.int .i64 s.client, .int .i64 s.seq] w fun e w' => e = .returned (.bool true) ∧ Below w.heap.size w w' := fun w => by
    have := right_any w s.client s.seq
    rw [hr] at this
    exact this.mono fun e w' ⟨h1, h2⟩ => ⟨h1, h2 ▸ Below.refl _ _⟩
  have HR := Lib.hid hR; clear hR
  have hF := fun w (h : BookIn w A cap l) => find_any w A cap l s.client i h.row hl2 hp
  rw [hf] at hF
  have HF := Lib.hid hF; clear hF
  obtain ⟨g, off, rfl, hg, p0, p1, p2, p3, p4⟩ := seen_cells H.out.row i hi
  rw [hs] at p0 p1 p2 p3 p4
  have hi1 : (0 : Int) ≤ (i : Int) := by omega
  have hi2 : (i : Int) < (l.length : Int) := by omega
  clear h hjs
  go_enter Try.func10, Try.ntmps10
  go_upto_region 1 with fail
  have hX0 : (w.alloc s.blk).heap[w.heap.size]? = some s.blk := heap_alloc_new w _
  change Code.wp _ _ _ _ (w.alloc s.blk)
  have hB0 : Below w.heap.size w (w.alloc s.blk) := al _
  generalize (w.alloc s.blk) = w0 at *
  have HX0 := Lib.hid hX0; have HB0 := Lib.hid hB0
  clear hX0 hB0
  go_upto_region 6 with (first
                | (go_at_call 12
                   refine (HC.out _ (H.out.below HB0.out)).mono ?_
                   rintro e w1 ⟨rfl, hb1⟩
                   have HX1 := Lib.hid (blk_below hb1 (lt_of_some HX0.out) HX0.out)
                   have HB1 := Lib.hid (HB0.out.trans (hb1.mono HB0.out.size))
                   obtain ⟨x0, x1, x2, x3, x4, xlt⟩ := seen_blk HX1.out
                   clear hb1)
                | (go_at_call 18
                   refine (HR.out _).mono ?_
                   rintro e w2 ⟨rfl, hb2⟩
                   have HX2 := Lib.hid (blk_below hb2 (lt_of_some HX1.out) HX1.out)
                   have HB2 := Lib.hid (HB1.out.trans (hb2.mono HB1.out.size))
                   obtain ⟨x0, x1, x2, x3, x4, xlt⟩ := seen_blk HX2.out
                   clear hb2)
                | (go_at_call 19
                   refine (HF.out _ (H.out.below HB2.out)).mono ?_
                   rintro e w3 ⟨rfl, hb3⟩
                   have HX3 := Lib.hid (blk_below hb3 (lt_of_some HX2.out) HX2.out)
                   have HB3 := Lib.hid (HB2.out.trans (hb3.mono HB2.out.size))
                   obtain ⟨x0, x1, x2, x3, x4, xlt⟩ := seen_blk HX3.out
                   clear hb3
                   have p1' := (HB3.out.cell (p := ⟨g, off + i * 5 + 1, none⟩) hg).trans p1
                   have hgw : g < w3.heap.size := Nat.lt_of_lt_of_le hg HB3.out.size))
  refine wp_region_over (by kernel_rfl) (by kernel_rfl) ?_
  repeat (go_big_quiet_step ((fail)))
  refine wpQuiet_nil ?_
  intro _ hw'
  obtain ⟨nx, hw''⟩ := hw'
  subst hw''
  have hbo := below_over w3 nx
  have HX4 := Lib.hid (blk_below hbo (lt_of_some HX3.out) HX3.out)
  have HB4 := Lib.hid (HB3.out.trans (hbo.mono HB3.out.size))
  clear hbo
  clear x0 x1 x2 x3 x4 xlt
  generalize over w3 nx = w4 at *
  obtain ⟨x0, x1, x2, x3, x4, xlt⟩ := seen_blk HX4.out
  go_wp2_with fail
  go_ret2
  exact ⟨none, 0, [], rfl, rfl, book_nil _, HB4.out⟩
set_option maxRecDepth 100000 in
set_option maxHeartbeats 4000000 in
theorem put_set (A : Option Addr) (cap : Nat) (l : List Seen) (s : Seen) (hb : tr (BookOk l) = true) (hr : rightB s.client s.seq = true) (hl2 : l.length ≤ 4611686018427387903) (i : Nat) (hp : Pos l s.client i) (hf : foundB l s.client i = true) (hi : i < l.length) (t : Seen) (hs : l[i] = t) (hl64 : l.length ≤ 64) (hq : ¬ s.seq ≤ t.seq) (hq2 : decide (s.seq ≤ t.seq) = false) : Puts 10 A cap l s (l.set i s) 0 := by
  intro w h hjs
  have hl : l.length ≤ 9223372036854775807 := Nat.le_trans h.ncap h.cmax
  have H := Lib.hid h; have HJ := Lib.hid hjs
  have hC := fun w (h : BookIn w A cap l) => check_any w A cap l h.row hl
  rw [hb] at hC
  have HC := Lib.hid hC; clear hC
  have hR : ∀ w, Calls Try.prog 18 #[.int .i64 s.client, .int .i64 s.seq] w fun e w' => e = .returned (.bool true) ∧ Below w.heap.size w w' := fun w => by
    have := right_any w s.client s.seq
    rw [hr] at this
    exact this.mono fun e w' ⟨h1, h2⟩ => ⟨h1, h2 ▸ Below.refl _ _⟩
  have HR := Lib.hid hR; clear hR
  have hF := fun w (h : BookIn w A cap l) => find_any w A cap l s.client i h.row hl2 hp
  rw [hf] at hF
  have HF := Lib.hid hF; clear hF
  obtain ⟨g, off, rfl, hg, p0, p1, p2, p3, p4⟩ := seen_cells H.out.row i hi
  rw [hs] at p0 p1 p2 p3 p4
  have hi1 : (0 : Int) ≤ (i : Int) := by omega
  have hi2 : (i : Int) < (l.length : Int) := by omega
  have hl56 : l.length * 56 ≤ 140737488355328 := by omega
  clear h hjs
  go_enter Try.func10, Try.ntmps10
  go_upto_region 1 with fail
  have hX0 : (w.alloc s.blk).heap[w.heap.size]? = some s.blk := heap_alloc_new w _
  change Code.wp _ _ _ _ (w.alloc s.blk)
  have hB0 : Below w.heap.size w (w.alloc s.blk) := al _
  generalize (w.alloc s.blk) = w0 at *
  have HX0 := Lib.hid hX0; have HB0 := Lib.hid hB0
  clear hX0 hB0
  go_upto_region 6 with (first
                | (go_at_call 12
                   refine (HC.out _ (H.out.below HB0.out)).mono ?_
                   rintro e w1 ⟨rfl, hb1⟩
                   have HX1 := Lib.hid (blk_below hb1 (lt_of_some HX0.out) HX0.out)
                   have HB1 := Lib.hid (HB0.out.trans (hb1.mono HB0.out.size))
                   obtain ⟨x0, x1, x2, x3, x4, xlt⟩ := seen_blk HX1.out
                   clear hb1)
                | (go_at_call 18
                   refine (HR.out _).mono ?_
                   rintro e w2 ⟨rfl, hb2⟩
                   have HX2 := Lib.hid (blk_below hb2 (lt_of_some HX1.out) HX1.out)
                   have HB2 := Lib.hid (HB1.out.trans (hb2.mono HB1.out.size))
                   obtain ⟨x0, x1, x2, x3, x4, xlt⟩ := seen_blk HX2.out
                   clear hb2)
                | (go_at_call 19
                   refine (HF.out _ (H.out.below HB2.out)).mono ?_
                   rintro e w3 ⟨rfl, hb3⟩
                   have HX3 := Lib.hid (blk_below hb3 (lt_of_some HX2.out) HX2.out)
                   have HB3 := Lib.hid (HB2.out.trans (hb3.mono HB2.out.size))
                   obtain ⟨x0, x1, x2, x3, x4, xlt⟩ := seen_blk HX3.out
                   clear hb3
                   have p1' := (HB3.out.cell (p := ⟨g, off + i * 5 + 1, none⟩) hg).trans p1
                   have hgw : g < w3.heap.size := Nat.lt_of_lt_of_le hg HB3.out.size))
  refine wp_region_over (by kernel_rfl) (by kernel_rfl) ?_
  repeat (go_big_quiet_step ((fail)))
  refine wpQuiet_nil ?_
  intro _ hw'
  obtain ⟨nx, hw''⟩ := hw'
  subst hw''
  have hbo := below_over w3 nx
  have HX4 := Lib.hid (blk_below hbo (lt_of_some HX3.out) HX3.out)
  have HB4 := Lib.hid (HB3.out.trans (hbo.mono HB3.out.size))
  clear hbo
  clear x0 x1 x2 x3 x4 xlt
  generalize over w3 nx = w4 at *
  obtain ⟨x0, x1, x2, x3, x4, xlt⟩ := seen_blk HX4.out
  go_upto_region 10 with (first
                | (go_at_call 22
                   refine (clone_any w4 _ cap l (H.out.below HB4.out).row hl56).mono ?_
                   rintro e w5 ⟨A5, c5, rfl, hO5, hb5⟩
                   have HO5 := Lib.hid hO5; have hz5 := hb5.size
                   have HX5 := Lib.hid (blk_below hb5 (lt_of_some HX4.out) HX4.out)
                   have HB5 := Lib.hid (HB4.out.trans (hb5.mono HB4.out.size))
                   clear x0 x1 x2 x3 x4 xlt
                   obtain ⟨x0, x1, x2, x3, x4, xlt⟩ := seen_blk HX5.out
                   clear hO5 hb5))
  obtain ⟨g5, rfl, hg5, hlt5⟩ := own_addr HO5.out (by omega)
  obtain ⟨z0, z1, z2, z3, z4⟩ := own_seen rfl HO5.out i hi
  have f0 := HO5.out.frozenAt (i * 5); have f1 := HO5.out.frozenAt (i * 5 + 1); have f2 := HO5.out.frozenAt (i * 5 + 2); have f3 := HO5.out.frozenAt (i * 5 + 3); have f4 := HO5.out.frozenAt (i * 5 + 4)
  have ho0 := (HO5.out).stored (i * 5 + 0) (.int .i64 s.client)
  rw [seen_set l i 0 t { t with client := s.client } _ (by simp [hi, hs]) (by omega) rfl] at ho0
  have ho1 := (ho0.1).stored (i * 5 + 1) (.int .i64 s.seq)
  rw [seen_set (l.set i { t with client := s.client }) i 1 ({ t with client := s.client }) { t with client := s.client, seq := s.seq } _ (by simp [hi, hs]) (by omega) rfl, List.set_set] at ho1
  have ho2 := (ho1.1).stored (i * 5 + 2) (.int .i64 s.err)
  rw [seen_set (l.set i { t with client := s.client, seq := s.seq }) i 2 ({ t with client := s.client, seq := s.seq }) { t with client := s.client, seq := s.seq, err := s.err } _ (by simp [hi, hs]) (by omega) rfl, List.set_set] at ho2
  have ho3 := (ho2.1).stored (i * 5 + 3) (.int .i64 s.time)
  rw [seen_set (l.set i { t with client := s.client, seq := s.seq, err := s.err }) i 3 ({ t with client := s.client, seq := s.seq, err := s.err }) { t with client := s.client, seq := s.seq, err := s.err, time := s.time } _ (by simp [hi, hs]) (by omega) rfl, List.set_set] at ho3
  have ho4 := (ho3.1).stored (i * 5 + 4) (.slice s.J s.jobs.length s.jc)
  rw [seen_set (l.set i { t with client := s.client, seq := s.seq, err := s.err, time := s.time }) i 4 ({ t with client := s.client, seq := s.seq, err := s.err, time := s.time }) { t with client := s.client, seq := s.seq, err := s.err, time := s.time, jobs := s.jobs, J := s.J, jc := s.jc } _ (by simp [hi, hs]) (by omega) rfl, List.set_set] at ho4
  have hon : Only (· = g5) w5 (((((w5.setCell ⟨g5, i * 5, none⟩ (.int .i64 s.client)).setCell ⟨g5, i * 5 + 1, none⟩ (.int .i64 s.seq)).setCell ⟨g5, i * 5 + 2, none⟩ (.int .i64 s.err)).setCell ⟨g5, i * 5 + 3, none⟩ (.int .i64 s.time)).setCell ⟨g5, i * 5 + 4, none⟩ (.slice s.J s.jobs.length s.jc)) := (((((only_setCell w5 ⟨g5, i * 5, none⟩ (.int .i64 s.client)).trans (only_setCell _ ⟨g5, i * 5 + 1, none⟩ (.int .i64 s.seq)) (fun _ _ h => h)).trans (only_setCell _ ⟨g5, i * 5 + 2, none⟩ (.int .i64 s.err)) (fun _ _ h => h)).trans (only_setCell _ ⟨g5, i * 5 + 3, none⟩ (.int .i64 s.time)) (fun _ _ h => h)).trans (only_setCell _ ⟨g5, i * 5 + 4, none⟩ (.slice s.J s.jobs.length s.jc)) (fun _ _ h => h))
  have HOs := Lib.hid ho4.1; have HON := Lib.hid hon
  clear ho0 ho1 ho2 ho3 ho4 hon
  go_upto_region 12 with fail
  change Code.wp _ _ _ _ (((((w5.setCell ⟨g5, i * 5, none⟩ (.int .i64 s.client)).setCell ⟨g5, i * 5 + 1, none⟩ (.int .i64 s.seq)).setCell ⟨g5, i * 5 + 2, none⟩ (.int .i64 s.err)).setCell ⟨g5, i * 5 + 3, none⟩ (.int .i64 s.time)).setCell ⟨g5, i * 5 + 4, none⟩ (.slice s.J s.jobs.length s.jc))
  have hO6 := HOs.out
  have hB6 := HON.out.below HB5.out (fun k hk => by have hk : k = g5 := hk; have := HB4.out.size; omega) HB5.out.size
  change ((((((w5.setCell ⟨g5, i * 5, none⟩ (.int .i64 s.client)).setCell ⟨g5, i * 5 + 1, none⟩ (.int .i64 s.seq)).setCell ⟨g5, i * 5 + 2, none⟩ (.int .i64 s.err)).setCell ⟨g5, i * 5 + 3, none⟩ (.int .i64 s.time)).setCell ⟨g5, i * 5 + 4, none⟩ (.slice s.J s.jobs.length s.jc))).ownsRow _ _ _ _ _ _ at hO6
  clear HOs HON
  generalize (((((w5.setCell ⟨g5, i * 5, none⟩ (.int .i64 s.client)).setCell ⟨g5, i * 5 + 1, none⟩ (.int .i64 s.seq)).setCell ⟨g5, i * 5 + 2, none⟩ (.int .i64 s.err)).setCell ⟨g5, i * 5 + 3, none⟩ (.int .i64 s.time)).setCell ⟨g5, i * 5 + 4, none⟩ (.slice s.J s.jobs.length s.jc)) = w6 at *
  have hbk : BookIn w6 (some ⟨g5, 0, none⟩) c5 (l.set i s) := by
    have : BookIn w6 (some ⟨g5, 0, none⟩) c5 (l.set i s) := BookIn.ofOwn (base := w4.heap.size) (by rw [List.length_set]; exact hO6) (fun s1 hs1 => by
      rcases List.mem_or_eq_of_mem_set hs1 with h1 | rfl
      · exact (H.out.jobs s1 h1).below hB6
      · exact HJ.out.below hB6)
    exact this
  have hlen : (l.set i s).length = l.length := List.length_set
  have hcp := copied_any w6 (some ⟨g5, 0, none⟩) c5 (l.set i s) hbk (by rw [hlen]; exact hl56)
  rw [hlen] at hcp
  have HCP := Lib.hid hcp; have HB6 := Lib.hid hB6
  clear hcp hbk hO6 hB6
  go_wp2_with (go_at_call 20
               refine HCP.out.mono ?_
               rintro e w7 ⟨A7, c7, m, rfl, hml, hmd, hO7, hj7, hb7⟩
               have HM7 := Lib.hid (And.intro hml (And.intro hmd (And.intro hO7 hj7))); have HB7 := Lib.hid (HB6.out.trans (hb7.mono HB6.out.size))
               clear hml hmd hO7 hj7 hb7)
  go_ret2
  obtain ⟨hml, hmd, hO7, hj7⟩ := HM7.out
  refine ⟨A7, c7, m, by rw [hml]; rfl, hmd, BookIn.ofOwn (by rw [hml]; exact hO7) (fun s1 hs1 => (hj7 s1 hs1).1), HB7.out⟩
set_option maxRecDepth 100000 in
set_option maxHeartbeats 4000000 in
theorem put_ins (A : Option Addr) (cap : Nat) (l : List Seen) (s : Seen) (hb : tr (BookOk l) = true) (hr : rightB s.client s.seq = true) (hl2 : l.length ≤ 4611686018427387903) (i : Nat) (hp : Pos l s.client i) (hl64 : l.length ≤ 64) (hf : foundB l s.client i = false) : Puts 10 A cap l s (l.take i ++ s :: l.drop i) 0 := by
  intro w h hjs
  have hl : l.length ≤ 9223372036854775807 := Nat.le_trans h.ncap h.cmax
  have H := Lib.hid h; have HJ := Lib.hid hjs
  have hC := fun w (h : BookIn w A cap l) => check_any w A cap l h.row hl
  rw [hb] at hC
  have HC := Lib.hid hC; clear hC
  have hR : ∀ w, Calls Try.prog 18 #[.int .i64 s.client, .int .i64 s.seq] w fun e w' => e = .returned (.bool true) ∧ Below w.heap.size w w' := fun w => by
    have := right_any w s.client s.seq
    rw [hr] at this
    exact this.mono fun e w' ⟨h1, h2⟩ => ⟨h1, h2 ▸ Below.refl _ _⟩
  have HR := Lib.hid hR; clear hR
  have hF := fun w (h : BookIn w A cap l) => find_any w A cap l s.client i h.row hl2 hp
  rw [hf] at hF
  have HF := Lib.hid hF; clear hF
  have hl56 : l.length * 56 ≤ 140737488355328 := by omega
  have hi : i ≤ l.length := hp.1
  clear h hjs
  go_enter Try.func10, Try.ntmps10
  go_upto_region 1 with fail
  have hX0 : (w.alloc s.blk).heap[w.heap.size]? = some s.blk := heap_alloc_new w _
  change Code.wp _ _ _ _ (w.alloc s.blk)
  have hB0 : Below w.heap.size w (w.alloc s.blk) := al _
  generalize (w.alloc s.blk) = w0 at *
  have HX0 := Lib.hid hX0; have HB0 := Lib.hid hB0
  clear hX0 hB0
  go_upto_region 6 with (first
                | (go_at_call 12
                   refine (HC.out _ (H.out.below HB0.out)).mono ?_
                   rintro e w1 ⟨rfl, hb1⟩
                   have HX1 := Lib.hid (blk_below hb1 (lt_of_some HX0.out) HX0.out)
                   have HB1 := Lib.hid (HB0.out.trans (hb1.mono HB0.out.size))
                   obtain ⟨x0, x1, x2, x3, x4, xlt⟩ := seen_blk HX1.out
                   clear hb1)
                | (go_at_call 18
                   refine (HR.out _).mono ?_
                   rintro e w2 ⟨rfl, hb2⟩
                   have HX2 := Lib.hid (blk_below hb2 (lt_of_some HX1.out) HX1.out)
                   have HB2 := Lib.hid (HB1.out.trans (hb2.mono HB1.out.size))
                   obtain ⟨x0, x1, x2, x3, x4, xlt⟩ := seen_blk HX2.out
                   clear hb2)
                | (go_at_call 19
                   refine (HF.out _ (H.out.below HB2.out)).mono ?_
                   rintro e w3 ⟨rfl, hb3⟩
                   have HX3 := Lib.hid (blk_below hb3 (lt_of_some HX2.out) HX2.out)
                   have HB3 := Lib.hid (HB2.out.trans (hb3.mono HB2.out.size))
                   obtain ⟨x0, x1, x2, x3, x4, xlt⟩ := seen_blk HX3.out
                   clear hb3))
  refine wp_region_over (by kernel_rfl) (by kernel_rfl) ?_
  repeat (go_big_quiet_step ((fail)))
  refine wpQuiet_nil ?_
  intro _ hw'
  obtain ⟨nx, hw''⟩ := hw'
  subst hw''
  have hbo := below_over w3 nx
  have HX4 := Lib.hid (blk_below hbo (lt_of_some HX3.out) HX3.out)
  have HB4 := Lib.hid (HB3.out.trans (hbo.mono HB3.out.size))
  clear hbo
  clear x0 x1 x2 x3 x4 xlt
  generalize over w3 nx = w4 at *
  obtain ⟨x0, x1, x2, x3, x4, xlt⟩ := seen_blk HX4.out
  go_upto_region 11 with (first
                | (go_at_call 22
                   refine (clone_any w4 _ cap l (H.out.below HB4.out).row hl56).mono ?_
                   rintro e w5 ⟨A5, c5, rfl, hO5, hb5⟩
                   have HO5 := Lib.hid hO5; have hz5 := hb5.size
                   have HX5 := Lib.hid (blk_below hb5 (lt_of_some HX4.out) HX4.out)
                   have HB5 := Lib.hid (HB4.out.trans (hb5.mono HB4.out.size))
                   clear x0 x1 x2 x3 x4 xlt
                   obtain ⟨x0, x1, x2, x3, x4, xlt⟩ := seen_blk HX5.out
                   clear hO5 hb5))
  have hv6 := heap_alloc_new w5 s.blk
  have hb6 : Below w5.heap.size w5 (w5.alloc s.blk) := al _
  have hins := insert_all (w5.alloc s.blk) w4.heap.size A5 c5 i l s w5.heap.size (own_only HO5.out (Only.of_below (F := fun _ => False) hb6) (fun _ _ h => h)) hi hl64 hv6 (fun h => by have := (HO5.out.lt _ h).2; omega) (by have := hb6.size; omega)
  have HX6 := Lib.hid (blk_below hb6 (lt_of_some HX5.out) HX5.out); have HB6 := Lib.hid (HB5.out.trans (hb6.mono HB5.out.size))
  have HIN := Lib.hid hins; have hz6 := hb6.size
  clear hins hv6 hb6
  go_upto_region 12 with (first
                | (go_at_call 23
                   refine HIN.out.mono ?_
                   rintro e w7 ⟨A7, c7, rfl, hO7, hb7⟩
                   have HO7 := Lib.hid hO7
                   have HB7 := Lib.hid (HB6.out.trans (hb7.mono HB4.out.size))
                   clear hO7 hb7))
  have hml : (l.take i ++ s :: l.drop i).length = l.length + 1 := by simp only [List.length_append, List.length_take, List.length_cons, List.length_drop]; omega
  have hbk : BookIn w7 A7 c7 (l.take i ++ s :: l.drop i) := BookIn.ofOwn (base := w4.heap.size) (by rw [hml]; exact HO7.out) (fun s1 hs1 => by
    rcases List.mem_append.1 hs1 with h1 | h1
    · exact (H.out.jobs s1 (List.mem_of_mem_take h1)).below HB7.out
    · rcases List.mem_cons.1 h1 with rfl | h1
      · exact HJ.out.below HB7.out
      · exact (H.out.jobs s1 (List.mem_of_mem_drop h1)).below HB7.out)
  have hcp := copied_any w7 A7 c7 (l.take i ++ s :: l.drop i) hbk (by rw [hml]; omega)
  rw [hml] at hcp
  have HCP := Lib.hid hcp; have Hml := Lib.hid hml
  clear hcp hbk hml
  go_wp2_with (go_at_call 20
               refine HCP.out.mono ?_
               rintro e w8 ⟨A8, c8, m, rfl, hml, hmd, hO8, hj8, hb8⟩
               have HM8 := Lib.hid (And.intro hml (And.intro hmd (And.intro hO8 hj8))); have HB8 := Lib.hid (HB7.out.trans (hb8.mono HB7.out.size))
               clear hml hmd hO8 hj8 hb8)
  go_ret2
  obtain ⟨hml, hmd, hO8, hj8⟩ := HM8.out
  refine ⟨A8, c8, m, by rw [hml]; rfl, hmd, BookIn.ofOwn (by rw [hml]; exact hO8) (fun s1 hs1 => (hj8 s1 hs1).1), HB8.out⟩
end Go.Proofs.Ytofdkincbhahfaa
