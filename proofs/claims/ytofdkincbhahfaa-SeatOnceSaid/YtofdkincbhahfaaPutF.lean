/- What is proved: what a put makes lies in new memory: the program's Put. -/
import Derived.Test.YtofdkincbhahfaaApartW
set_option linter.unusedVariables false
set_option linter.unusedSimpArgs false
namespace Go.Proofs.Ytofdkincbhahfaa
open Go.RowKit
attribute [local go_sem] Seen.val cell_over frozen_over

/-- A book does not lie in block g. -/
def OffB (g : Nat) (A : Option Addr) (m : List Seen) : Prop := (∀ a, A = some a → m = [] ∨ a.block ≠ g) ∧ ∀ s ∈ m, OffG g s
theorem offB_nil (g : Nat) (A : Option Addr) : OffB g A [] := ⟨fun _ _ => .inl rfl, fun s hs => by cases hs⟩
theorem offB_new {w : World} {A : Option Addr} {cap : Nat} {m : List Seen} {g : Nat} (h : BookIn w A cap m) (hg : w.heap.size ≤ g) : OffB g A m := by
  refine ⟨fun a ha => ?_, fun s hs => (h.jobs s hs).off hg⟩
  cases m with
  | nil => exact .inl rfl
  | cons s m =>
    right
    obtain ⟨b, off, hA, hb, _⟩ := h.row 0 (Seen.cells s) (by simp)
    rw [ha] at hA
    injection hA with hA
    subst hA
    show b ≠ g
    omega
theorem BookIn.only {w w' : World} {A : Option Addr} {cap : Nat} {m : List Seen} {F : Nat → Prop} (h : BookIn w A cap m) (ho : Only F w w') (hF : ∀ g, F g → OffB g A m) : BookIn w' A cap m := by
  refine ⟨h.row.only ho (Nat.le_refl _) ho.size (fun a ha => ?_), h.ncap, h.cmax, fun s hs => ?_⟩
  · by_cases hf : F a.block
    · rcases (hF _ hf).1 a ha with h1 | h1
      · exact .inl (by rw [h1]; rfl)
      · exact absurd rfl h1
    · exact .inr hf
  · have hj := h.jobs s hs
    refine ⟨hj.1.only ho (Nat.le_refl _) ho.size (fun a ha => ?_), hj.2⟩
    by_cases hf : F a.block
    · rcases (hF _ hf).2 s hs a ha with h1 | h1
      · exact .inl (by rw [h1]; rfl)
      · exact absurd rfl h1
    · exact .inr hf
theorem offB_own {w : World} {base cap : Nat} {A : Option Addr} {m : List Seen} (h : w.ownsRow base 28 5 (.slice A m.length cap) m.length (m.map Seen.cells).flatten) {g : Nat} (hg : g < base) (hs : ∀ s ∈ m, OffG g s) : OffB g A m := by
  refine ⟨fun a ha => ?_, hs⟩
  rcases h.2 with ⟨h1, _⟩ | ⟨g', cap', cur, h1, hb, _⟩
  · injection h1 with h1; rw [ha] at h1; cases h1
  · injection h1 with h1
    rw [ha] at h1
    injection h1 with h1
    subst h1
    exact .inr (by show g' ≠ g; omega)
/-- A put makes a book that says D, in new memory, and the error's number n. -/
def PutsF (f : FuncId) (A : Option Addr) (cap : Nat) (l : List Seen) (s : Seen) (D : List Seen) (n : Int) : Prop :=
  ∀ w, BookIn w A cap l → JobsIn w s → Calls Try.prog f #[.slice A l.length cap, s.val] w fun e w' => ∃ (A' : Option Addr) (cap' : Nat) (m : List Seen), e = .returned (.tuple #[.slice A' m.length cap', .int .i64 n]) ∧ m.map Seen.dat = D.map Seen.dat ∧ BookIn w' A' cap' m ∧ (∀ g, g < w.heap.size → OffB g A' m) ∧ Below w.heap.size w w'
set_option maxRecDepth 100000 in
set_option maxHeartbeats 4000000 in
theorem put_set_f (A : Option Addr) (cap : Nat) (l : List Seen) (s : Seen) (hb : tr (BookOk l) = true) (hr : rightB s.client s.seq = true) (hl2 : l.length ≤ 4611686018427387903) (i : Nat) (hp : Pos l s.client i) (hf : foundB l s.client i = true) (hi : i < l.length) (t : Seen) (hs : l[i] = t) (hl64 : l.length ≤ 64) (hq : ¬ s.seq ≤ t.seq) (hq2 : decide (s.seq ≤ t.seq) = false) : PutsF 10 A cap l s (l.set i s) 0 := by
  intro w h hjs
  have hl : l.length ≤ 9223372036854775807 := Nat.le_trans h.ncap h.cmax
  have H := Lib.hid h; have HJ := Lib.hid hjs
  have hC := fun w (h : BookIn w A cap l) => check_any w A cap l h.row hl
  rw [hb] at hC
  have HC := Lib.hid hC; clear hC
  have hR : ∀ w, Calls Try.prog 18 #[.int .i64 s.client, .int .i64 s.seq] w fun e w' => e = .returned (.bool true) ∧ Below w.heap.size w w' := fun w => by
    have := right_any w s.client s.seq
    rw [hr] at this
    exact this.mono fun e w' ⟨h1, h2⟩ => ⟨h1, h2 ▸ Below.refl _ _⟩
  have HR := Lib.hid hR; clear hR
  have hF := fun w (h : BookIn w A cap l) => find_any w A cap l s.client i h.row hl2 hp
  rw [hf] at hF
  have HF := Lib.hid hF; clear hF
  obtain ⟨g, off, rfl, hg, p0, p1, p2, p3, p4⟩ := seen_cells H.out.row i hi
  rw [hs] at p0 p1 p2 p3 p4
  have hi1 : (0 : Int) ≤ (i : Int) := by omega
  have hi2 : (i : Int) < (l.length : Int) := by omega
  have hl56 : l.length * 56 ≤ 140737488355328 := by omega
  clear h hjs
  go_enter Try.func10, Try.ntmps10
  go_upto_region 1 with fail
  have hX0 : (w.alloc s.blk).heap[w.heap.size]? = some s.blk := heap_alloc_new w _
  change Code.wp _ _ _ _ (w.alloc s.blk)
  have hB0 : Below w.heap.size w (w.alloc s.blk) := al _
  generalize (w.alloc s.blk) = w0 at *
  have HX0 := Lib.hid hX0; have HB0 := Lib.hid hB0
  clear hX0 hB0
  go_upto_region 6 with (first
                | (go_at_call 12
                   refine (HC.out _ (H.out.below HB0.out)).mono ?_
                   rintro e w1 ⟨rfl, hb1⟩
                   have HX1 := Lib.hid (blk_below hb1 (lt_of_some HX0.out) HX0.out)
                   have HB1 := Lib.hid (HB0.out.trans (hb1.mono HB0.out.size))
                   obtain ⟨x0, x1, x2, x3, x4, xlt⟩ := seen_blk HX1.out
                   clear hb1)
                | (go_at_call 18
                   refine (HR.out _).mono ?_
                   rintro e w2 ⟨rfl, hb2⟩
                   have HX2 := Lib.hid (blk_below hb2 (lt_of_some HX1.out) HX1.out)
                   have HB2 := Lib.hid (HB1.out.trans (hb2.mono HB1.out.size))
                   obtain ⟨x0, x1, x2, x3, x4, xlt⟩ := seen_blk HX2.out
                   clear hb2)
                | (go_at_call 19
                   refine (HF.out _ (H.out.below HB2.out)).mono ?_
                   rintro e w3 ⟨rfl, hb3⟩
                   have HX3 := Lib.hid (blk_below hb3 (lt_of_some HX2.out) HX2.out)
                   have HB3 := Lib.hid (HB2.out.trans (hb3.mono HB2.out.size))
                   obtain ⟨x0, x1, x2, x3, x4, xlt⟩ := seen_blk HX3.out
                   clear hb3
                   have p1' := (HB3.out.cell (p := ⟨g, off + i * 5 + 1, none⟩) hg).trans p1
                   have hgw : g < w3.heap.size := Nat.lt_of_lt_of_le hg HB3.out.size))
  refine wp_region_over (by kernel_rfl) (by kernel_rfl) ?_
  repeat (go_big_quiet_step ((fail)))
  refine wpQuiet_nil ?_
  intro _ hw'
  obtain ⟨nx, hw''⟩ := hw'
  subst hw''
  have hbo := below_over w3 nx
  have HX4 := Lib.hid (blk_below hbo (lt_of_some HX3.out) HX3.out)
  have HB4 := Lib.hid (HB3.out.trans (hbo.mono HB3.out.size))
  clear hbo
  clear x0 x1 x2 x3 x4 xlt
  generalize over w3 nx = w4 at *
  obtain ⟨x0, x1, x2, x3, x4, xlt⟩ := seen_blk HX4.out
  go_upto_region 10 with (first
                | (go_at_call 22
                   refine (clone_any w4 _ cap l (H.out.below HB4.out).row hl56).mono ?_
                   rintro e w5 ⟨A5, c5, rfl, hO5, hb5⟩
                   have HO5 := Lib.hid hO5; have hz5 := hb5.size
                   have HX5 := Lib.hid (blk_below hb5 (lt_of_some HX4.out) HX4.out)
                   have HB5 := Lib.hid (HB4.out.trans (hb5.mono HB4.out.size))
                   clear x0 x1 x2 x3 x4 xlt
                   obtain ⟨x0, x1, x2, x3, x4, xlt⟩ := seen_blk HX5.out
                   clear hO5 hb5))
  obtain ⟨g5, rfl, hg5, hlt5⟩ := own_addr HO5.out (by omega)
  obtain ⟨z0, z1, z2, z3, z4⟩ := own_seen rfl HO5.out i hi
  have f0 := HO5.out.frozenAt (i * 5); have f1 := HO5.out.frozenAt (i * 5 + 1); have f2 := HO5.out.frozenAt (i * 5 + 2); have f3 := HO5.out.frozenAt (i * 5 + 3); have f4 := HO5.out.frozenAt (i * 5 + 4)
  have ho0 := (HO5.out).stored (i * 5 + 0) (.int .i64 s.client)
  rw [seen_set l i 0 t { t with client := s.client } _ (by simp [hi, hs]) (by omega) rfl] at ho0
  have ho1 := (ho0.1).stored (i * 5 + 1) (.int .i64 s.seq)
  rw [seen_set (l.set i { t with client := s.client }) i 1 ({ t with client := s.client }) { t with client := s.client, seq := s.seq } _ (by simp [hi, hs]) (by omega) rfl, List.set_set] at ho1
  have ho2 := (ho1.1).stored (i * 5 + 2) (.int .i64 s.err)
  rw [seen_set (l.set i { t with client := s.client, seq := s.seq }) i 2 ({ t with client := s.client, seq := s.seq }) { t with client := s.client, seq := s.seq, err := s.err } _ (by simp [hi, hs]) (by omega) rfl, List.set_set] at ho2
  have ho3 := (ho2.1).stored (i * 5 + 3) (.int .i64 s.time)
  rw [seen_set (l.set i { t with client := s.client, seq := s.seq, err := s.err }) i 3 ({ t with client := s.client, seq := s.seq, err := s.err }) { t with client := s.client, seq := s.seq, err := s.err, time := s.time } _ (by simp [hi, hs]) (by omega) rfl, List.set_set] at ho3
  have ho4 := (ho3.1).stored (i * 5 + 4) (.slice s.J s.jobs.length s.jc)
  rw [seen_set (l.set i { t with client := s.client, seq := s.seq, err := s.err, time := s.time }) i 4 ({ t with client := s.client, seq := s.seq, err := s.err, time := s.time }) { t with client := s.client, seq := s.seq, err := s.err, time := s.time, jobs := s.jobs, J := s.J, jc := s.jc } _ (by simp [hi, hs]) (by omega) rfl, List.set_set] at ho4
  have hon : Only (· = g5) w5 (((((w5.setCell ⟨g5, i * 5, none⟩ (.int .i64 s.client)).setCell ⟨g5, i * 5 + 1, none⟩ (.int .i64 s.seq)).setCell ⟨g5, i * 5 + 2, none⟩ (.int .i64 s.err)).setCell ⟨g5, i * 5 + 3, none⟩ (.int .i64 s.time)).setCell ⟨g5, i * 5 + 4, none⟩ (.slice s.J s.jobs.length s.jc)) := (((((only_setCell w5 ⟨g5, i * 5, none⟩ (.int .i64 s.client)).trans (only_setCell _ ⟨g5, i * 5 + 1, none⟩ (.int .i64 s.seq)) (fun _ _ h => h)).trans (only_setCell _ ⟨g5, i * 5 + 2, none⟩ (.int .i64 s.err)) (fun _ _ h => h)).trans (only_setCell _ ⟨g5, i * 5 + 3, none⟩ (.int .i64 s.time)) (fun _ _ h => h)).trans (only_setCell _ ⟨g5, i * 5 + 4, none⟩ (.slice s.J s.jobs.length s.jc)) (fun _ _ h => h))
  have HOs := Lib.hid ho4.1; have HON := Lib.hid hon
  clear ho0 ho1 ho2 ho3 ho4 hon
  go_upto_region 12 with fail
  change Code.wp _ _ _ _ (((((w5.setCell ⟨g5, i * 5, none⟩ (.int .i64 s.client)).setCell ⟨g5, i * 5 + 1, none⟩ (.int .i64 s.seq)).setCell ⟨g5, i * 5 + 2, none⟩ (.int .i64 s.err)).setCell ⟨g5, i * 5 + 3, none⟩ (.int .i64 s.time)).setCell ⟨g5, i * 5 + 4, none⟩ (.slice s.J s.jobs.length s.jc))
  have hO6 := HOs.out
  have hB6 := HON.out.below HB5.out (fun k hk => by have hk : k = g5 := hk; have := HB4.out.size; omega) HB5.out.size
  change ((((((w5.setCell ⟨g5, i * 5, none⟩ (.int .i64 s.client)).setCell ⟨g5, i * 5 + 1, none⟩ (.int .i64 s.seq)).setCell ⟨g5, i * 5 + 2, none⟩ (.int .i64 s.err)).setCell ⟨g5, i * 5 + 3, none⟩ (.int .i64 s.time)).setCell ⟨g5, i * 5 + 4, none⟩ (.slice s.J s.jobs.length s.jc))).ownsRow _ _ _ _ _ _ at hO6
  clear HOs HON
  generalize (((((w5.setCell ⟨g5, i * 5, none⟩ (.int .i64 s.client)).setCell ⟨g5, i * 5 + 1, none⟩ (.int .i64 s.seq)).setCell ⟨g5, i * 5 + 2, none⟩ (.int .i64 s.err)).setCell ⟨g5, i * 5 + 3, none⟩ (.int .i64 s.time)).setCell ⟨g5, i * 5 + 4, none⟩ (.slice s.J s.jobs.length s.jc)) = w6 at *
  have hbk : BookIn w6 (some ⟨g5, 0, none⟩) c5 (l.set i s) := by
    have : BookIn w6 (some ⟨g5, 0, none⟩) c5 (l.set i s) := BookIn.ofOwn (base := w4.heap.size) (by rw [List.length_set]; exact hO6) (fun s1 hs1 => by
      rcases List.mem_or_eq_of_mem_set hs1 with h1 | rfl
      · exact (H.out.jobs s1 h1).below hB6
      · exact HJ.out.below hB6)
    exact this
  have hlen : (l.set i s).length = l.length := List.length_set
  have hcp := copied_any w6 (some ⟨g5, 0, none⟩) c5 (l.set i s) hbk (by rw [hlen]; exact hl56)
  rw [hlen] at hcp
  have HCP := Lib.hid hcp; have HB6 := Lib.hid hB6
  clear hcp hbk hO6 hB6
  go_wp2_with (go_at_call 20
               refine HCP.out.mono ?_
               rintro e w7 ⟨A7, c7, m, rfl, hml, hmd, hO7, hj7, hb7⟩
               have HM7 := Lib.hid (And.intro hml (And.intro hmd (And.intro hO7 hj7))); have HB7 := Lib.hid (HB6.out.trans (hb7.mono HB6.out.size))
               clear hml hmd hO7 hj7 hb7)
  go_ret2
  obtain ⟨hml, hmd, hO7, hj7⟩ := HM7.out
  have hz := HB6.out.size
  refine ⟨A7, c7, m, by rw [hml]; rfl, hmd, BookIn.ofOwn (by rw [hml]; exact hO7) (fun s1 hs1 => (hj7 s1 hs1).1), fun g hg => offB_own (by rw [hml]; exact hO7) (Nat.lt_of_lt_of_le hg hz) (fun s1 hs1 => (hj7 s1 hs1).2 g (Nat.lt_of_lt_of_le hg hz)), HB7.out⟩
set_option maxRecDepth 100000 in
set_option maxHeartbeats 4000000 in
theorem put_ins_f (A : Option Addr) (cap : Nat) (l : List Seen) (s : Seen) (hb : tr (BookOk l) = true) (hr : rightB s.client s.seq = true) (hl2 : l.length ≤ 4611686018427387903) (i : Nat) (hp : Pos l s.client i) (hl64 : l.length ≤ 64) (hf : foundB l s.client i = false) : PutsF 10 A cap l s (l.take i ++ s :: l.drop i) 0 := by
  intro w h hjs
  have hl : l.length ≤ 9223372036854775807 := Nat.le_trans h.ncap h.cmax
  have H := Lib.hid h; have HJ := Lib.hid hjs
  have hC := fun w (h : BookIn w A cap l) => check_any w A cap l h.row hl
  rw [hb] at hC
  have HC := Lib.hid hC; clear hC
  have hR : ∀ w, Calls Try.prog 18 #[.int .i64 s.client, .int .i64 s.seq] w fun e w' => e = .returned (.bool true) ∧ Below w.heap.size w w' := fun w => by
    have := right_any w s.client s.seq
    rw [hr] at this
    exact this.mono fun e w' ⟨h1, h2⟩ => ⟨h1, h2 ▸ Below.refl _ _⟩
  have HR := Lib.hid hR; clear hR
  have hF := fun w (h : BookIn w A cap l) => find_any w A cap l s.client i h.row hl2 hp
  rw [hf] at hF
  have HF := Lib.hid hF; clear hF
  have hl56 : l.length * 56 ≤ 140737488355328 := by omega
  have hi : i ≤ l.length := hp.1
  clear h hjs
  go_enter Try.func10, Try.ntmps10
  go_upto_region 1 with fail
  have hX0 : (w.alloc s.blk).heap[w.heap.size]? = some s.blk := heap_alloc_new w _
  change Code.wp _ _ _ _ (w.alloc s.blk)
  have hB0 : Below w.heap.size w (w.alloc s.blk) := al _
  generalize (w.alloc s.blk) = w0 at *
  have HX0 := Lib.hid hX0; have HB0 := Lib.hid hB0
  clear hX0 hB0
  go_upto_region 6 with (first
                | (go_at_call 12
                   refine (HC.out _ (H.out.below HB0.out)).mono ?_
                   rintro e w1 ⟨rfl, hb1⟩
                   have HX1 := Lib.hid (blk_below hb1 (lt_of_some HX0.out) HX0.out)
                   have HB1 := Lib.hid (HB0.out.trans (hb1.mono HB0.out.size))
                   obtain ⟨x0, x1, x2, x3, x4, xlt⟩ := seen_blk HX1.out
                   clear hb1)
                | (go_at_call 18
                   refine (HR.out _).mono ?_
                   rintro e w2 ⟨rfl, hb2⟩
                   have HX2 := Lib.hid (blk_below hb2 (lt_of_some HX1.out) HX1.out)
                   have HB2 := Lib.hid (HB1.out.trans (hb2.mono HB1.out.size))
                   obtain ⟨x0, x1, x2, x3, x4, xlt⟩ := seen_blk HX2.out
                   clear hb2)
                | (go_at_call 19
                   refine (HF.out _ (H.out.below HB2.out)).mono ?_
                   rintro e w3 ⟨rfl, hb3⟩
                   have HX3 := Lib.hid (blk_below hb3 (lt_of_some HX2.out) HX2.out)
                   have HB3 := Lib.hid (HB2.out.trans (hb3.mono HB2.out.size))
                   obtain ⟨x0, x1, x2, x3, x4, xlt⟩ := seen_blk HX3.out
                   clear hb3))
  refine wp_region_over (by kernel_rfl) (by kernel_rfl) ?_
  repeat (go_big_quiet_step ((fail)))
  refine wpQuiet_nil ?_
  intro _ hw'
  obtain ⟨nx, hw''⟩ := hw'
  subst hw''
  have hbo := below_over w3 nx
  have HX4 := Lib.hid (blk_below hbo (lt_of_some HX3.out) HX3.out)
  have HB4 := Lib.hid (HB3.out.trans (hbo.mono HB3.out.size))
  clear hbo
  clear x0 x1 x2 x3 x4 xlt
  generalize over w3 nx = w4 at *
  obtain ⟨x0, x1, x2, x3, x4, xlt⟩ := seen_blk HX4.out
  go_upto_region 11 with (first
                | (go_at_call 22
                   refine (clone_any w4 _ cap l (H.out.below HB4.out).row hl56).mono ?_
                   rintro e w5 ⟨A5, c5, rfl, hO5, hb5⟩
                   have HO5 := Lib.hid hO5; have hz5 := hb5.size
                   have HX5 := Lib.hid (blk_below hb5 (lt_of_some HX4.out) HX4.out)
                   have HB5 := Lib.hid (HB4.out.trans (hb5.mono HB4.out.size))
                   clear x0 x1 x2 x3 x4 xlt
                   obtain ⟨x0, x1, x2, x3, x4, xlt⟩ := seen_blk HX5.out
                   clear hO5 hb5))
  have hv6 := heap_alloc_new w5 s.blk
  have hb6 : Below w5.heap.size w5 (w5.alloc s.blk) := al _
  have hins := insert_all (w5.alloc s.blk) w4.heap.size A5 c5 i l s w5.heap.size (own_only HO5.out (Only.of_below (F := fun _ => False) hb6) (fun _ _ h => h)) hi hl64 hv6 (fun h => by have := (HO5.out.lt _ h).2; omega) (by have := hb6.size; omega)
  have HX6 := Lib.hid (blk_below hb6 (lt_of_some HX5.out) HX5.out); have HB6 := Lib.hid (HB5.out.trans (hb6.mono HB5.out.size))
  have HIN := Lib.hid hins; have hz6 := hb6.size
  clear hins hv6 hb6
  go_upto_region 12 with (first
                | (go_at_call 23
                   refine HIN.out.mono ?_
                   rintro e w7 ⟨A7, c7, rfl, hO7, hb7⟩
                   have HO7 := Lib.hid hO7
                   have HB7 := Lib.hid (HB6.out.trans (hb7.mono HB4.out.size))
                   clear hO7 hb7))
  have hml : (l.take i ++ s :: l.drop i).length = l.length + 1 := by simp only [List.length_append, List.length_take, List.length_cons, List.length_drop]; omega
  have hbk : BookIn w7 A7 c7 (l.take i ++ s :: l.drop i) := BookIn.ofOwn (base := w4.heap.size) (by rw [hml]; exact HO7.out) (fun s1 hs1 => by
    rcases List.mem_append.1 hs1 with h1 | h1
    · exact (H.out.jobs s1 (List.mem_of_mem_take h1)).below HB7.out
    · rcases List.mem_cons.1 h1 with rfl | h1
      · exact HJ.out.below HB7.out
      · exact (H.out.jobs s1 (List.mem_of_mem_drop h1)).below HB7.out)
  have hcp := copied_any w7 A7 c7 (l.take i ++ s :: l.drop i) hbk (by rw [hml]; omega)
  rw [hml] at hcp
  have HCP := Lib.hid hcp; have Hml := Lib.hid hml
  clear hcp hbk hml
  go_wp2_with (go_at_call 20
               refine HCP.out.mono ?_
               rintro e w8 ⟨A8, c8, m, rfl, hml, hmd, hO8, hj8, hb8⟩
               have HM8 := Lib.hid (And.intro hml (And.intro hmd (And.intro hO8 hj8))); have HB8 := Lib.hid (HB7.out.trans (hb8.mono HB7.out.size))
               clear hml hmd hO8 hj8 hb8)
  go_ret2
  obtain ⟨hml, hmd, hO8, hj8⟩ := HM8.out
  have hz := HB7.out.size
  refine ⟨A8, c8, m, by rw [hml]; rfl, hmd, BookIn.ofOwn (by rw [hml]; exact hO8) (fun s1 hs1 => (hj8 s1 hs1).1), fun g hg => offB_own (by rw [hml]; exact hO8) (Nat.lt_of_lt_of_le hg hz) (fun s1 hs1 => (hj8 s1 hs1).2 g (Nat.lt_of_lt_of_le hg hz)), HB8.out⟩
/-- A put that is taken. -/
theorem put10_new (w : World) (A : Option Addr) (cap : Nat) (l : List Seen) (s : Seen) (h1 : BookIn w A cap l) (h2 : JobsIn w s) (hz : (putD (l.map Seen.dat) s.dat).2 = 0) :
    Calls Try.prog 10 #[.slice A l.length cap, s.val] w fun e w' => ∃ (A' : Option Addr) (cap' : Nat) (m : List Seen), e = .returned (.tuple #[.slice A' m.length cap', .int .i64 0]) ∧ m.map Seen.dat = mergeD (l.map Seen.dat) [s.dat] ∧ BookIn w' A' cap' m ∧ (∀ g, g < w.heap.size → OffB g A' m) ∧ Below w.heap.size w w' := by
  obtain ⟨hd, hr, hfr, _⟩ := putD_zero hz
  have hb : tr (BookOk l) = true := by rw [tr_iff (bookOk_iff l)]; exact tr_true hd
  have hok := of_tr hb
  have h64 := book_len hok
  obtain ⟨i, hi⟩ := pos_ex hok s.client
  cases hf : foundB l s.client i
  · have hno := found_no hok hi hf
    have hD : (l.take i ++ s :: l.drop i).map Seen.dat = mergeD (l.map Seen.dat) [s.dat] := by
      rw [mergeD_ins (l.map Seen.dat) i (by simpa using hi.1) (fun k hk hki => by
        simp only [List.length_map] at hk
        simp only [List.getElem_map]
        exact hi.2.1 k hk hki) (fun hk => by
        simp only [List.length_map] at hk
        simp only [List.getElem_map]
        have h3 := hi.2.2 i hk (Nat.le_refl _)
        have h4 := hno i hk
        show s.client < l[i].client
        omega)]
      simp [List.map_take, List.map_drop]
    rw [← hD]
    exact put_ins_f A cap l s hb hr (by omega) i hi h64 hf w h1 h2
  · obtain ⟨hil, hc⟩ := found_at hf
    have hg : getD (l.map Seen.dat) s.client = some l[i].dat := getD_at hd.2 (List.mem_map_of_mem (List.getElem_mem hil)) hc
    have hq : l[i].seq < s.seq := hfr _ hg
    have hD : (l.set i s).map Seen.dat = mergeD (l.map Seen.dat) [s.dat] := by
      rw [mergeD_set (l.map Seen.dat) i (by simpa using hil) (fun k hk hki => by
        simp only [List.length_map] at hk
        simp only [List.getElem_map]
        exact hi.2.1 k hk hki) (by simp only [List.getElem_map]; exact hc) (by simp only [List.getElem_map]; exact hq)]
      rw [List.map_set]
    rw [← hD]
    exact put_set_f A cap l s hb hr (by omega) i hi hf hil _ rfl h64 (by omega) (decide_eq_false (by omega)) w h1 h2
end Go.Proofs.Ytofdkincbhahfaa
