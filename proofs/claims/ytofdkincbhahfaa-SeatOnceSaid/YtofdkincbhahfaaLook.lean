/- What is proved: what a client was answered: the program's Look. Condition: the book takes at most 2^47 bytes. -/
import Derived.Test.YtofdkincbhahfaaClone
import Derived.Laws.ResultCell
import Derived.Laws.Tables
import Derived.Deep.MidRow
set_option linter.unusedVariables false
set_option linter.unusedSimpArgs false
namespace Go.Proofs.Ytofdkincbhahfaa
open Go.RowKit
attribute [local go_sem] Seen.val

def resBlk (e t : Int) (j : Value) : Obj := .cells #[.int .i64 e, .int .i64 t, j] 26
def resV (e t : Int) (j : Value) : Value := .agg #[.int .i64 e, .int .i64 t, j]
theorem info26 : (Try.prog.info? 26).map (·.size) = some 3 := by kernel_rfl
theorem res_cells {w : World} {g : Nat} {e t : Int} {j : Value} (h : w.heap[g]? = some (resBlk e t j)) : w.cell? ⟨g, 0, none⟩ = some (.int .i64 e) ∧ w.cell? ⟨g, 1, none⟩ = some (.int .i64 t) ∧ w.cell? ⟨g, 2, none⟩ = some j ∧ w.frozen? ⟨g, 0, none⟩ = false ∧ w.frozen? ⟨g, 1, none⟩ = false ∧ w.frozen? ⟨g, 2, none⟩ = false := by
  refine ⟨?_, ?_, ?_, ?_, ?_, ?_⟩
  all_goals simp [World.cell?, World.frozen?, h, resBlk]
theorem res_set {w : World} {g : Nat} {e t e' t' : Int} {j j' : Value} (h : w.heap[g]? = some (resBlk e t j)) :
    (((w.setCell ⟨g, 0, none⟩ (.int .i64 e')).setCell ⟨g, 1, none⟩ (.int .i64 t')).setCell ⟨g, 2, none⟩ j').heap[g]? = some (resBlk e' t' j') := by
  have := heap_setCell_at (i := 2) (heap_setCell_at (i := 1) (heap_setCell_at (i := 0) h (.int .i64 e')) (.int .i64 t')) j'
  rw [this]
  simp only [resBlk, List.setIfInBounds_toArray, List.set_cons_zero, List.set_cons_succ]
theorem res_only (w : World) (g : Nat) (x y z : Value) : Only (· = g) w (((w.setCell ⟨g, 0, none⟩ x).setCell ⟨g, 1, none⟩ y).setCell ⟨g, 2, none⟩ z) :=
  ((only_setCell w ⟨g, 0, none⟩ x).trans (only_setCell _ ⟨g, 1, none⟩ y) (fun _ _ h => h)).trans (only_setCell _ ⟨g, 2, none⟩ z) (fun _ _ h => h)
theorem results26 {fn : Func} {p u : Tmp} (h : fn.results = #[.cell p 26, .tmp u]) (tmps : Array Value) (w : World) (g : Nat) {e t : Int} {j : Value} (hp : tmps.getD p undef = .pointer (some ⟨g, 0, none⟩)) (hw : w.heap[g]? = some (resBlk e t j)) :
    (results fn tmps).run Try.prog w = .ok (.tuple #[resV e t j, tmps.getD u undef]) w := by
  rw [results_cell_tmp h, hp]
  simp [asAddr, run_loadVar_row (P := Try.prog) w g 26 26 _ (0, 0) _ hw Try.underlying26 rfl info26, Result.andThen, resV]
/-- What a look answers: a result and an error's number. -/
structure Ans where
  err : Int
  time : Int
  jobs : List JobD
  no : Int
def noAns (n : Int) : Ans := ⟨0, 0, [], n⟩
/-- Jobs that lie in memory. -/
def ResIn (w : World) (J : Option Addr) (jc : Nat) (js : List JobD) : Prop := RowAt w w.heap.size 8 J (js.map JobD.cells) ∧ js.length ≤ jc ∧ jc ≤ 9223372036854775807 ∧ js.length * 96 ≤ 140737488355328
theorem resIn_nil (w : World) : ResIn w none 0 [] := ⟨rowAt_nil _ _ _ _, Nat.le_refl _, by decide, by decide⟩
/-- A look answers a. -/
def Looks (f : FuncId) (A : Option Addr) (cap : Nat) (l : List Seen) (c q : Int) (a : Ans) : Prop :=
  ∀ w, BookIn w A cap l → Calls Try.prog f #[.slice A l.length cap, .int .i64 c, .int .i64 q] w fun e w' => ∃ J jc, e = .returned (.tuple #[resV a.err a.time (.slice J a.jobs.length jc), .int .i64 a.no]) ∧ ResIn w' J jc a.jobs ∧ Below w.heap.size w w'
set_option maxRecDepth 100000 in
set_option maxHeartbeats 4000000 in
theorem look_bad (A : Option Addr) (cap : Nat) (l : List Seen) (c q : Int) (hb : tr (BookOk l) = false) : Looks 8 A cap l c q (noAns 4) := by
  intro w h
  have hl : l.length ≤ 9223372036854775807 := Nat.le_trans h.ncap h.cmax
  have H := Lib.hid h
  have hC := fun w (h : BookIn w A cap l) => check_any w A cap l h.row hl
  rw [hb] at hC
  have HC := Lib.hid hC; clear hC
  clear h
  go_enter Try.func8, Try.ntmps8
  go_upto_region 1 with fail
  have hX0 : (w.alloc (resBlk 0 0 (.slice none 0 0))).heap[w.heap.size]? = some (resBlk 0 0 (.slice none 0 0)) := heap_alloc_new w _
  change Code.wp _ _ _ _ (w.alloc (resBlk 0 0 (.slice none 0 0)))
  have hB0 : Below w.heap.size w (w.alloc (resBlk 0 0 (.slice none 0 0))) := al _
  generalize w.alloc (resBlk 0 0 (.slice none 0 0)) = w0 at *
  have HX0 := Lib.hid hX0; have HB0 := Lib.hid hB0
  clear hX0 hB0
  go_upto_region 2 with (first
                | (go_at_call 12
                   refine (HC.out _ (H.out.below HB0.out)).mono ?_
                   rintro e w1 ⟨rfl, hb1⟩
                   have HX1 := Lib.hid (blk_below hb1 (lt_of_some HX0.out) HX0.out)
                   have HB1 := Lib.hid (HB0.out.trans (hb1.mono HB0.out.size))
                   clear hb1))
  obtain ⟨c0, c1, c2, f0, f1, f2⟩ := res_cells HX1.out
  have Hs := Lib.hid (res_set (e' := 0) (t' := 0) (j' := .slice none 0 0) HX1.out)
  have Ho := Lib.hid ((res_only w1 w.heap.size (.int .i64 0) (.int .i64 0) (.slice none 0 0)).below HB1.out (fun k hk => by have hk : k = w.heap.size := hk; omega) HB1.out.size)
  go_wp2_with fail
  refine bodyPost_ret (results26 rfl _ _ w.heap.size rfl Hs.out) rfl ?_
  exact ⟨none, 0, rfl, resIn_nil _, Ho.out⟩
set_option maxRecDepth 100000 in
set_option maxHeartbeats 4000000 in
theorem look_arg (A : Option Addr) (cap : Nat) (l : List Seen) (c q : Int) (hb : tr (BookOk l) = true) (hr : rightB c q = false) : Looks 8 A cap l c q (noAns 1) := by
  intro w h
  have hl : l.length ≤ 9223372036854775807 := Nat.le_trans h.ncap h.cmax
  have H := Lib.hid h
  have hC := fun w (h : BookIn w A cap l) => check_any w A cap l h.row hl
  rw [hb] at hC
  have HC := Lib.hid hC; clear hC
  have hR : ∀ w, Calls Try.prog 18 #[.int .i64 c, .int .i64 q] w fun e w' => e = .returned (.bool false) ∧ Below w.heap.size w w' := fun w => by
    have := right_any w c q
    rw [hr] at this
    exact this.mono fun e w' ⟨h1, h2⟩ => ⟨h1, h2 ▸ Below.refl _ _⟩
  have HR := Lib.hid hR; clear hR
  clear h
  go_enter Try.func8, Try.ntmps8
  go_upto_region 1 with fail
  have hX0 : (w.alloc (resBlk 0 0 (.slice none 0 0))).heap[w.heap.size]? = some (resBlk 0 0 (.slice none 0 0)) := heap_alloc_new w _
  change Code.wp _ _ _ _ (w.alloc (resBlk 0 0 (.slice none 0 0)))
  have hB0 : Below w.heap.size w (w.alloc (resBlk 0 0 (.slice none 0 0))) := al _
  generalize w.alloc (resBlk 0 0 (.slice none 0 0)) = w0 at *
  have HX0 := Lib.hid hX0; have HB0 := Lib.hid hB0
  clear hX0 hB0
  go_upto_region 4 with (first
                | (go_at_call 12
                   refine (HC.out _ (H.out.below HB0.out)).mono ?_
                   rintro e w1 ⟨rfl, hb1⟩
                   have HX1 := Lib.hid (blk_below hb1 (lt_of_some HX0.out) HX0.out)
                   have HB1 := Lib.hid (HB0.out.trans (hb1.mono HB0.out.size))
                   clear hb1)
                | (go_at_call 18
                   refine (HR.out _).mono ?_
                   rintro e w2 ⟨rfl, hb2⟩
                   have HX2 := Lib.hid (blk_below hb2 (lt_of_some HX1.out) HX1.out)
                   have HB2 := Lib.hid (HB1.out.trans (hb2.mono HB1.out.size))
                   clear hb2))
  obtain ⟨c0, c1, c2, f0, f1, f2⟩ := res_cells HX2.out
  have Hs := Lib.hid (res_set (e' := 0) (t' := 0) (j' := .slice none 0 0) HX2.out)
  have Ho := Lib.hid ((res_only w2 w.heap.size (.int .i64 0) (.int .i64 0) (.slice none 0 0)).below HB2.out (fun k hk => by have hk : k = w.heap.size := hk; omega) HB2.out.size)
  go_wp2_with fail
  refine bodyPost_ret (results26 rfl _ _ w.heap.size rfl Hs.out) rfl ?_
  exact ⟨none, 0, rfl, resIn_nil _, Ho.out⟩
set_option maxRecDepth 100000 in
set_option maxHeartbeats 4000000 in
theorem look_none (A : Option Addr) (cap : Nat) (l : List Seen) (c q : Int) (hb : tr (BookOk l) = true) (hr : rightB c q = true) (hl2 : l.length ≤ 4611686018427387903) (i : Nat) (hp : Pos l c i) (hf : foundB l c i = false) : Looks 8 A cap l c q (noAns 60) := by
  intro w h
  have hl : l.length ≤ 9223372036854775807 := Nat.le_trans h.ncap h.cmax
  have H := Lib.hid h
  have hC := fun w (h : BookIn w A cap l) => check_any w A cap l h.row hl
  rw [hb] at hC
  have HC := Lib.hid hC; clear hC
  have hR : ∀ w, Calls Try.prog 18 #[.int .i64 c, .int .i64 q] w fun e w' => e = .returned (.bool true) ∧ Below w.heap.size w w' := fun w => by
    have := right_any w c q
    rw [hr] at this
    exact this.mono fun e w' ⟨h1, h2⟩ => ⟨h1, h2 ▸ Below.refl _ _⟩
  have HR := Lib.hid hR; clear hR
  have hF := fun w (h : BookIn w A cap l) => find_any w A cap l c i h.row hl2 hp
  rw [hf] at hF
  have HF := Lib.hid hF; clear hF
  clear h
  go_enter Try.func8, Try.ntmps8
  go_upto_region 1 with fail
  have hX0 : (w.alloc (resBlk 0 0 (.slice none 0 0))).heap[w.heap.size]? = some (resBlk 0 0 (.slice none 0 0)) := heap_alloc_new w _
  change Code.wp _ _ _ _ (w.alloc (resBlk 0 0 (.slice none 0 0)))
  have hB0 : Below w.heap.size w (w.alloc (resBlk 0 0 (.slice none 0 0))) := al _
  generalize w.alloc (resBlk 0 0 (.slice none 0 0)) = w0 at *
  have HX0 := Lib.hid hX0; have HB0 := Lib.hid hB0
  clear hX0 hB0
  go_upto_region 7 with (first
                | (go_at_call 12
                   refine (HC.out _ (H.out.below HB0.out)).mono ?_
                   rintro e w1 ⟨rfl, hb1⟩
                   have HX1 := Lib.hid (blk_below hb1 (lt_of_some HX0.out) HX0.out)
                   have HB1 := Lib.hid (HB0.out.trans (hb1.mono HB0.out.size))
                   clear hb1)
                | (go_at_call 18
                   refine (HR.out _).mono ?_
                   rintro e w2 ⟨rfl, hb2⟩
                   have HX2 := Lib.hid (blk_below hb2 (lt_of_some HX1.out) HX1.out)
                   have HB2 := Lib.hid (HB1.out.trans (hb2.mono HB1.out.size))
                   clear hb2)
                | (go_at_call 19
                   refine (HF.out _ (H.out.below HB2.out)).mono ?_
                   rintro e w3 ⟨rfl, hb3⟩
                   have HX3 := Lib.hid (blk_below hb3 (lt_of_some HX2.out) HX2.out)
                   have HB3 := Lib.hid (HB2.out.trans (hb3.mono HB2.out.size))
                   clear hb3))
  obtain ⟨c0, c1, c2, f0, f1, f2⟩ := res_cells HX3.out
  have Hs := Lib.hid (res_set (e' := 0) (t' := 0) (j' := .slice none 0 0) HX3.out)
  have Ho := Lib.hid ((res_only w3 w.heap.size (.int .i64 0) (.int .i64 0) (.slice none 0 0)).below HB3.out (fun k hk => by have hk : k = w.heap.size := hk; omega) HB3.out.size)
  go_wp2_with fail
  refine bodyPost_ret (results26 rfl _ _ w.heap.size rfl Hs.out) rfl ?_
  exact ⟨none, 0, rfl, resIn_nil _, Ho.out⟩
set_option maxRecDepth 100000 in
set_option maxHeartbeats 4000000 in
theorem look_less (A : Option Addr) (cap : Nat) (l : List Seen) (c q : Int) (hb : tr (BookOk l) = true) (hr : rightB c q = true) (hl2 : l.length ≤ 4611686018427387903) (i : Nat) (hp : Pos l c i) (hf : foundB l c i = true) (hi : i < l.length) (s : Seen) (hs : l[i] = s) (hq : (s.seq < q)) (hq2 : decide (s.seq < q) = true) : Looks 8 A cap l c q (noAns 60) := by
  intro w h
  have hl : l.length ≤ 9223372036854775807 := Nat.le_trans h.ncap h.cmax
  have H := Lib.hid h
  have hC := fun w (h : BookIn w A cap l) => check_any w A cap l h.row hl
  rw [hb] at hC
  have HC := Lib.hid hC; clear hC
  have hR : ∀ w, Calls Try.prog 18 #[.int .i64 c, .int .i64 q] w fun e w' => e = .returned (.bool true) ∧ Below w.heap.size w w' := fun w => by
    have := right_any w c q
    rw [hr] at this
    exact this.mono fun e w' ⟨h1, h2⟩ => ⟨h1, h2 ▸ Below.refl _ _⟩
  have HR := Lib.hid hR; clear hR
  have hF := fun w (h : BookIn w A cap l) => find_any w A cap l c i h.row hl2 hp
  rw [hf] at hF
  have HF := Lib.hid hF; clear hF
  obtain ⟨g, off, rfl, hg, p0, p1, p2, p3, p4⟩ := seen_cells H.out.row i hi
  rw [hs] at p0 p1 p2 p3 p4
  have hi1 : (0 : Int) ≤ (i : Int) := by omega
  have hi2 : (i : Int) < (l.length : Int) := by omega
  clear h
  go_enter Try.func8, Try.ntmps8
  go_upto_region 1 with fail
  have hX0 : (w.alloc (resBlk 0 0 (.slice none 0 0))).heap[w.heap.size]? = some (resBlk 0 0 (.slice none 0 0)) := heap_alloc_new w _
  change Code.wp _ _ _ _ (w.alloc (resBlk 0 0 (.slice none 0 0)))
  have hB0 : Below w.heap.size w (w.alloc (resBlk 0 0 (.slice none 0 0))) := al _
  generalize w.alloc (resBlk 0 0 (.slice none 0 0)) = w0 at *
  have HX0 := Lib.hid hX0; have HB0 := Lib.hid hB0
  clear hX0 hB0
  go_upto_region 7 with (first
                | (go_at_call 12
                   refine (HC.out _ (H.out.below HB0.out)).mono ?_
                   rintro e w1 ⟨rfl, hb1⟩
                   have HX1 := Lib.hid (blk_below hb1 (lt_of_some HX0.out) HX0.out)
                   have HB1 := Lib.hid (HB0.out.trans (hb1.mono HB0.out.size))
                   clear hb1)
                | (go_at_call 18
                   refine (HR.out _).mono ?_
                   rintro e w2 ⟨rfl, hb2⟩
                   have HX2 := Lib.hid (blk_below hb2 (lt_of_some HX1.out) HX1.out)
                   have HB2 := Lib.hid (HB1.out.trans (hb2.mono HB1.out.size))
                   clear hb2)
                | (go_at_call 19
                   refine (HF.out _ (H.out.below HB2.out)).mono ?_
                   rintro e w3 ⟨rfl, hb3⟩
                   have HX3 := Lib.hid (blk_below hb3 (lt_of_some HX2.out) HX2.out)
                   have HB3 := Lib.hid (HB2.out.trans (hb3.mono HB2.out.size))
                   clear hb3
                   have p1' := (HB3.out.cell (p := ⟨g, off + i * 5 + 1, none⟩) hg).trans p1))
  obtain ⟨c0, c1, c2, f0, f1, f2⟩ := res_cells HX3.out
  have Hs := Lib.hid (res_set (e' := 0) (t' := 0) (j' := .slice none 0 0) HX3.out)
  have Ho := Lib.hid ((res_only w3 w.heap.size (.int .i64 0) (.int .i64 0) (.slice none 0 0)).below HB3.out (fun k hk => by have hk : k = w.heap.size := hk; omega) HB3.out.size)
  go_wp2_with fail
  refine bodyPost_ret (results26 rfl _ _ w.heap.size rfl Hs.out) rfl ?_
  exact ⟨none, 0, rfl, resIn_nil _, Ho.out⟩
set_option maxRecDepth 100000 in
set_option maxHeartbeats 4000000 in
theorem look_stale (A : Option Addr) (cap : Nat) (l : List Seen) (c q : Int) (hb : tr (BookOk l) = true) (hr : rightB c q = true) (hl2 : l.length ≤ 4611686018427387903) (i : Nat) (hp : Pos l c i) (hf : foundB l c i = true) (hi : i < l.length) (s : Seen) (hs : l[i] = s) (hq : ¬ (s.seq < q)) (hq2 : decide (s.seq < q) = false) (hq3 : q < s.seq) (hq4 : decide (q < s.seq) = true) : Looks 8 A cap l c q (noAns 160) := by
  intro w h
  have hl : l.length ≤ 9223372036854775807 := Nat.le_trans h.ncap h.cmax
  have H := Lib.hid h
  have hC := fun w (h : BookIn w A cap l) => check_any w A cap l h.row hl
  rw [hb] at hC
  have HC := Lib.hid hC; clear hC
  have hR : ∀ w, Calls Try.prog 18 #[.int .i64 c, .int .i64 q] w fun e w' => e = .returned (.bool true) ∧ Below w.heap.size w w' := fun w => by
    have := right_any w c q
    rw [hr] at this
    exact this.mono fun e w' ⟨h1, h2⟩ => ⟨h1, h2 ▸ Below.refl _ _⟩
  have HR := Lib.hid hR; clear hR
  have hF := fun w (h : BookIn w A cap l) => find_any w A cap l c i h.row hl2 hp
  rw [hf] at hF
  have HF := Lib.hid hF; clear hF
  obtain ⟨g, off, rfl, hg, p0, p1, p2, p3, p4⟩ := seen_cells H.out.row i hi
  rw [hs] at p0 p1 p2 p3 p4
  have hi1 : (0 : Int) ≤ (i : Int) := by omega
  have hi2 : (i : Int) < (l.length : Int) := by omega
  clear h
  go_enter Try.func8, Try.ntmps8
  go_upto_region 1 with fail
  have hX0 : (w.alloc (resBlk 0 0 (.slice none 0 0))).heap[w.heap.size]? = some (resBlk 0 0 (.slice none 0 0)) := heap_alloc_new w _
  change Code.wp _ _ _ _ (w.alloc (resBlk 0 0 (.slice none 0 0)))
  have hB0 : Below w.heap.size w (w.alloc (resBlk 0 0 (.slice none 0 0))) := al _
  generalize w.alloc (resBlk 0 0 (.slice none 0 0)) = w0 at *
  have HX0 := Lib.hid hX0; have HB0 := Lib.hid hB0
  clear hX0 hB0
  go_upto_region 9 with (first
                | (go_at_call 12
                   refine (HC.out _ (H.out.below HB0.out)).mono ?_
                   rintro e w1 ⟨rfl, hb1⟩
                   have HX1 := Lib.hid (blk_below hb1 (lt_of_some HX0.out) HX0.out)
                   have HB1 := Lib.hid (HB0.out.trans (hb1.mono HB0.out.size))
                   clear hb1)
                | (go_at_call 18
                   refine (HR.out _).mono ?_
                   rintro e w2 ⟨rfl, hb2⟩
                   have HX2 := Lib.hid (blk_below hb2 (lt_of_some HX1.out) HX1.out)
                   have HB2 := Lib.hid (HB1.out.trans (hb2.mono HB1.out.size))
                   clear hb2)
                | (go_at_call 19
                   refine (HF.out _ (H.out.below HB2.out)).mono ?_
                   rintro e w3 ⟨rfl, hb3⟩
                   have HX3 := Lib.hid (blk_below hb3 (lt_of_some HX2.out) HX2.out)
                   have HB3 := Lib.hid (HB2.out.trans (hb3.mono HB2.out.size))
                   clear hb3
                   have p1' := (HB3.out.cell (p := ⟨g, off + i * 5 + 1, none⟩) hg).trans p1))
  obtain ⟨c0, c1, c2, f0, f1, f2⟩ := res_cells HX3.out
  have Hs := Lib.hid (res_set (e' := 0) (t' := 0) (j' := .slice none 0 0) HX3.out)
  have Ho := Lib.hid ((res_only w3 w.heap.size (.int .i64 0) (.int .i64 0) (.slice none 0 0)).below HB3.out (fun k hk => by have hk : k = w.heap.size := hk; omega) HB3.out.size)
  go_wp2_with fail
  refine bodyPost_ret (results26 rfl _ _ w.heap.size rfl Hs.out) rfl ?_
  exact ⟨none, 0, rfl, resIn_nil _, Ho.out⟩
set_option maxRecDepth 100000 in
set_option maxHeartbeats 4000000 in
theorem look_ok (A : Option Addr) (cap : Nat) (l : List Seen) (c q : Int) (hb : tr (BookOk l) = true) (hr : rightB c q = true) (hl2 : l.length ≤ 4611686018427387903) (i : Nat) (hp : Pos l c i) (hf : foundB l c i = true) (hi : i < l.length) (s : Seen) (hs : l[i] = s) (hq : ¬ (s.seq < q)) (hq2 : decide (s.seq < q) = false) (hq3 : ¬ (q < s.seq)) (hq4 : decide (q < s.seq) = false) : Looks 8 A cap l c q ⟨s.err, s.time, s.jobs, 0⟩ := by
  intro w h
  have hl : l.length ≤ 9223372036854775807 := Nat.le_trans h.ncap h.cmax
  have H := Lib.hid h
  have hC := fun w (h : BookIn w A cap l) => check_any w A cap l h.row hl
  rw [hb] at hC
  have HC := Lib.hid hC; clear hC
  have hR : ∀ w, Calls Try.prog 18 #[.int .i64 c, .int .i64 q] w fun e w' => e = .returned (.bool true) ∧ Below w.heap.size w w' := fun w => by
    have := right_any w c q
    rw [hr] at this
    exact this.mono fun e w' ⟨h1, h2⟩ => ⟨h1, h2 ▸ Below.refl _ _⟩
  have HR := Lib.hid hR; clear hR
  have hF := fun w (h : BookIn w A cap l) => find_any w A cap l c i h.row hl2 hp
  rw [hf] at hF
  have HF := Lib.hid hF; clear hF
  obtain ⟨g, off, rfl, hg, p0, p1, p2, p3, p4⟩ := seen_cells H.out.row i hi
  rw [hs] at p0 p1 p2 p3 p4
  have hi1 : (0 : Int) ≤ (i : Int) := by omega
  have hi2 : (i : Int) < (l.length : Int) := by omega
  have hsm : s ∈ l := by rw [← hs]; exact List.getElem_mem hi
  have hone : ∀ w', Below w.heap.size w w' → BookIn w' (some ⟨g, off + i * 5, none⟩) (cap - i) [s] := fun w' hbw => by
    have h2 := h.below hbw
    refine ⟨?_, by have := h.ncap; simp; omega, by have := h.cmax; omega, fun s' hs' => by rw [List.mem_singleton] at hs'; subst hs'; exact h2.jobs _ hsm⟩
    intro j cs hj
    have hj0 : j = 0 := by
      rcases Nat.eq_zero_or_pos j with h | h
      · exact h
      · rw [List.getElem?_eq_none (by simp; omega)] at hj; cases hj
    subst hj0
    have hcs : cs = s.cells := by simpa using hj.symm
    subst hcs
    obtain ⟨b, o, hA, hlt, hc⟩ := h2.row i s.cells (by rw [List.getElem?_map, List.getElem?_eq_getElem hi, hs]; rfl)
    injection hA with hA
    injection hA with hA1 hA2
    subst hA1; subst hA2
    exact ⟨g, off + i * 5, rfl, hlt, fun j u hu => by rw [Nat.zero_mul, Nat.add_zero]; exact hc j u hu⟩
  have Hone := Lib.hid hone; clear hone
  have hci : i + 1 ≤ cap := by have := h.ncap; omega
  have hcm : cap ≤ 9223372036854775807 := h.cmax
  clear h
  go_enter Try.func8, Try.ntmps8
  go_upto_region 1 with fail
  have hX0 : (w.alloc (resBlk 0 0 (.slice none 0 0))).heap[w.heap.size]? = some (resBlk 0 0 (.slice none 0 0)) := heap_alloc_new w _
  change Code.wp _ _ _ _ (w.alloc (resBlk 0 0 (.slice none 0 0)))
  have hB0 : Below w.heap.size w (w.alloc (resBlk 0 0 (.slice none 0 0))) := al _
  generalize w.alloc (resBlk 0 0 (.slice none 0 0)) = w0 at *
  have HX0 := Lib.hid hX0; have HB0 := Lib.hid hB0
  clear hX0 hB0
  go_upto_region 10 with (first
                | (go_at_call 12
                   refine (HC.out _ (H.out.below HB0.out)).mono ?_
                   rintro e w1 ⟨rfl, hb1⟩
                   have HX1 := Lib.hid (blk_below hb1 (lt_of_some HX0.out) HX0.out)
                   have HB1 := Lib.hid (HB0.out.trans (hb1.mono HB0.out.size))
                   clear hb1)
                | (go_at_call 18
                   refine (HR.out _).mono ?_
                   rintro e w2 ⟨rfl, hb2⟩
                   have HX2 := Lib.hid (blk_below hb2 (lt_of_some HX1.out) HX1.out)
                   have HB2 := Lib.hid (HB1.out.trans (hb2.mono HB1.out.size))
                   clear hb2)
                | (go_at_call 19
                   refine (HF.out _ (H.out.below HB2.out)).mono ?_
                   rintro e w3 ⟨rfl, hb3⟩
                   have HX3 := Lib.hid (blk_below hb3 (lt_of_some HX2.out) HX2.out)
                   have HB3 := Lib.hid (HB2.out.trans (hb3.mono HB2.out.size))
                   clear hb3
                   have p1' := (HB3.out.cell (p := ⟨g, off + i * 5 + 1, none⟩) hg).trans p1))
  go_wp2_with (go_at_call 20
               refine (copied_any _ (some ⟨g, off + i * 5, none⟩) (cap - i) [s] (Hone.out _ HB3.out) (by simp)).mono ?_
               rintro e w4 ⟨A4, cap4, m, rfl, hml, hmd, hO, hJ, hb4⟩
               obtain ⟨g4, rfl, hg4, hlt4⟩ := own_addr hO (by simp)
               have hm0 : 0 < m.length := by rw [hml]; simp
               have hjo := hJ m[0] (List.getElem_mem hm0)
               obtain ⟨z0, z1, z2, z3, z4⟩ := own_seen hml hO 0 hm0
               obtain ⟨J, jc, he⟩ := dat_at hmd.symm 0 (by simp)
               obtain ⟨hJ0, hF0⟩ := hjo
               rw [he] at z0 z1 z2 z3 z4 hJ0 hF0
               simp only [List.getElem_cons_zero, Nat.zero_mul, Nat.zero_add] at z0 z1 z2 z3 z4 hJ0 hF0
               have hX4 := blk_below hb4 (lt_of_some HX3.out) HX3.out
               obtain ⟨c0, c1, c2, f0, f1, f2⟩ := res_cells hX4
               have hB4 := HB3.out.trans (hb4.mono HB3.out.size)
               have Hs := Lib.hid (res_set (e' := s.err) (t' := s.time) (j' := .slice J s.jobs.length jc) hX4)
               have hon := res_only w4 w.heap.size (.int .i64 s.err) (.int .i64 s.time) (.slice J s.jobs.length jc)
               have Ho := Lib.hid (hon.below hB4 (fun k hk => by have hk : k = w.heap.size := hk; omega) hB4.size)
               have Hj := Lib.hid (JobsIn.only hJ0 hon (hF0 w.heap.size (lt_of_some HX3.out)))
               clear hml hmd hO hJ hb4 he hJ0 hF0 hX4 hB4 hon)
  refine bodyPost_ret (results26 rfl _ _ w.heap.size rfl Hs.out) rfl ?_
  exact ⟨J, jc, rfl, Hj.out, Ho.out⟩
end Go.Proofs.Ytofdkincbhahfaa
