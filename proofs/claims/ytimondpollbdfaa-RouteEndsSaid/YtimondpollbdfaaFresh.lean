/- What is proved: a way is copied into new memory: the program's fresh. Condition: its two slices take at most 2^47 bytes each. -/
import Derived.Test.YtimondpollbdfaaCloneJ
set_option linter.unusedVariables false
set_option linter.unusedSimpArgs false
namespace Go.Proofs.Ytimondpollbdfaa
open Go.RowKit
attribute [local go_sem] Span.val Atl.val Plan.val Rte.val

theorem rte_setmap {W : World} {g : Nat} {r : Rte} {V V' j : Value} (h : W.heap[g]? = some (r.blk V j)) :
    (((((((((((W.setCell ⟨g, 2, none⟩ (.int .i64 r.map.groups)).setCell ⟨g, 3, none⟩ (.int .i64 r.map.last)).setCell ⟨g, 4, none⟩ (V')).setCell ⟨g, 5, none⟩ (.int .i64 r.map.plan.kind)).setCell ⟨g, 6, none⟩ (.int .i64 r.map.plan.phase)).setCell ⟨g, 7, none⟩ (.int .i64 r.map.plan.shard)).setCell ⟨g, 8, none⟩ (.int .i64 r.map.plan.other)).setCell ⟨g, 9, none⟩ (.int .i64 r.map.plan.group)).setCell ⟨g, 10, none⟩ (.int .i64 r.map.plan.past)).setCell ⟨g, 11, none⟩ (.int .i64 r.map.plan.epoch)).setCell ⟨g, 12, none⟩ (.string r.map.plan.key)).heap[g]? = some (r.blk V' j) := by
  have := (heap_setCell_at (i := 12) (heap_setCell_at (i := 11) (heap_setCell_at (i := 10) (heap_setCell_at (i := 9) (heap_setCell_at (i := 8) (heap_setCell_at (i := 7) (heap_setCell_at (i := 6) (heap_setCell_at (i := 5) (heap_setCell_at (i := 4) (heap_setCell_at (i := 3) (heap_setCell_at (i := 2) h (.int .i64 r.map.groups)) (.int .i64 r.map.last)) (V')) (.int .i64 r.map.plan.kind)) (.int .i64 r.map.plan.phase)) (.int .i64 r.map.plan.shard)) (.int .i64 r.map.plan.other)) (.int .i64 r.map.plan.group)) (.int .i64 r.map.plan.past)) (.int .i64 r.map.plan.epoch)) (.string r.map.plan.key))
  rw [this]
  simp only [Rte.blk, List.setIfInBounds_toArray, List.set_cons_zero, List.set_cons_succ]
theorem rte_setmap_only {W : World} {g : Nat} {r : Rte} {V' : Value} : Only (· = g) W (((((((((((W.setCell ⟨g, 2, none⟩ (.int .i64 r.map.groups)).setCell ⟨g, 3, none⟩ (.int .i64 r.map.last)).setCell ⟨g, 4, none⟩ (V')).setCell ⟨g, 5, none⟩ (.int .i64 r.map.plan.kind)).setCell ⟨g, 6, none⟩ (.int .i64 r.map.plan.phase)).setCell ⟨g, 7, none⟩ (.int .i64 r.map.plan.shard)).setCell ⟨g, 8, none⟩ (.int .i64 r.map.plan.other)).setCell ⟨g, 9, none⟩ (.int .i64 r.map.plan.group)).setCell ⟨g, 10, none⟩ (.int .i64 r.map.plan.past)).setCell ⟨g, 11, none⟩ (.int .i64 r.map.plan.epoch)).setCell ⟨g, 12, none⟩ (.string r.map.plan.key)) :=
  (((((((((((only_setCell W ⟨g, 2, none⟩ (.int .i64 r.map.groups)).trans (only_setCell _ ⟨g, 3, none⟩ _) (fun _ _ h => h)).trans (only_setCell _ ⟨g, 4, none⟩ _) (fun _ _ h => h)).trans (only_setCell _ ⟨g, 5, none⟩ _) (fun _ _ h => h)).trans (only_setCell _ ⟨g, 6, none⟩ _) (fun _ _ h => h)).trans (only_setCell _ ⟨g, 7, none⟩ _) (fun _ _ h => h)).trans (only_setCell _ ⟨g, 8, none⟩ _) (fun _ _ h => h)).trans (only_setCell _ ⟨g, 9, none⟩ _) (fun _ _ h => h)).trans (only_setCell _ ⟨g, 10, none⟩ _) (fun _ _ h => h)).trans (only_setCell _ ⟨g, 11, none⟩ _) (fun _ _ h => h)).trans (only_setCell _ ⟨g, 12, none⟩ _) (fun _ _ h => h))
theorem rte_setjobs {W : World} {g : Nat} {r : Rte} {V j j' : Value} (h : W.heap[g]? = some (r.blk V j)) : (W.setCell ⟨g, 19, none⟩ j').heap[g]? = some (r.blk V j') := by
  have := heap_setCell_at (i := 19) h j'
  rw [this]
  simp only [Rte.blk, List.setIfInBounds_toArray, List.set_cons_zero, List.set_cons_succ]
theorem results39_one {fn : Func} {p : Tmp} (h : fn.results = #[.cell p 39]) (tmps : Array Value) (w : World) (g : Nat) {r : Rte} {v j : Value} (hp : tmps.getD p undef = .pointer (some ⟨g, 0, none⟩)) (hw : w.heap[g]? = some (r.blk v j)) :
    (results fn tmps).run Try.prog w = .ok (r.val v j) w :=
  results_cell_row h tmps w g 39 _ (0, 0) _ hp hw Try.underlying39 rfl info39

set_option maxRecDepth 100000 in
set_option maxHeartbeats 4000000 in
theorem fresh_any (w : World) (A J : Option Addr) (cap jc : Nat) (r : Rte) (l : List JobD) (h : MapIn w A cap r.map) (hl1 : r.map.sp.length * 56 ≤ 140737488355328) (hj : RowAt w w.heap.size 8 J (l.map JobD.cells)) (hl2 : l.length * 96 ≤ 140737488355328) :
    Calls Try.prog 56 #[r.val (.slice A r.map.sp.length cap) (.slice J l.length jc)] w fun e w' => ∃ A' cap' J' jc', e = .returned (r.val (.slice A' r.map.sp.length cap') (.slice J' l.length jc')) ∧ w'.ownsRow w.heap.size 50 5 (.slice A' r.map.sp.length cap') r.map.sp.length (r.map.sp.map Span.cells).flatten ∧ w'.ownsRow w.heap.size 88 8 (.slice J' l.length jc') l.length (l.map JobD.cells).flatten ∧ Below w.heap.size w w' := by
  have HI := Lib.hid h; have HJ := Lib.hid hj; clear h hj
  have hX0 : ((w.alloc (r.blk (.slice A r.map.sp.length cap) (.slice J l.length jc))).alloc (zeroR.blk nilV nilV)).heap[w.heap.size]? = some (r.blk (.slice A r.map.sp.length cap) (.slice J l.length jc)) := (Below.heap_alloc _ _ _ (by simp)).trans (heap_alloc_new w _)
  have hY0 : ((w.alloc (r.blk (.slice A r.map.sp.length cap) (.slice J l.length jc))).alloc (zeroR.blk nilV nilV)).heap[w.heap.size + 1]? = some (zeroR.blk nilV nilV) := heap_second _ _ _
  have hB0 : Below w.heap.size w ((w.alloc (r.blk (.slice A r.map.sp.length cap) (.slice J l.length jc))).alloc (zeroR.blk nilV nilV)) := al2 _ _
  go_enter Try.func56, Try.ntmps56
  go_upto_region 3 with (first
    | (go_at_call 48
       refine (rcopied_any _ A cap r.map (HI.out.below (al2 _ _)) hl1).mono ?_
       rintro e w1 ⟨A', cap', rfl, ho, hI1, hb1⟩
       have hX := blk_below hb1 (by simp; omega) hX0
       have hY := blk_below hb1 (by simp) hY0
       have hB := hB0.trans (hb1.mono (by simp; omega))
       obtain ⟨⟨c0, c1, c13, c14, c15, c16, clt⟩, ⟨c2, c3, c4, c5, c6, c7, c8, c9, c10, c11, c12⟩, c17, c18, c19⟩ := rte_cells hX
       obtain ⟨f2, f3, f4, f5, f6, f7, f8, f9, f10, f11, f12, f13⟩ := rte_fz hX
       have f19 := fz_blk hX 19
       have hset := rte_setmap (V' := .slice A' r.map.sp.length cap') hX
       have hon := rte_setmap_only (W := w1) (g := w.heap.size) (r := r) (V' := .slice A' r.map.sp.length cap')
       have hne : w.heap.size + 1 ≠ w.heap.size := by omega
       have hYs := (hon.block _ (lt_of_some hY) hne).trans hY
       have hBs := hon.below hB (fun k hk => by omega) hB.size
       have hOs := own_base (own_only ho hon (fun k hk he => by have h1 := (ho.lt k hk).1; simp at h1; omega)) (base' := w.heap.size + 1 + 1) (by simp)
       have HX := Lib.hid hset; have HY := Lib.hid hYs; have HB := Lib.hid hBs; have HO1 := Lib.hid hOs
       clear hX hY hB ho hI1 hb1 hset hon hYs hBs hOs hX0 hY0 hB0)
    | (go_at_call 58
       refine (cloneJ_any _ J jc l ((HJ.out.below HB.out (Nat.le_refl _)).more HB.out.size) hl2).mono ?_
       rintro e w2 ⟨J', jc', rfl, ho2, hb2⟩
       have hX2 := blk_below hb2 (lt_of_some HX.out) HX.out
       have g19 := (rte_cells hX2).2.2.2.2
       have k19 := fz_blk hX2 19
       have HX2 := Lib.hid hX2; have HY2 := Lib.hid (blk_below hb2 (lt_of_some HY.out) HY.out)
       have HB2 := Lib.hid (HB.out.trans (hb2.mono HB.out.size)); have HP2 := Lib.hid (own_only HO1.out (Only.of_below (F := fun _ => False) hb2) (fun _ _ h => h)); have HO2 := Lib.hid (own_base ho2 (base' := w.heap.size + 1 + 1) (lt_of_some HY.out))
       have HS2 := Lib.hid HB.out.size
       clear hb2 ho2 hX2))
  have hX3 := rte_setjobs (j' := .slice J' l.length jc') HX2.out
  have hon := only_setCell w2 ⟨w.heap.size, 19, none⟩ (.slice J' l.length jc')
  have hY3 := (hon.block _ (lt_of_some HY2.out) (by show ¬ _ = _; simp)).trans HY2.out
  have HX3 := Lib.hid hX3; have HY3 := Lib.hid hY3; have HN := Lib.hid hon
  clear hX3 hY3 hon
  refine wp_region_lit ?_
  refine wpList_load39 rfl (.tmp 1) rfl w.heap.size rfl HX3.out ?_
  simp only [Act.put, List.setIfInBounds_toArray, List.set_cons_zero, List.set_cons_succ]
  refine wpList_store39 rfl (.tmp 2) (.tmp 13) rfl (w.heap.size + 1) rfl (r := r) (v := .slice A' r.map.sp.length cap') (j := .slice J' l.length jc') rfl rfl rfl HY3.out ?_
  intro w9 h9 ho9
  simp only [Act.put, List.setIfInBounds_toArray, List.set_cons_zero, List.set_cons_succ]
  go_wp2
  refine bodyPost_ret (results39_one rfl _ _ (w.heap.size + 1) rfl h9) rfl ?_
  have h29 : Only (fun k => k = w.heap.size ∨ k = w.heap.size + 1) w2 w9 := (HN.out.mono (fun k hk => .inl hk)).trans ho9 (fun k _ hk => .inr hk)
  have q1 := own_only HP2.out h29 (fun k hk hf => by have := (HP2.out.lt k hk).1; rcases hf with hf | hf <;> omega)
  have q2 := own_only HO2.out h29 (fun k hk hf => by have := (HO2.out.lt k hk).1; rcases hf with hf | hf <;> omega)
  exact ⟨A', cap', J', jc', rfl, own_base q1 (by omega), own_base q2 (by omega), h29.below HB2.out (fun k hk => by rcases hk with hk | hk <;> omega) HB2.out.size⟩
end Go.Proofs.Ytimondpollbdfaa
