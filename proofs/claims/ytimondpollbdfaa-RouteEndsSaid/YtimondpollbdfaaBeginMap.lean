/- What is proved: how a way begins where a map is known: the program's Begin. -/
import Derived.Test.YtimondpollbdfaaBegin
set_option linter.unusedVariables false
set_option linter.unusedSimpArgs false
namespace Go.Proofs.Ytimondpollbdfaa
open Go.RowKit
attribute [local go_sem] Span.val Atl.val Plan.val

def mapR (nodes tries : Int) (name : ByteArray) (a : Atl) : Rte := ⟨nodes, name, a, false, 1, tries, false, 0, 0⟩
theorem mapR_set {W : World} {g : Nat} {nodes tries : Int} {name : ByteArray} {a : Atl} {V : Value} (h : W.heap[g]? = some ((startR nodes tries name).blk nilV nilV)) :
    ((((((((((((W.setCell ⟨g, 2, none⟩ (.int .i64 a.groups)).setCell ⟨g, 3, none⟩ (.int .i64 a.last)).setCell ⟨g, 4, none⟩ V).setCell ⟨g, 5, none⟩ (.int .i64 a.plan.kind)).setCell ⟨g, 6, none⟩ (.int .i64 a.plan.phase)).setCell ⟨g, 7, none⟩ (.int .i64 a.plan.shard)).setCell ⟨g, 8, none⟩ (.int .i64 a.plan.other)).setCell ⟨g, 9, none⟩ (.int .i64 a.plan.group)).setCell ⟨g, 10, none⟩ (.int .i64 a.plan.past)).setCell ⟨g, 11, none⟩ (.int .i64 a.plan.epoch)).setCell ⟨g, 12, none⟩ (.string a.plan.key)).setCell ⟨g, 13, none⟩ (.bool false)).heap[g]? = some ((mapR nodes tries name a).blk V nilV) := by
  have := (heap_setCell_at (i := 13) (heap_setCell_at (i := 12) (heap_setCell_at (i := 11) (heap_setCell_at (i := 10) (heap_setCell_at (i := 9) (heap_setCell_at (i := 8) (heap_setCell_at (i := 7) (heap_setCell_at (i := 6) (heap_setCell_at (i := 5) (heap_setCell_at (i := 4) (heap_setCell_at (i := 3) (heap_setCell_at (i := 2) h (.int .i64 a.groups)) (.int .i64 a.last)) (V)) (.int .i64 a.plan.kind)) (.int .i64 a.plan.phase)) (.int .i64 a.plan.shard)) (.int .i64 a.plan.other)) (.int .i64 a.plan.group)) (.int .i64 a.plan.past)) (.int .i64 a.plan.epoch)) (.string a.plan.key)) (.bool false))
  rw [this]
  simp only [startR, mapR, Rte.blk, nilV, List.setIfInBounds_toArray, List.set_cons_zero, List.set_cons_succ]
theorem mapR_only {W : World} {g : Nat} {a : Atl} {V : Value} : Only (· = g) W ((((((((((((W.setCell ⟨g, 2, none⟩ (.int .i64 a.groups)).setCell ⟨g, 3, none⟩ (.int .i64 a.last)).setCell ⟨g, 4, none⟩ V).setCell ⟨g, 5, none⟩ (.int .i64 a.plan.kind)).setCell ⟨g, 6, none⟩ (.int .i64 a.plan.phase)).setCell ⟨g, 7, none⟩ (.int .i64 a.plan.shard)).setCell ⟨g, 8, none⟩ (.int .i64 a.plan.other)).setCell ⟨g, 9, none⟩ (.int .i64 a.plan.group)).setCell ⟨g, 10, none⟩ (.int .i64 a.plan.past)).setCell ⟨g, 11, none⟩ (.int .i64 a.plan.epoch)).setCell ⟨g, 12, none⟩ (.string a.plan.key)).setCell ⟨g, 13, none⟩ (.bool false)) :=
  ((((((((((((only_setCell W ⟨g, 2, none⟩ (.int .i64 a.groups)).trans (only_setCell _ ⟨g, 3, none⟩ _) (fun _ _ h => h)).trans (only_setCell _ ⟨g, 4, none⟩ _) (fun _ _ h => h)).trans (only_setCell _ ⟨g, 5, none⟩ _) (fun _ _ h => h)).trans (only_setCell _ ⟨g, 6, none⟩ _) (fun _ _ h => h)).trans (only_setCell _ ⟨g, 7, none⟩ _) (fun _ _ h => h)).trans (only_setCell _ ⟨g, 8, none⟩ _) (fun _ _ h => h)).trans (only_setCell _ ⟨g, 9, none⟩ _) (fun _ _ h => h)).trans (only_setCell _ ⟨g, 10, none⟩ _) (fun _ _ h => h)).trans (only_setCell _ ⟨g, 11, none⟩ _) (fun _ _ h => h)).trans (only_setCell _ ⟨g, 12, none⟩ _) (fun _ _ h => h)).trans (only_setCell _ ⟨g, 13, none⟩ _) (fun _ _ h => h))
theorem rte_fz {w : World} {g : Nat} {r : Rte} {v j : Value} (h : w.heap[g]? = some (r.blk v j)) : w.frozen? ⟨g, 2, none⟩ = false ∧ w.frozen? ⟨g, 3, none⟩ = false ∧ w.frozen? ⟨g, 4, none⟩ = false ∧ w.frozen? ⟨g, 5, none⟩ = false ∧ w.frozen? ⟨g, 6, none⟩ = false ∧ w.frozen? ⟨g, 7, none⟩ = false ∧ w.frozen? ⟨g, 8, none⟩ = false ∧ w.frozen? ⟨g, 9, none⟩ = false ∧ w.frozen? ⟨g, 10, none⟩ = false ∧ w.frozen? ⟨g, 11, none⟩ = false ∧ w.frozen? ⟨g, 12, none⟩ = false ∧ w.frozen? ⟨g, 13, none⟩ = false := by
  refine ⟨?_, ?_, ?_, ?_, ?_, ?_, ?_, ?_, ?_, ?_, ?_, ?_⟩
  all_goals exact fz_blk h _
set_option maxRecDepth 100000 in
set_option maxHeartbeats 2000000 in
theorem begin_map (w : World) (A : Option Addr) (cap : Nat) (a : Atl) (nodes tries : Int) (name : ByteArray) (hn : name.size ≤ 9223372036854775807) (h1 : 1 ≤ nodes) (h2 : nodes ≤ 7) (h3 : 1 ≤ tries) (h4 : tries ≤ 64) (hnf : named name = true) (h : MapIn w A cap a) (hm : tr (MapOk a) = true) :
    Calls Try.prog 24 #[.int .i64 nodes, .string name, a.val (.slice A a.sp.length cap), .int .i64 tries] w fun e w' => ∃ A' cap', e = .returned (.tuple #[(mapR nodes tries name a).val (.slice A' a.sp.length cap') nilV, .int .i64 0]) ∧ MapIn w' A' cap' a ∧ Below w.heap.size w w' := by
  have hlen : a.sp.length * 56 ≤ 140737488355328 := by have := (of_tr hm).2.2.2.1.1; omega
  have hnm := fun w => named_any name hn w
  rw [hnf] at hnm
  have hck := fun w hr => check_any w A cap a hr
  rw [hm] at hck
  have Hnm := Lib.hid hnm; have Hck := Lib.hid hck; have HI := Lib.hid h; clear hnm hnf hck h hm
  have hR0 : ((w.alloc (a.blk (.slice A a.sp.length cap))).alloc (zeroR.blk nilV nilV)).heap[w.heap.size + 1]? = some (zeroR.blk nilV nilV) := heap_second _ _ _
  have hM0 : ((w.alloc (a.blk (.slice A a.sp.length cap))).alloc (zeroR.blk nilV nilV)).heap[w.heap.size]? = some (a.blk (.slice A a.sp.length cap)) := (Below.heap_alloc _ _ _ (by simp)).trans (heap_alloc_new w _)
  have hB0 : Below w.heap.size w ((w.alloc (a.blk (.slice A a.sp.length cap))).alloc (zeroR.blk nilV nilV)) := al2 _ _
  go_enter Try.func24, Try.ntmps24
  go_upto_region 3 with (first
    | (go_at_call 47
       refine (Hnm.out _).mono ?_
       rintro e w1 ⟨rfl, hb1⟩
       have hR := blk_below hb1 (by simp) hR0
       have hM := blk_below hb1 (by simp; omega) hM0
       have hB := hB0.trans (hb1.mono (by simp; omega))
       have HR := Lib.hid hR; have HB := Lib.hid hB; have HM := Lib.hid hM
       clear hR hB hM hb1))
  clear hR0 hM0 hB0
  refine wp_region_lit ?_
  iterate 5
    refine wpList_step (fun K hK => ?_)
    go_simp
    refine hK _ _ ?_
    clear hK K
  refine wpList_store39 rfl (.tmp 10) (.tmp 34) rfl w1.heap.size rfl (r := startR nodes tries name) (v := nilV) (j := nilV) (r0 := zeroR) (v0 := nilV) (j0 := nilV) rfl rfl rfl (heap_alloc_new w1 _) ?_
  intro w3 hN ho3
  simp only [Act.put, List.setIfInBounds_toArray, List.set_cons_zero, List.set_cons_succ]
  have hlt1 := lt_of_some HR.out
  have hlt0 := lt_of_some HM.out
  have hne : w.heap.size ≠ w1.heap.size := by omega
  have hne1 : w.heap.size + 1 ≠ w1.heap.size := by omega
  have hB3 : Below w1.heap.size w1 w3 := ho3.below (al _) (fun k hk => by omega) (by simp)
  have hM3 := blk_below hB3 hlt0 HM.out
  have hR3 := blk_below hB3 hlt1 HR.out
  have HB3 := Lib.hid (HB.out.trans (hB3.mono HB.out.size))
  obtain ⟨m0, m1, m2, m3, m4, m5, m6, m7, m8, m9, m10, mlt⟩ := map_cells hM3
  have HM3 := Lib.hid hM3; have HR3 := Lib.hid hR3; have HN := Lib.hid hN
  clear hM3 hR3 hN hB3 ho3
  go_upto_region 6 with (first
    | (go_at_call 29
       refine (Hck.out _ (HI.out.below HB3.out)).mono ?_
       rintro e w4 ⟨rfl, hb4⟩
       have HR4 := Lib.hid (blk_below hb4 (lt_of_some HR3.out) HR3.out)
       have HN4 := Lib.hid (blk_below hb4 (lt_of_some HN.out) HN.out)
       have hM4 := blk_below hb4 (lt_of_some HM3.out) HM3.out
       obtain ⟨m0, m1, m2, m3, m4, m5, m6, m7, m8, m9, m10, mlt⟩ := map_cells hM4
       have HB4 := Lib.hid (HB3.out.trans (hb4.mono HB3.out.size))
       clear hb4 hM4)
    | (go_at_call 48
       refine (rcopied_any _ A cap a (HI.out.below HB4.out) hlen).mono ?_
       rintro e w5 ⟨A', cap', rfl, ho5, hI5, hb5⟩
       have hN5 := blk_below hb5 (lt_of_some HN4.out) HN4.out
       obtain ⟨⟨c0, c1, c13, c14, c15, c16, clt⟩, ⟨c2, c3, c4, c5, c6, c7, c8, c9, c10, c11, c12⟩, c17, c18, c19⟩ := rte_cells hN5
       obtain ⟨f2, f3, f4, f5, f6, f7, f8, f9, f10, f11, f12, f13⟩ := rte_fz hN5
       have HR5 := Lib.hid (blk_below hb5 (lt_of_some HR4.out) HR4.out)
       have HN5 := Lib.hid hN5; have HO5 := Lib.hid ho5; have HI5 := Lib.hid hI5
       have HB5 := Lib.hid (HB4.out.trans (hb5.mono HB4.out.size))
       have HL5 := Lib.hid HB4.out.size
       clear hb5 hN5 ho5 hI5))
  have hset := mapR_set (a := a) (V := .slice A' a.sp.length cap') HN5.out
  have honl := mapR_only (W := w5) (g := w1.heap.size) (a := a) (V := .slice A' a.sp.length cap')
  have hR6 := (honl.block _ (lt_of_some HR5.out) hne1).trans HR5.out
  have Hset := Lib.hid hset; have Honl := Lib.hid honl; have HR6 := Lib.hid hR6
  clear hset honl hR6
  refine wp_region_lit ?_
  refine wpList_load39 rfl (.tmp 10) rfl w1.heap.size rfl Hset.out ?_
  simp only [Act.put, List.setIfInBounds_toArray, List.set_cons_zero, List.set_cons_succ]
  refine wpList_store39 rfl (.tmp 8) (.tmp 41) rfl (w.heap.size + 1) rfl (r := mapR nodes tries name a) (v := .slice A' a.sp.length cap') (j := nilV) rfl rfl rfl HR6.out ?_
  intro w9 h9 ho9
  simp only [Act.put, List.setIfInBounds_toArray, List.set_cons_zero, List.set_cons_succ]
  go_wp2
  refine bodyPost_ret (results39 rfl _ _ (w.heap.size + 1) rfl h9) rfl ?_
  have h59 : Only (fun k => k = w1.heap.size ∨ k = w.heap.size + 1) w5 w9 := (Honl.out.mono (fun k hk => .inl hk)).trans ho9 (fun k _ hk => .inr hk)
  have hlt3 := lt_of_some HN4.out
  refine ⟨A', cap', rfl, HI5.out.ofOwn (own_only HO5.out h59 (fun k hk hf => ?_)), h59.below HB5.out (fun k hk => by omega) HB5.out.size⟩
  have := (HO5.out.lt k hk).1
  omega
end Go.Proofs.Ytimondpollbdfaa
