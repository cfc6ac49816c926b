/- What is proved: how a way begins: the program's Begin. -/
import Derived.Test.YtimondpollbdfaaBig
set_option linter.unusedVariables false
set_option linter.unusedSimpArgs false
namespace Go.Proofs.Ytimondpollbdfaa
open Go.RowKit
attribute [local go_sem] Span.val Atl.val Plan.val

set_option maxRecDepth 100000 in
set_option maxHeartbeats 1000000 in
theorem begin_bad1 (w : World) (A : Option Addr) (cap : Nat) (a : Atl) (nodes tries : Int) (name : ByteArray) (hn : name.size ≤ 9223372036854775807) (h1 : nodes < 1) :
    Calls Try.prog 24 #[.int .i64 nodes, .string name, a.val (.slice A a.sp.length cap), .int .i64 tries] w fun e w' => e = .returned (.tuple #[zeroR.val nilV nilV, .int .i64 1]) ∧ Below w.heap.size w w' := by
  have Hnm := Lib.hid (fun w => named_any name hn w)
  have hR0 : ((w.alloc (a.blk (.slice A a.sp.length cap))).alloc (zeroR.blk nilV nilV)).heap[w.heap.size + 1]? = some (zeroR.blk nilV nilV) := heap_second _ _ _
  have hB0 : Below w.heap.size w ((w.alloc (a.blk (.slice A a.sp.length cap))).alloc (zeroR.blk nilV nilV)) := al2 _ _
  go_enter Try.func24, Try.ntmps24
  go_upto_region 2 with (first
    | (go_at_call 47
       refine (Hnm.out _).mono ?_
       rintro e w1 ⟨rfl, hb1⟩
       have hR := blk_below hb1 (by simp) hR0
       have hB := hB0.trans (hb1.mono (by simp; omega))
       have HR := Lib.hid hR; have HB := Lib.hid hB
       clear hR hB hb1))
  have HR := Lib.hid hR0; have HB := Lib.hid hB0
  refine wp_region_lit ?_
  refine wpList_step (fun K hK => ?_)
  go_simp
  refine hK _ _ ?_
  clear hK K
  refine wpList_store39 rfl (.tmp 8) (.tmp 30) rfl (w.heap.size + 1) rfl (r := zeroR) (v := nilV) (j := nilV) rfl rfl rfl HR.out ?_
  intro w9 h9 ho9
  simp only [Act.put, List.setIfInBounds_toArray, List.set_cons_zero, List.set_cons_succ]
  go_wp2
  refine bodyPost_ret (results39 rfl _ _ (w.heap.size + 1) rfl h9) rfl ?_
  exact ⟨rfl, ho9.below HB.out (fun k hk => by omega) HB.out.size⟩
set_option maxRecDepth 100000 in
set_option maxHeartbeats 1000000 in
theorem begin_bad2 (w : World) (A : Option Addr) (cap : Nat) (a : Atl) (nodes tries : Int) (name : ByteArray) (hn : name.size ≤ 9223372036854775807) (h1 : 1 ≤ nodes) (h2 : 7 < nodes) :
    Calls Try.prog 24 #[.int .i64 nodes, .string name, a.val (.slice A a.sp.length cap), .int .i64 tries] w fun e w' => e = .returned (.tuple #[zeroR.val nilV nilV, .int .i64 1]) ∧ Below w.heap.size w w' := by
  have Hnm := Lib.hid (fun w => named_any name hn w)
  have hR0 : ((w.alloc (a.blk (.slice A a.sp.length cap))).alloc (zeroR.blk nilV nilV)).heap[w.heap.size + 1]? = some (zeroR.blk nilV nilV) := heap_second _ _ _
  have hB0 : Below w.heap.size w ((w.alloc (a.blk (.slice A a.sp.length cap))).alloc (zeroR.blk nilV nilV)) := al2 _ _
  go_enter Try.func24, Try.ntmps24
  go_upto_region 2 with (first
    | (go_at_call 47
       refine (Hnm.out _).mono ?_
       rintro e w1 ⟨rfl, hb1⟩
       have hR := blk_below hb1 (by simp) hR0
       have hB := hB0.trans (hb1.mono (by simp; omega))
       have HR := Lib.hid hR; have HB := Lib.hid hB
       clear hR hB hb1))
  have HR := Lib.hid hR0; have HB := Lib.hid hB0
  refine wp_region_lit ?_
  refine wpList_step (fun K hK => ?_)
  go_simp
  refine hK _ _ ?_
  clear hK K
  refine wpList_store39 rfl (.tmp 8) (.tmp 30) rfl (w.heap.size + 1) rfl (r := zeroR) (v := nilV) (j := nilV) rfl rfl rfl HR.out ?_
  intro w9 h9 ho9
  simp only [Act.put, List.setIfInBounds_toArray, List.set_cons_zero, List.set_cons_succ]
  go_wp2
  refine bodyPost_ret (results39 rfl _ _ (w.heap.size + 1) rfl h9) rfl ?_
  exact ⟨rfl, ho9.below HB.out (fun k hk => by omega) HB.out.size⟩
set_option maxRecDepth 100000 in
set_option maxHeartbeats 1000000 in
theorem begin_bad3 (w : World) (A : Option Addr) (cap : Nat) (a : Atl) (nodes tries : Int) (name : ByteArray) (hn : name.size ≤ 9223372036854775807) (h1 : 1 ≤ nodes) (h2 : nodes ≤ 7) (h3 : tries < 1) :
    Calls Try.prog 24 #[.int .i64 nodes, .string name, a.val (.slice A a.sp.length cap), .int .i64 tries] w fun e w' => e = .returned (.tuple #[zeroR.val nilV nilV, .int .i64 1]) ∧ Below w.heap.size w w' := by
  have Hnm := Lib.hid (fun w => named_any name hn w)
  have hR0 : ((w.alloc (a.blk (.slice A a.sp.length cap))).alloc (zeroR.blk nilV nilV)).heap[w.heap.size + 1]? = some (zeroR.blk nilV nilV) := heap_second _ _ _
  have hB0 : Below w.heap.size w ((w.alloc (a.blk (.slice A a.sp.length cap))).alloc (zeroR.blk nilV nilV)) := al2 _ _
  go_enter Try.func24, Try.ntmps24
  go_upto_region 2 with (first
    | (go_at_call 47
       refine (Hnm.out _).mono ?_
       rintro e w1 ⟨rfl, hb1⟩
       have hR := blk_below hb1 (by simp) hR0
       have hB := hB0.trans (hb1.mono (by simp; omega))
       have HR := Lib.hid hR; have HB := Lib.hid hB
       clear hR hB hb1))
  have HR := Lib.hid hR0; have HB := Lib.hid hB0
  refine wp_region_lit ?_
  refine wpList_step (fun K hK => ?_)
  go_simp
  refine hK _ _ ?_
  clear hK K
  refine wpList_store39 rfl (.tmp 8) (.tmp 30) rfl (w.heap.size + 1) rfl (r := zeroR) (v := nilV) (j := nilV) rfl rfl rfl HR.out ?_
  intro w9 h9 ho9
  simp only [Act.put, List.setIfInBounds_toArray, List.set_cons_zero, List.set_cons_succ]
  go_wp2
  refine bodyPost_ret (results39 rfl _ _ (w.heap.size + 1) rfl h9) rfl ?_
  exact ⟨rfl, ho9.below HB.out (fun k hk => by omega) HB.out.size⟩
set_option maxRecDepth 100000 in
set_option maxHeartbeats 1000000 in
theorem begin_bad4 (w : World) (A : Option Addr) (cap : Nat) (a : Atl) (nodes tries : Int) (name : ByteArray) (hn : name.size ≤ 9223372036854775807) (h1 : 1 ≤ nodes) (h2 : nodes ≤ 7) (h3 : 1 ≤ tries) (h4 : 64 < tries) :
    Calls Try.prog 24 #[.int .i64 nodes, .string name, a.val (.slice A a.sp.length cap), .int .i64 tries] w fun e w' => e = .returned (.tuple #[zeroR.val nilV nilV, .int .i64 1]) ∧ Below w.heap.size w w' := by
  have Hnm := Lib.hid (fun w => named_any name hn w)
  have hR0 : ((w.alloc (a.blk (.slice A a.sp.length cap))).alloc (zeroR.blk nilV nilV)).heap[w.heap.size + 1]? = some (zeroR.blk nilV nilV) := heap_second _ _ _
  have hB0 : Below w.heap.size w ((w.alloc (a.blk (.slice A a.sp.length cap))).alloc (zeroR.blk nilV nilV)) := al2 _ _
  go_enter Try.func24, Try.ntmps24
  go_upto_region 2 with (first
    | (go_at_call 47
       refine (Hnm.out _).mono ?_
       rintro e w1 ⟨rfl, hb1⟩
       have hR := blk_below hb1 (by simp) hR0
       have hB := hB0.trans (hb1.mono (by simp; omega))
       have HR := Lib.hid hR; have HB := Lib.hid hB
       clear hR hB hb1))
  have HR := Lib.hid hR0; have HB := Lib.hid hB0
  refine wp_region_lit ?_
  refine wpList_step (fun K hK => ?_)
  go_simp
  refine hK _ _ ?_
  clear hK K
  refine wpList_store39 rfl (.tmp 8) (.tmp 30) rfl (w.heap.size + 1) rfl (r := zeroR) (v := nilV) (j := nilV) rfl rfl rfl HR.out ?_
  intro w9 h9 ho9
  simp only [Act.put, List.setIfInBounds_toArray, List.set_cons_zero, List.set_cons_succ]
  go_wp2
  refine bodyPost_ret (results39 rfl _ _ (w.heap.size + 1) rfl h9) rfl ?_
  exact ⟨rfl, ho9.below HB.out (fun k hk => by omega) HB.out.size⟩
set_option maxRecDepth 100000 in
set_option maxHeartbeats 1000000 in
theorem begin_bad5 (w : World) (A : Option Addr) (cap : Nat) (a : Atl) (nodes tries : Int) (name : ByteArray) (hn : name.size ≤ 9223372036854775807) (h1 : 1 ≤ nodes) (h2 : nodes ≤ 7) (h3 : 1 ≤ tries) (h4 : tries ≤ 64) (hnf : named name = false) :
    Calls Try.prog 24 #[.int .i64 nodes, .string name, a.val (.slice A a.sp.length cap), .int .i64 tries] w fun e w' => e = .returned (.tuple #[zeroR.val nilV nilV, .int .i64 1]) ∧ Below w.heap.size w w' := by
  have hnm := fun w => named_any name hn w
  rw [hnf] at hnm
  have Hnm := Lib.hid hnm; clear hnm hnf
  have hR0 : ((w.alloc (a.blk (.slice A a.sp.length cap))).alloc (zeroR.blk nilV nilV)).heap[w.heap.size + 1]? = some (zeroR.blk nilV nilV) := heap_second _ _ _
  have hB0 : Below w.heap.size w ((w.alloc (a.blk (.slice A a.sp.length cap))).alloc (zeroR.blk nilV nilV)) := al2 _ _
  go_enter Try.func24, Try.ntmps24
  go_upto_region 2 with (first
    | (go_at_call 47
       refine (Hnm.out _).mono ?_
       rintro e w1 ⟨rfl, hb1⟩
       have hR := blk_below hb1 (by simp) hR0
       have hB := hB0.trans (hb1.mono (by simp; omega))
       have HR := Lib.hid hR; have HB := Lib.hid hB
       clear hR hB hb1))
  refine wp_region_lit ?_
  refine wpList_step (fun K hK => ?_)
  go_simp
  refine hK _ _ ?_
  clear hK K
  refine wpList_store39 rfl (.tmp 8) (.tmp 30) rfl (w.heap.size + 1) rfl (r := zeroR) (v := nilV) (j := nilV) rfl rfl rfl HR.out ?_
  intro w9 h9 ho9
  simp only [Act.put, List.setIfInBounds_toArray, List.set_cons_zero, List.set_cons_succ]
  go_wp2
  refine bodyPost_ret (results39 rfl _ _ (w.heap.size + 1) rfl h9) rfl ?_
  exact ⟨rfl, ho9.below HB.out (fun k hk => by omega) HB.out.size⟩
def startR (nodes tries : Int) (name : ByteArray) : Rte := ⟨nodes, name, ⟨0, 0, [], ⟨0, 0, 0, 0, 0, 0, 0, ⟨#[]⟩⟩⟩, true, 1, tries, false, 0, 0⟩
set_option maxRecDepth 100000 in
set_option maxHeartbeats 2000000 in
theorem begin_new (w : World) (A : Option Addr) (cap : Nat) (a : Atl) (nodes tries : Int) (name : ByteArray) (hn : name.size ≤ 9223372036854775807) (h1 : 1 ≤ nodes) (h2 : nodes ≤ 7) (h3 : 1 ≤ tries) (h4 : tries ≤ 64) (hnf : named name = true) (h : MapIn w A cap a) (hm : tr (MapOk a) = false) :
    Calls Try.prog 24 #[.int .i64 nodes, .string name, a.val (.slice A a.sp.length cap), .int .i64 tries] w fun e w' => e = .returned (.tuple #[(startR nodes tries name).val nilV nilV, .int .i64 0]) ∧ Below w.heap.size w w' := by
  have hnm := fun w => named_any name hn w
  rw [hnf] at hnm
  have hck := fun w hr => check_any w A cap a hr
  rw [hm] at hck
  have Hnm := Lib.hid hnm; have Hck := Lib.hid hck; have HI := Lib.hid h; clear hnm hnf hck h hm
  have hR0 : ((w.alloc (a.blk (.slice A a.sp.length cap))).alloc (zeroR.blk nilV nilV)).heap[w.heap.size + 1]? = some (zeroR.blk nilV nilV) := heap_second _ _ _
  have hM0 : ((w.alloc (a.blk (.slice A a.sp.length cap))).alloc (zeroR.blk nilV nilV)).heap[w.heap.size]? = some (a.blk (.slice A a.sp.length cap)) := (Below.heap_alloc _ _ _ (by simp)).trans (heap_alloc_new w _)
  have hB0 : Below w.heap.size w ((w.alloc (a.blk (.slice A a.sp.length cap))).alloc (zeroR.blk nilV nilV)) := al2 _ _
  go_enter Try.func24, Try.ntmps24
  go_upto_region 3 with (first
    | (go_at_call 47
       refine (Hnm.out _).mono ?_
       rintro e w1 ⟨rfl, hb1⟩
       have hR := blk_below hb1 (by simp) hR0
       have hM := blk_below hb1 (by simp; omega) hM0
       have hB := hB0.trans (hb1.mono (by simp; omega))
       have HR := Lib.hid hR; have HB := Lib.hid hB; have HM := Lib.hid hM
       clear hR hB hM hb1))
  clear hR0 hM0 hB0
  refine wp_region_lit ?_
  iterate 5
    refine wpList_step (fun K hK => ?_)
    go_simp
    refine hK _ _ ?_
    clear hK K
  refine wpList_store39 rfl (.tmp 10) (.tmp 34) rfl w1.heap.size rfl (r := startR nodes tries name) (v := nilV) (j := nilV) (r0 := zeroR) (v0 := nilV) (j0 := nilV) rfl rfl rfl (heap_alloc_new w1 _) ?_
  intro w3 hN ho3
  simp only [Act.put, List.setIfInBounds_toArray, List.set_cons_zero, List.set_cons_succ]
  have hlt1 := lt_of_some HR.out
  have hlt0 := lt_of_some HM.out
  have hB3 : Below w1.heap.size w1 w3 := ho3.below (al _) (fun k hk => by omega) (by simp)
  have hM3 := blk_below hB3 hlt0 HM.out
  have hR3 := blk_below hB3 hlt1 HR.out
  have HB3 := Lib.hid (HB.out.trans (hB3.mono HB.out.size))
  obtain ⟨m0, m1, m2, m3, m4, m5, m6, m7, m8, m9, m10, mlt⟩ := map_cells hM3
  have HR3 := Lib.hid hR3; have HN := Lib.hid hN
  clear hM3 hR3 hN hB3 ho3
  go_upto_region 6 with (first
    | (go_at_call 29
       refine (Hck.out _ (HI.out.below HB3.out)).mono ?_
       rintro e w4 ⟨rfl, hb4⟩
       have HR4 := Lib.hid (blk_below hb4 (lt_of_some HR3.out) HR3.out)
       have HN4 := Lib.hid (blk_below hb4 (lt_of_some HN.out) HN.out)
       have HB4 := Lib.hid (HB3.out.trans (hb4.mono HB3.out.size))
       clear hb4))
  refine wp_region_lit ?_
  refine wpList_load39 rfl (.tmp 10) rfl w1.heap.size rfl HN4.out ?_
  simp only [Act.put, List.setIfInBounds_toArray, List.set_cons_zero, List.set_cons_succ]
  refine wpList_store39 rfl (.tmp 8) (.tmp 41) rfl (w.heap.size + 1) rfl (r := startR nodes tries name) (v := nilV) (j := nilV) rfl rfl rfl HR4.out ?_
  intro w9 h9 ho9
  simp only [Act.put, List.setIfInBounds_toArray, List.set_cons_zero, List.set_cons_succ]
  go_wp2
  refine bodyPost_ret (results39 rfl _ _ (w.heap.size + 1) rfl h9) rfl ?_
  exact ⟨rfl, ho9.below HB4.out (fun k hk => by omega) HB4.out.size⟩
end Go.Proofs.Ytimondpollbdfaa
