/- What is proved: how a way begins: the document's Begin. -/
import Derived.Test.YtimondpollbdfaaBeginMap
set_option linter.unusedVariables false
set_option linter.unusedSimpArgs false
namespace Go.Proofs.Ytimondpollbdfaa
open Go.RowKit
attribute [local go_sem] Span.val Atl.val Plan.val

set_option maxRecDepth 100000 in
set_option maxHeartbeats 1000000 in
theorem rBegin_bad1 (w : World) (A : Option Addr) (cap : Nat) (a : Atl) (nodes tries : Int) (name : ByteArray) (hn : name.size ≤ 9223372036854775807) (h1 : nodes < 1) :
    Calls Try.prog 25 #[.int .i64 nodes, .string name, a.val (.slice A a.sp.length cap), .int .i64 tries] w fun e w' => e = .returned (.tuple #[zeroR.val nilV nilV, .int .i64 1]) ∧ Below w.heap.size w w' := by
  have Hnm := Lib.hid (fun w => rNamed_any name hn w)
  have hR0 : ((w.alloc (a.blk (.slice A a.sp.length cap))).alloc (zeroR.blk nilV nilV)).heap[w.heap.size + 1]? = some (zeroR.blk nilV nilV) := heap_second _ _ _
  have hB0 : Below w.heap.size w ((w.alloc (a.blk (.slice A a.sp.length cap))).alloc (zeroR.blk nilV nilV)) := al2 _ _
  go_enter Try.func25, Try.ntmps25
  go_upto_region 2 with (first
    | (go_at_call 49
       refine (Hnm.out _).mono ?_
       rintro e w1 ⟨rfl, hb1⟩
       have hR := blk_below hb1 (by simp) hR0
       have hB := hB0.trans (hb1.mono (by simp; omega))
       have HR := Lib.hid hR; have HB := Lib.hid hB
       clear hR hB hb1))
  have HR := Lib.hid hR0; have HB := Lib.hid hB0
  refine wp_region_lit ?_
  refine wpList_step (fun K hK => ?_)
  go_simp
  refine hK _ _ ?_
  clear hK K
  refine wpList_store39 rfl (.tmp 8) (.tmp 29) rfl (w.heap.size + 1) rfl (r := zeroR) (v := nilV) (j := nilV) rfl rfl rfl HR.out ?_
  intro w9 h9 ho9
  simp only [Act.put, List.setIfInBounds_toArray, List.set_cons_zero, List.set_cons_succ]
  go_wp2
  refine bodyPost_ret (results39 rfl _ _ (w.heap.size + 1) rfl h9) rfl ?_
  exact ⟨rfl, ho9.below HB.out (fun k hk => by omega) HB.out.size⟩
set_option maxRecDepth 100000 in
set_option maxHeartbeats 1000000 in
theorem rBegin_bad2 (w : World) (A : Option Addr) (cap : Nat) (a : Atl) (nodes tries : Int) (name : ByteArray) (hn : name.size ≤ 9223372036854775807) (h1 : 1 ≤ nodes) (h2 : 7 < nodes) :
    Calls Try.prog 25 #[.int .i64 nodes, .string name, a.val (.slice A a.sp.length cap), .int .i64 tries] w fun e w' => e = .returned (.tuple #[zeroR.val nilV nilV, .int .i64 1]) ∧ Below w.heap.size w w' := by
  have Hnm := Lib.hid (fun w => rNamed_any name hn w)
  have hR0 : ((w.alloc (a.blk (.slice A a.sp.length cap))).alloc (zeroR.blk nilV nilV)).heap[w.heap.size + 1]? = some (zeroR.blk nilV nilV) := heap_second _ _ _
  have hB0 : Below w.heap.size w ((w.alloc (a.blk (.slice A a.sp.length cap))).alloc (zeroR.blk nilV nilV)) := al2 _ _
  go_enter Try.func25, Try.ntmps25
  go_upto_region 2 with (first
    | (go_at_call 49
       refine (Hnm.out _).mono ?_
       rintro e w1 ⟨rfl, hb1⟩
       have hR := blk_below hb1 (by simp) hR0
       have hB := hB0.trans (hb1.mono (by simp; omega))
       have HR := Lib.hid hR; have HB := Lib.hid hB
       clear hR hB hb1))
  have HR := Lib.hid hR0; have HB := Lib.hid hB0
  refine wp_region_lit ?_
  refine wpList_step (fun K hK => ?_)
  go_simp
  refine hK _ _ ?_
  clear hK K
  refine wpList_store39 rfl (.tmp 8) (.tmp 29) rfl (w.heap.size + 1) rfl (r := zeroR) (v := nilV) (j := nilV) rfl rfl rfl HR.out ?_
  intro w9 h9 ho9
  simp only [Act.put, List.setIfInBounds_toArray, List.set_cons_zero, List.set_cons_succ]
  go_wp2
  refine bodyPost_ret (results39 rfl _ _ (w.heap.size + 1) rfl h9) rfl ?_
  exact ⟨rfl, ho9.below HB.out (fun k hk => by omega) HB.out.size⟩
set_option maxRecDepth 100000 in
set_option maxHeartbeats 1000000 in
theorem rBegin_bad3 (w : World) (A : Option Addr) (cap : Nat) (a : Atl) (nodes tries : Int) (name : ByteArray) (hn : name.size ≤ 9223372036854775807) (h1 : 1 ≤ nodes) (h2 : nodes ≤ 7) (h3 : tries < 1) :
    Calls Try.prog 25 #[.int .i64 nodes, .string name, a.val (.slice A a.sp.length cap), .int .i64 tries] w fun e w' => e = .returned (.tuple #[zeroR.val nilV nilV, .int .i64 1]) ∧ Below w.heap.size w w' := by
  have Hnm := Lib.hid (fun w => rNamed_any name hn w)
  have hR0 : ((w.alloc (a.blk (.slice A a.sp.length cap))).alloc (zeroR.blk nilV nilV)).heap[w.heap.size + 1]? = some (zeroR.blk nilV nilV) := heap_second _ _ _
  have hB0 : Below w.heap.size w ((w.alloc (a.blk (.slice A a.sp.length cap))).alloc (zeroR.blk nilV nilV)) := al2 _ _
  go_enter Try.func25, Try.ntmps25
  go_upto_region 2 with (first
    | (go_at_call 49
       refine (Hnm.out _).mono ?_
       rintro e w1 ⟨rfl, hb1⟩
       have hR := blk_below hb1 (by simp) hR0
       have hB := hB0.trans (hb1.mono (by simp; omega))
       have HR := Lib.hid hR; have HB := Lib.hid hB
       clear hR hB hb1))
  have HR := Lib.hid hR0; have HB := Lib.hid hB0
  refine wp_region_lit ?_
  refine wpList_step (fun K hK => ?_)
  go_simp
  refine hK _ _ ?_
  clear hK K
  refine wpList_store39 rfl (.tmp 8) (.tmp 29) rfl (w.heap.size + 1) rfl (r := zeroR) (v := nilV) (j := nilV) rfl rfl rfl HR.out ?_
  intro w9 h9 ho9
  simp only [Act.put, List.setIfInBounds_toArray, List.set_cons_zero, List.set_cons_succ]
  go_wp2
  refine bodyPost_ret (results39 rfl _ _ (w.heap.size + 1) rfl h9) rfl ?_
  exact ⟨rfl, ho9.below HB.out (fun k hk => by omega) HB.out.size⟩
set_option maxRecDepth 100000 in
set_option maxHeartbeats 1000000 in
theorem rBegin_bad4 (w : World) (A : Option Addr) (cap : Nat) (a : Atl) (nodes tries : Int) (name : ByteArray) (hn : name.size ≤ 9223372036854775807) (h1 : 1 ≤ nodes) (h2 : nodes ≤ 7) (h3 : 1 ≤ tries) (h4 : 64 < tries) :
    Calls Try.prog 25 #[.int .i64 nodes, .string name, a.val (.slice A a.sp.length cap), .int .i64 tries] w fun e w' => e = .returned (.tuple #[zeroR.val nilV nilV, .int .i64 1]) ∧ Below w.heap.size w w' := by
  have Hnm := Lib.hid (fun w => rNamed_any name hn w)
  have hR0 : ((w.alloc (a.blk (.slice A a.sp.length cap))).alloc (zeroR.blk nilV nilV)).heap[w.heap.size + 1]? = some (zeroR.blk nilV nilV) := heap_second _ _ _
  have hB0 : Below w.heap.size w ((w.alloc (a.blk (.slice A a.sp.length cap))).alloc (zeroR.blk nilV nilV)) := al2 _ _
  go_enter Try.func25, Try.ntmps25
  go_upto_region 2 with (first
    | (go_at_call 49
       refine (Hnm.out _).mono ?_
       rintro e w1 ⟨rfl, hb1⟩
       have hR := blk_below hb1 (by simp) hR0
       have hB := hB0.trans (hb1.mono (by simp; omega))
       have HR := Lib.hid hR; have HB := Lib.hid hB
       clear hR hB hb1))
  have HR := Lib.hid hR0; have HB := Lib.hid hB0
  refine wp_region_lit ?_
  refine wpList_step (fun K hK => ?_)
  go_simp
  refine hK _ _ ?_
  clear hK K
  refine wpList_store39 rfl (.tmp 8) (.tmp 29) rfl (w.heap.size + 1) rfl (r := zeroR) (v := nilV) (j := nilV) rfl rfl rfl HR.out ?_
  intro w9 h9 ho9
  simp only [Act.put, List.setIfInBounds_toArray, List.set_cons_zero, List.set_cons_succ]
  go_wp2
  refine bodyPost_ret (results39 rfl _ _ (w.heap.size + 1) rfl h9) rfl ?_
  exact ⟨rfl, ho9.below HB.out (fun k hk => by omega) HB.out.size⟩
set_option maxRecDepth 100000 in
set_option maxHeartbeats 1000000 in
theorem rBegin_bad5 (w : World) (A : Option Addr) (cap : Nat) (a : Atl) (nodes tries : Int) (name : ByteArray) (hn : name.size ≤ 9223372036854775807) (h1 : 1 ≤ nodes) (h2 : nodes ≤ 7) (h3 : 1 ≤ tries) (h4 : tries ≤ 64) (hnf : named name = false) :
    Calls Try.prog 25 #[.int .i64 nodes, .string name, a.val (.slice A a.sp.length cap), .int .i64 tries] w fun e w' => e = .returned (.tuple #[zeroR.val nilV nilV, .int .i64 1]) ∧ Below w.heap.size w w' := by
  have hnm := fun w => rNamed_any name hn w
  rw [hnf] at hnm
  have Hnm := Lib.hid hnm; clear hnm hnf
  have hR0 : ((w.alloc (a.blk (.slice A a.sp.length cap))).alloc (zeroR.blk nilV nilV)).heap[w.heap.size + 1]? = some (zeroR.blk nilV nilV) := heap_second _ _ _
  have hB0 : Below w.heap.size w ((w.alloc (a.blk (.slice A a.sp.length cap))).alloc (zeroR.blk nilV nilV)) := al2 _ _
  go_enter Try.func25, Try.ntmps25
  go_upto_region 2 with (first
    | (go_at_call 49
       refine (Hnm.out _).mono ?_
       rintro e w1 ⟨rfl, hb1⟩
       have hR := blk_below hb1 (by simp) hR0
       have hB := hB0.trans (hb1.mono (by simp; omega))
       have HR := Lib.hid hR; have HB := Lib.hid hB
       clear hR hB hb1))
  refine wp_region_lit ?_
  refine wpList_step (fun K hK => ?_)
  go_simp
  refine hK _ _ ?_
  clear hK K
  refine wpList_store39 rfl (.tmp 8) (.tmp 29) rfl (w.heap.size + 1) rfl (r := zeroR) (v := nilV) (j := nilV) rfl rfl rfl HR.out ?_
  intro w9 h9 ho9
  simp only [Act.put, List.setIfInBounds_toArray, List.set_cons_zero, List.set_cons_succ]
  go_wp2
  refine bodyPost_ret (results39 rfl _ _ (w.heap.size + 1) rfl h9) rfl ?_
  exact ⟨rfl, ho9.below HB.out (fun k hk => by omega) HB.out.size⟩
set_option maxRecDepth 100000 in
set_option maxHeartbeats 2000000 in
theorem rBegin_new (w : World) (A : Option Addr) (cap : Nat) (a : Atl) (nodes tries : Int) (name : ByteArray) (hn : name.size ≤ 9223372036854775807) (h1 : 1 ≤ nodes) (h2 : nodes ≤ 7) (h3 : 1 ≤ tries) (h4 : tries ≤ 64) (hnf : named name = true) (h : MapIn w A cap a) (hm : tr (MapOk a) = false) :
    Calls Try.prog 25 #[.int .i64 nodes, .string name, a.val (.slice A a.sp.length cap), .int .i64 tries] w fun e w' => e = .returned (.tuple #[(startR nodes tries name).val nilV nilV, .int .i64 0]) ∧ Below w.heap.size w w' := by
  have hnm := fun w => rNamed_any name hn w
  rw [hnf] at hnm
  have hck := fun w hr => rCheck_any w A cap a hr
  rw [hm] at hck
  have Hnm := Lib.hid hnm; have Hck := Lib.hid hck; have HI := Lib.hid h; clear hnm hnf hck h hm
  have hR0 : ((w.alloc (a.blk (.slice A a.sp.length cap))).alloc (zeroR.blk nilV nilV)).heap[w.heap.size + 1]? = some (zeroR.blk nilV nilV) := heap_second _ _ _
  have hM0 : ((w.alloc (a.blk (.slice A a.sp.length cap))).alloc (zeroR.blk nilV nilV)).heap[w.heap.size]? = some (a.blk (.slice A a.sp.length cap)) := (Below.heap_alloc _ _ _ (by simp)).trans (heap_alloc_new w _)
  have hB0 : Below w.heap.size w ((w.alloc (a.blk (.slice A a.sp.length cap))).alloc (zeroR.blk nilV nilV)) := al2 _ _
  go_enter Try.func25, Try.ntmps25
  go_upto_region 4 with (first
    | (go_at_call 49
       refine (Hnm.out _).mono ?_
       rintro e w1 ⟨rfl, hb1⟩
       have hR := blk_below hb1 (by simp) hR0
       have hM := blk_below hb1 (by simp; omega) hM0
       have hB := hB0.trans (hb1.mono (by simp; omega))
       obtain ⟨m0, m1, m2, m3, m4, m5, m6, m7, m8, m9, m10, mlt⟩ := map_cells hM
       have HR := Lib.hid hR; have HB := Lib.hid hB; have HM := Lib.hid hM
       clear hR hB hM hb1)
    | (go_at_call 39
       refine (Hck.out _ (HI.out.below HB.out)).mono ?_
       rintro e w2 ⟨rfl, hb2⟩
       have hM2 := blk_below hb2 (lt_of_some HM.out) HM.out
       obtain ⟨m0', m1', m2', m3', m4', m5', m6', m7', m8', m9', m10', mlt'⟩ := map_cells hM2
       have HR2 := Lib.hid (blk_below hb2 (lt_of_some HR.out) HR.out)
       have HB2 := Lib.hid (HB.out.trans (hb2.mono HB.out.size))
       clear hb2 hM2))
  clear hR0 hM0 hB0
  refine wp_region_lit ?_
  iterate 4
    refine wpList_step (fun K hK => ?_)
    go_simp
    refine hK _ _ ?_
    clear hK K
  refine wpList_store39 rfl (.tmp 8) (.tmp 36) rfl (w.heap.size + 1) rfl (r := (startR nodes tries name)) (v := nilV) (j := nilV) rfl rfl rfl HR2.out ?_
  intro w9 h9 ho9
  simp only [Act.put, List.setIfInBounds_toArray, List.set_cons_zero, List.set_cons_succ]
  go_wp2
  refine bodyPost_ret (results39 rfl _ _ (w.heap.size + 1) rfl h9) rfl ?_
  exact ⟨rfl, ho9.below HB2.out (fun k hk => by omega) HB2.out.size⟩
set_option maxRecDepth 100000 in
set_option maxHeartbeats 2000000 in
theorem rBegin_map (w : World) (A : Option Addr) (cap : Nat) (a : Atl) (nodes tries : Int) (name : ByteArray) (hn : name.size ≤ 9223372036854775807) (h1 : 1 ≤ nodes) (h2 : nodes ≤ 7) (h3 : 1 ≤ tries) (h4 : tries ≤ 64) (hnf : named name = true) (h : MapIn w A cap a) (hm : tr (MapOk a) = true) :
    Calls Try.prog 25 #[.int .i64 nodes, .string name, a.val (.slice A a.sp.length cap), .int .i64 tries] w fun e w' => e = .returned (.tuple #[(mapR nodes tries name a).val (.slice A a.sp.length cap) nilV, .int .i64 0]) ∧ Below w.heap.size w w' := by
  have hnm := fun w => rNamed_any name hn w
  rw [hnf] at hnm
  have hck := fun w hr => rCheck_any w A cap a hr
  rw [hm] at hck
  have Hnm := Lib.hid hnm; have Hck := Lib.hid hck; have HI := Lib.hid h; clear hnm hnf hck h hm
  have hR0 : ((w.alloc (a.blk (.slice A a.sp.length cap))).alloc (zeroR.blk nilV nilV)).heap[w.heap.size + 1]? = some (zeroR.blk nilV nilV) := heap_second _ _ _
  have hM0 : ((w.alloc (a.blk (.slice A a.sp.length cap))).alloc (zeroR.blk nilV nilV)).heap[w.heap.size]? = some (a.blk (.slice A a.sp.length cap)) := (Below.heap_alloc _ _ _ (by simp)).trans (heap_alloc_new w _)
  have hB0 : Below w.heap.size w ((w.alloc (a.blk (.slice A a.sp.length cap))).alloc (zeroR.blk nilV nilV)) := al2 _ _
  go_enter Try.func25, Try.ntmps25
  go_upto_region 5 with (first
    | (go_at_call 49
       refine (Hnm.out _).mono ?_
       rintro e w1 ⟨rfl, hb1⟩
       have hR := blk_below hb1 (by simp) hR0
       have hM := blk_below hb1 (by simp; omega) hM0
       have hB := hB0.trans (hb1.mono (by simp; omega))
       obtain ⟨m0, m1, m2, m3, m4, m5, m6, m7, m8, m9, m10, mlt⟩ := map_cells hM
       have HR := Lib.hid hR; have HB := Lib.hid hB; have HM := Lib.hid hM
       clear hR hB hM hb1)
    | (go_at_call 39
       refine (Hck.out _ (HI.out.below HB.out)).mono ?_
       rintro e w2 ⟨rfl, hb2⟩
       have hM2 := blk_below hb2 (lt_of_some HM.out) HM.out
       obtain ⟨m0', m1', m2', m3', m4', m5', m6', m7', m8', m9', m10', mlt'⟩ := map_cells hM2
       have HR2 := Lib.hid (blk_below hb2 (lt_of_some HR.out) HR.out)
       have HB2 := Lib.hid (HB.out.trans (hb2.mono HB.out.size))
       clear hb2 hM2))
  clear hR0 hM0 hB0
  refine wp_region_lit ?_
  iterate 5
    refine wpList_step (fun K hK => ?_)
    go_simp
    refine hK _ _ ?_
    clear hK K
  refine wpList_store39 rfl (.tmp 8) (.tmp 41) rfl (w.heap.size + 1) rfl (r := (mapR nodes tries name a)) (v := (.slice A a.sp.length cap)) (j := nilV) rfl rfl rfl HR2.out ?_
  intro w9 h9 ho9
  simp only [Act.put, List.setIfInBounds_toArray, List.set_cons_zero, List.set_cons_succ]
  go_wp2
  refine bodyPost_ret (results39 rfl _ _ (w.heap.size + 1) rfl h9) rfl ?_
  exact ⟨rfl, ho9.below HB2.out (fun k hk => by omega) HB2.out.size⟩
end Go.Proofs.Ytimondpollbdfaa
