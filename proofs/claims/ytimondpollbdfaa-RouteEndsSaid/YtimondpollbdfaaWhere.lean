/- What is proved: a whole way is read out of its block; where a way leads: both programs' Where. -/
import Derived.Test.YtimondpollbdfaaRRte
import Derived.Deep.MidRow
import Derived.Deep.CutBlock
set_option linter.unusedVariables false
set_option linter.unusedSimpArgs false
namespace Go.Proofs.Ytimondpollbdfaa
open Go.RowKit
attribute [local go_sem] Span.val Atl.val Plan.val Rte.val

theorem info39 : (Try.prog.info? 39).map (·.size) = some 20 := by kernel_rfl
theorem rte_range {W : World} {g : Nat} {r : Rte} {v j : Value} (h : W.heap[g]? = some (r.blk v j)) : W.rangeAt g 0 [.int .i64 r.nodes, .string r.name, .int .i64 r.map.groups, .int .i64 r.map.last, v, .int .i64 r.map.plan.kind, .int .i64 r.map.plan.phase, .int .i64 r.map.plan.shard, .int .i64 r.map.plan.other, .int .i64 r.map.plan.group, .int .i64 r.map.plan.past, .int .i64 r.map.plan.epoch, .string r.map.plan.key,
  .bool r.fetch, .int .i64 r.node, .int .i64 r.left, .bool r.done, .int .i64 r.err, .int .i64 r.time, j] := fun i u hi => by
    rw [Nat.zero_add]
    simp only [World.cell?, h, Rte.blk]
    simpa using hi
theorem wpList_load39 {ops : Array Oper} {rest : List Oper} {op : Oper} {a : Act} {w : World} {Q : Exit → Act → World → Prop} (hgd : op.guard = none) (x : Operand) (ho : op.op = .load 39 x) (g : Nat) (hx : a.eval x = .pointer (some ⟨g, 0, none⟩))
    {r : Rte} {v j : Value} (h : w.heap[g]? = some (r.blk v j)) (hK : wpList Try.prog ops Q rest (a.put op.dst (r.val v j)) w) : wpList Try.prog ops Q (op :: rest) a w :=
  wpList_load_mid hgd 39 x ho g 0 hx _ _ (rte_range h) Try.underlying39 rfl info39 hK
theorem results_tmp4 {fn : Func} {t u v x : Tmp} (h : fn.results = #[.tmp t, .tmp u, .tmp v, .tmp x]) (tmps : Array Value) (P : Program) (w : World) :
    (results fn tmps).run P w = .ok (.tuple #[tmps.getD t undef, tmps.getD u undef, tmps.getD v undef, tmps.getD x undef]) w := by
  simp [results, h]
theorem rChecks_all (A : Option Addr) (cap : Nat) (a : Atl) : RChecks A cap a := fun w h => rCheck_any w A cap a h
def tup4 (a b c d : Int) : Value := .tuple #[.int .i64 a, .int .i64 b, .int .i64 c, .int .i64 d]
set_option maxRecDepth 100000 in
set_option maxHeartbeats 1000000 in
theorem where_wrong (w : World) (A : Option Addr) (cap : Nat) (j : Value) (r : Rte) (h : MapIn w A cap r.map) (hn : r.name.size ≤ 9223372036854775807) (hv : tr (RteOk r) = false) :
    Calls Try.prog 22 #[r.val (.slice A r.map.sp.length cap) j] w fun e w' => e = .returned (tup4 0 0 0 0) ∧ Below w.heap.size w w' := by
  have hck := fun w h => rteCheck_any w A cap j r h hn
  rw [hv] at hck
  have Hck := Lib.hid hck; have HI := Lib.hid h; clear hck h hv
  go_enter Try.func22, Try.ntmps22
  go_upto_region 1 with fail
  refine wp_region_lit ?_
  refine wpList_load39 rfl (.tmp 1) rfl w.heap.size rfl (heap_alloc_new w (r.blk (.slice A r.map.sp.length cap) j)) ?_
  simp only [Act.put, List.setIfInBounds_toArray, List.set_cons_zero, List.set_cons_succ]
  have hR := heap_alloc_new w (r.blk (.slice A r.map.sp.length cap) j)
  have hB := al (w := w) (r.blk (.slice A r.map.sp.length cap) j)
  have hI := HI.out.below hB
  have HB0 := Lib.hid hB; have HI0 := Lib.hid hI; have HR0 := Lib.hid hR; clear hB hI hR
  change wpList _ _ _ _ _ (w.alloc (r.blk (.slice A r.map.sp.length cap) j))
  generalize w.alloc (r.blk (.slice A r.map.sp.length cap) j) = w0 at *
  go_wp2_with (first
    | (go_at_call 26
       refine (Hck.out _ HI0.out).mono ?_
       rintro e w1 ⟨rfl, hb1⟩
       have hR := blk_below hb1 (lt_of_some HR0.out) HR0.out
       obtain ⟨⟨c0, c1, c13, c14, c15, c16, clt⟩, ⟨c2, c3, c4, c5, c6, c7, c8, c9, c10, c11, c12⟩, c17, c18, c19⟩ := rte_cells hR
       have HB := Lib.hid (HB0.out.trans (hb1.mono HB0.out.size)); have HR := Lib.hid hR
       clear hb1 hR))
  refine bodyPost_ret (results_tmp4 rfl _ _ _) rfl ?_
  exact ⟨rfl, HB.out⟩
set_option maxRecDepth 100000 in
set_option maxHeartbeats 1000000 in
theorem where_done (w : World) (A : Option Addr) (cap : Nat) (j : Value) (r : Rte) (h : MapIn w A cap r.map) (hn : r.name.size ≤ 9223372036854775807) (hv : tr (RteOk r) = true) (hd : r.done = true) :
    Calls Try.prog 22 #[r.val (.slice A r.map.sp.length cap) j] w fun e w' => e = .returned (tup4 0 0 0 0) ∧ Below w.heap.size w w' := by
  have hck := fun w h => rteCheck_any w A cap j r h hn
  rw [hv] at hck
  clear hv
  obtain ⟨nodes, name, map, fetch, node, left, done, err, time⟩ := r
  dsimp only at h hn hck hd ⊢
  subst hd
  have Hck := Lib.hid hck; have HI := Lib.hid h; clear hck h
  go_enter Try.func22, Try.ntmps22
  go_upto_region 1 with fail
  refine wp_region_lit ?_
  refine wpList_load39 rfl (.tmp 1) rfl w.heap.size rfl (heap_alloc_new w ((Rte.mk nodes name map fetch node left true err time).blk (.slice A map.sp.length cap) j)) ?_
  simp only [Act.put, List.setIfInBounds_toArray, List.set_cons_zero, List.set_cons_succ]
  have hR := heap_alloc_new w ((Rte.mk nodes name map fetch node left true err time).blk (.slice A map.sp.length cap) j)
  have hB := al (w := w) ((Rte.mk nodes name map fetch node left true err time).blk (.slice A map.sp.length cap) j)
  have hI := HI.out.below hB
  have HB0 := Lib.hid hB; have HI0 := Lib.hid hI; have HR0 := Lib.hid hR; clear hB hI hR
  change wpList _ _ _ _ _ (w.alloc ((Rte.mk nodes name map fetch node left true err time).blk (.slice A map.sp.length cap) j))
  generalize w.alloc ((Rte.mk nodes name map fetch node left true err time).blk (.slice A map.sp.length cap) j) = w0 at *
  go_wp2_with (first
    | (go_at_call 26
       refine (Hck.out _ HI0.out).mono ?_
       rintro e w1 ⟨rfl, hb1⟩
       have hR := blk_below hb1 (lt_of_some HR0.out) HR0.out
       obtain ⟨⟨c0, c1, c13, c14, c15, c16, clt⟩, ⟨c2, c3, c4, c5, c6, c7, c8, c9, c10, c11, c12⟩, c17, c18, c19⟩ := rte_cells hR
       have HB := Lib.hid (HB0.out.trans (hb1.mono HB0.out.size)); have HR := Lib.hid hR
       clear hb1 hR))
  refine bodyPost_ret (results_tmp4 rfl _ _ _) rfl ?_
  exact ⟨rfl, HB.out⟩
set_option maxRecDepth 100000 in
set_option maxHeartbeats 1000000 in
theorem where_fetch (w : World) (A : Option Addr) (cap : Nat) (j : Value) (r : Rte) (h : MapIn w A cap r.map) (hn : r.name.size ≤ 9223372036854775807) (hv : tr (RteOk r) = true) (hd : r.done = false) (hf : r.fetch = true) :
    Calls Try.prog 22 #[r.val (.slice A r.map.sp.length cap) j] w fun e w' => e = .returned (tup4 0 r.node 0 0) ∧ Below w.heap.size w w' := by
  have hck := fun w h => rteCheck_any w A cap j r h hn
  rw [hv] at hck
  clear hv
  obtain ⟨nodes, name, map, fetch, node, left, done, err, time⟩ := r
  dsimp only at h hn hck hd hf ⊢
  subst hd; subst hf
  have Hck := Lib.hid hck; have HI := Lib.hid h; clear hck h
  go_enter Try.func22, Try.ntmps22
  go_upto_region 1 with fail
  refine wp_region_lit ?_
  refine wpList_load39 rfl (.tmp 1) rfl w.heap.size rfl (heap_alloc_new w ((Rte.mk nodes name map true node left false err time).blk (.slice A map.sp.length cap) j)) ?_
  simp only [Act.put, List.setIfInBounds_toArray, List.set_cons_zero, List.set_cons_succ]
  have hR := heap_alloc_new w ((Rte.mk nodes name map true node left false err time).blk (.slice A map.sp.length cap) j)
  have hB := al (w := w) ((Rte.mk nodes name map true node left false err time).blk (.slice A map.sp.length cap) j)
  have hI := HI.out.below hB
  have HB0 := Lib.hid hB; have HI0 := Lib.hid hI; have HR0 := Lib.hid hR; clear hB hI hR
  change wpList _ _ _ _ _ (w.alloc ((Rte.mk nodes name map true node left false err time).blk (.slice A map.sp.length cap) j))
  generalize w.alloc ((Rte.mk nodes name map true node left false err time).blk (.slice A map.sp.length cap) j) = w0 at *
  go_wp2_with (first
    | (go_at_call 26
       refine (Hck.out _ HI0.out).mono ?_
       rintro e w1 ⟨rfl, hb1⟩
       have hR := blk_below hb1 (lt_of_some HR0.out) HR0.out
       obtain ⟨⟨c0, c1, c13, c14, c15, c16, clt⟩, ⟨c2, c3, c4, c5, c6, c7, c8, c9, c10, c11, c12⟩, c17, c18, c19⟩ := rte_cells hR
       have HB := Lib.hid (HB0.out.trans (hb1.mono HB0.out.size)); have HR := Lib.hid hR
       clear hb1 hR))
  go_quiet (fail)
  go_wp2
  refine bodyPost_ret (results_tmp4 rfl _ _ _) rfl ?_
  exact ⟨rfl, HB.out.trans ⟨rfl, rfl, rfl, Nat.le_refl _, fun _ _ => rfl⟩⟩
set_option maxRecDepth 100000 in
set_option maxHeartbeats 1000000 in
theorem where_some (w : World) (A : Option Addr) (cap : Nat) (j : Value) (r : Rte) (h : MapIn w A cap r.map) (hn : r.name.size ≤ 9223372036854775807) (i : Nat) (hi : i < r.map.sp.length) (hx : idxOf (inSp r.name) r.map.sp = (i : Int)) (hv : tr (RteOk r) = true) (hd : r.done = false) (hf : r.fetch = false) (hm : tr (MapOk r.map) = true) (hnm : named r.name = true) :
    Calls Try.prog 22 #[r.val (.slice A r.map.sp.length cap) j] w fun e w' => e = .returned (tup4 r.map.sp[i].gr r.node r.map.sp[i].sh r.map.sp[i].ep) ∧ Below w.heap.size w w' := by
  have hck := fun w h => rteCheck_any w A cap j r h hn
  rw [hv] at hck
  clear hv
  obtain ⟨nodes, name, map, fetch, node, left, done, err, time⟩ := r
  dsimp only at h hn hck hd hf hm hnm hi hx ⊢
  subst hd; subst hf
  have Hck := Lib.hid hck; have HI := Lib.hid h; have Hmm := Lib.hid hm; have Hnm := Lib.hid hnm; clear hck h hm hnm
  have Hx := Lib.hid hx; clear hx
  go_enter Try.func22, Try.ntmps22
  go_upto_region 1 with fail
  refine wp_region_lit ?_
  refine wpList_load39 rfl (.tmp 1) rfl w.heap.size rfl (heap_alloc_new w ((Rte.mk nodes name map false node left false err time).blk (.slice A map.sp.length cap) j)) ?_
  simp only [Act.put, List.setIfInBounds_toArray, List.set_cons_zero, List.set_cons_succ]
  have hR := heap_alloc_new w ((Rte.mk nodes name map false node left false err time).blk (.slice A map.sp.length cap) j)
  have hB := al (w := w) ((Rte.mk nodes name map false node left false err time).blk (.slice A map.sp.length cap) j)
  have hI := HI.out.below hB
  have HB0 := Lib.hid hB; have HI0 := Lib.hid hI; have HR0 := Lib.hid hR; clear hB hI hR
  change wpList _ _ _ _ _ (w.alloc ((Rte.mk nodes name map false node left false err time).blk (.slice A map.sp.length cap) j))
  generalize w.alloc ((Rte.mk nodes name map false node left false err time).blk (.slice A map.sp.length cap) j) = w0 at *
  go_wp2_with (first
    | (go_at_call 26
       refine (Hck.out _ HI0.out).mono ?_
       rintro e w1 ⟨rfl, hb1⟩
       have hR := blk_below hb1 (lt_of_some HR0.out) HR0.out
       obtain ⟨⟨c0, c1, c13, c14, c15, c16, clt⟩, ⟨c2, c3, c4, c5, c6, c7, c8, c9, c10, c11, c12⟩, c17, c18, c19⟩ := rte_cells hR
       have HB := Lib.hid (HB0.out.trans (hb1.mono HB0.out.size)); have HR := Lib.hid hR; have Hb1 := Lib.hid hb1
       clear hb1 hR)
    | (go_at_call 30
       refine (find_some _ A cap map name i (HI0.out.below (Hb1.out)) Hmm.out hn Hnm.out hi Hx.out).mono ?_
       rintro e w2 ⟨rfl, hb2⟩
       have hR := blk_below hb2 (lt_of_some HR.out) HR.out
       obtain ⟨⟨c0, c1, c13, c14, c15, c16, clt⟩, ⟨c2, c3, c4, c5, c6, c7, c8, c9, c10, c11, c12⟩, c17, c18, c19⟩ := rte_cells hR
       have HB2 := Lib.hid (HB.out.trans (hb2.mono HB.out.size))
       clear hb2 hR))
  go_quiet (fail)
  go_wp2
  refine bodyPost_ret (results_tmp4 rfl _ _ _) rfl ?_
  exact ⟨rfl, (HB2.out.trans ((al _).mono HB2.out.size)).trans ⟨rfl, rfl, rfl, Nat.le_refl _, fun _ _ => rfl⟩⟩
set_option maxRecDepth 100000 in
set_option maxHeartbeats 1000000 in
theorem rwhere_wrong (w : World) (A : Option Addr) (cap : Nat) (j : Value) (r : Rte) (h : MapIn w A cap r.map) (hn : r.name.size ≤ 9223372036854775807) (hv : tr (RteOk r) = false) :
    Calls Try.prog 23 #[r.val (.slice A r.map.sp.length cap) j] w fun e w' => e = .returned (tup4 0 0 0 0) ∧ Below w.heap.size w w' := by
  have hck := fun w h => rRteCheck_any w A cap j r h hn
  rw [hv] at hck
  have Hck := Lib.hid hck; have HI := Lib.hid h; clear hck h hv
  go_enter Try.func23, Try.ntmps23
  go_upto_region 1 with fail
  refine wp_region_lit ?_
  refine wpList_load39 rfl (.tmp 1) rfl w.heap.size rfl (heap_alloc_new w (r.blk (.slice A r.map.sp.length cap) j)) ?_
  simp only [Act.put, List.setIfInBounds_toArray, List.set_cons_zero, List.set_cons_succ]
  have hR := heap_alloc_new w (r.blk (.slice A r.map.sp.length cap) j)
  have hB := al (w := w) (r.blk (.slice A r.map.sp.length cap) j)
  have hI := HI.out.below hB
  have HB0 := Lib.hid hB; have HI0 := Lib.hid hI; have HR0 := Lib.hid hR; clear hB hI hR
  change wpList _ _ _ _ _ (w.alloc (r.blk (.slice A r.map.sp.length cap) j))
  generalize w.alloc (r.blk (.slice A r.map.sp.length cap) j) = w0 at *
  go_wp2_with (first
    | (go_at_call 27
       refine (Hck.out _ HI0.out).mono ?_
       rintro e w1 ⟨rfl, hb1⟩
       have hR := blk_below hb1 (lt_of_some HR0.out) HR0.out
       obtain ⟨⟨c0, c1, c13, c14, c15, c16, clt⟩, ⟨c2, c3, c4, c5, c6, c7, c8, c9, c10, c11, c12⟩, c17, c18, c19⟩ := rte_cells hR
       have HB := Lib.hid (HB0.out.trans (hb1.mono HB0.out.size)); have HR := Lib.hid hR
       clear hb1 hR))
  refine bodyPost_ret (results_tmp4 rfl _ _ _) rfl ?_
  exact ⟨rfl, HB.out⟩
set_option maxRecDepth 100000 in
set_option maxHeartbeats 1000000 in
theorem rwhere_done (w : World) (A : Option Addr) (cap : Nat) (j : Value) (r : Rte) (h : MapIn w A cap r.map) (hn : r.name.size ≤ 9223372036854775807) (hv : tr (RteOk r) = true) (hd : r.done = true) :
    Calls Try.prog 23 #[r.val (.slice A r.map.sp.length cap) j] w fun e w' => e = .returned (tup4 0 0 0 0) ∧ Below w.heap.size w w' := by
  have hck := fun w h => rRteCheck_any w A cap j r h hn
  rw [hv] at hck
  clear hv
  obtain ⟨nodes, name, map, fetch, node, left, done, err, time⟩ := r
  dsimp only at h hn hck hd ⊢
  subst hd
  have Hck := Lib.hid hck; have HI := Lib.hid h; clear hck h
  go_enter Try.func23, Try.ntmps23
  go_upto_region 1 with fail
  refine wp_region_lit ?_
  refine wpList_load39 rfl (.tmp 1) rfl w.heap.size rfl (heap_alloc_new w ((Rte.mk nodes name map fetch node left true err time).blk (.slice A map.sp.length cap) j)) ?_
  simp only [Act.put, List.setIfInBounds_toArray, List.set_cons_zero, List.set_cons_succ]
  have hR := heap_alloc_new w ((Rte.mk nodes name map fetch node left true err time).blk (.slice A map.sp.length cap) j)
  have hB := al (w := w) ((Rte.mk nodes name map fetch node left true err time).blk (.slice A map.sp.length cap) j)
  have hI := HI.out.below hB
  have HB0 := Lib.hid hB; have HI0 := Lib.hid hI; have HR0 := Lib.hid hR; clear hB hI hR
  change wpList _ _ _ _ _ (w.alloc ((Rte.mk nodes name map fetch node left true err time).blk (.slice A map.sp.length cap) j))
  generalize w.alloc ((Rte.mk nodes name map fetch node left true err time).blk (.slice A map.sp.length cap) j) = w0 at *
  go_wp2_with (first
    | (go_at_call 27
       refine (Hck.out _ HI0.out).mono ?_
       rintro e w1 ⟨rfl, hb1⟩
       have hR := blk_below hb1 (lt_of_some HR0.out) HR0.out
       obtain ⟨⟨c0, c1, c13, c14, c15, c16, clt⟩, ⟨c2, c3, c4, c5, c6, c7, c8, c9, c10, c11, c12⟩, c17, c18, c19⟩ := rte_cells hR
       have HB := Lib.hid (HB0.out.trans (hb1.mono HB0.out.size)); have HR := Lib.hid hR
       clear hb1 hR))
  refine bodyPost_ret (results_tmp4 rfl _ _ _) rfl ?_
  exact ⟨rfl, HB.out⟩
set_option maxRecDepth 100000 in
set_option maxHeartbeats 1000000 in
theorem rwhere_fetch (w : World) (A : Option Addr) (cap : Nat) (j : Value) (r : Rte) (h : MapIn w A cap r.map) (hn : r.name.size ≤ 9223372036854775807) (hv : tr (RteOk r) = true) (hd : r.done = false) (hf : r.fetch = true) :
    Calls Try.prog 23 #[r.val (.slice A r.map.sp.length cap) j] w fun e w' => e = .returned (tup4 0 r.node 0 0) ∧ Below w.heap.size w w' := by
  have hck := fun w h => rRteCheck_any w A cap j r h hn
  rw [hv] at hck
  clear hv
  obtain ⟨nodes, name, map, fetch, node, left, done, err, time⟩ := r
  dsimp only at h hn hck hd hf ⊢
  subst hd; subst hf
  have Hck := Lib.hid hck; have HI := Lib.hid h; clear hck h
  go_enter Try.func23, Try.ntmps23
  go_upto_region 1 with fail
  refine wp_region_lit ?_
  refine wpList_load39 rfl (.tmp 1) rfl w.heap.size rfl (heap_alloc_new w ((Rte.mk nodes name map true node left false err time).blk (.slice A map.sp.length cap) j)) ?_
  simp only [Act.put, List.setIfInBounds_toArray, List.set_cons_zero, List.set_cons_succ]
  have hR := heap_alloc_new w ((Rte.mk nodes name map true node left false err time).blk (.slice A map.sp.length cap) j)
  have hB := al (w := w) ((Rte.mk nodes name map true node left false err time).blk (.slice A map.sp.length cap) j)
  have hI := HI.out.below hB
  have HB0 := Lib.hid hB; have HI0 := Lib.hid hI; have HR0 := Lib.hid hR; clear hB hI hR
  change wpList _ _ _ _ _ (w.alloc ((Rte.mk nodes name map true node left false err time).blk (.slice A map.sp.length cap) j))
  generalize w.alloc ((Rte.mk nodes name map true node left false err time).blk (.slice A map.sp.length cap) j) = w0 at *
  go_wp2_with (first
    | (go_at_call 27
       refine (Hck.out _ HI0.out).mono ?_
       rintro e w1 ⟨rfl, hb1⟩
       have hR := blk_below hb1 (lt_of_some HR0.out) HR0.out
       obtain ⟨⟨c0, c1, c13, c14, c15, c16, clt⟩, ⟨c2, c3, c4, c5, c6, c7, c8, c9, c10, c11, c12⟩, c17, c18, c19⟩ := rte_cells hR
       have HB := Lib.hid (HB0.out.trans (hb1.mono HB0.out.size)); have HR := Lib.hid hR
       clear hb1 hR))
  go_quiet (fail)
  go_wp2
  refine bodyPost_ret (results_tmp4 rfl _ _ _) rfl ?_
  exact ⟨rfl, HB.out.trans ⟨rfl, rfl, rfl, Nat.le_refl _, fun _ _ => rfl⟩⟩
set_option maxRecDepth 100000 in
set_option maxHeartbeats 1000000 in
theorem rwhere_some (w : World) (A : Option Addr) (cap : Nat) (j : Value) (r : Rte) (h : MapIn w A cap r.map) (hn : r.name.size ≤ 9223372036854775807) (i : Nat) (hi : i < r.map.sp.length) (hx : ∀ m (h : m < r.map.sp.length), m ≤ i → sLt r.name r.map.sp[m].fr = false) (hy : ∀ h : i + 1 < r.map.sp.length, sLt r.name r.map.sp[i+1].fr = true) (hv : tr (RteOk r) = true) (hd : r.done = false) (hf : r.fetch = false) (hm : tr (MapOk r.map) = true) (hnm : named r.name = true) :
    Calls Try.prog 23 #[r.val (.slice A r.map.sp.length cap) j] w fun e w' => e = .returned (tup4 r.map.sp[i].gr r.node r.map.sp[i].sh r.map.sp[i].ep) ∧ Below w.heap.size w w' := by
  have hck := fun w h => rRteCheck_any w A cap j r h hn
  rw [hv] at hck
  clear hv
  obtain ⟨nodes, name, map, fetch, node, left, done, err, time⟩ := r
  dsimp only at h hn hck hd hf hm hnm hi hx hy ⊢
  subst hd; subst hf
  have Hck := Lib.hid hck; have HI := Lib.hid h; have Hmm := Lib.hid hm; have Hnm := Lib.hid hnm; clear hck h hm hnm
  have Hx := Lib.hid hx; have Hy := Lib.hid hy; clear hx hy
  go_enter Try.func23, Try.ntmps23
  go_upto_region 1 with fail
  refine wp_region_lit ?_
  refine wpList_load39 rfl (.tmp 1) rfl w.heap.size rfl (heap_alloc_new w ((Rte.mk nodes name map false node left false err time).blk (.slice A map.sp.length cap) j)) ?_
  simp only [Act.put, List.setIfInBounds_toArray, List.set_cons_zero, List.set_cons_succ]
  have hR := heap_alloc_new w ((Rte.mk nodes name map false node left false err time).blk (.slice A map.sp.length cap) j)
  have hB := al (w := w) ((Rte.mk nodes name map false node left false err time).blk (.slice A map.sp.length cap) j)
  have hI := HI.out.below hB
  have HB0 := Lib.hid hB; have HI0 := Lib.hid hI; have HR0 := Lib.hid hR; clear hB hI hR
  change wpList _ _ _ _ _ (w.alloc ((Rte.mk nodes name map false node left false err time).blk (.slice A map.sp.length cap) j))
  generalize w.alloc ((Rte.mk nodes name map false node left false err time).blk (.slice A map.sp.length cap) j) = w0 at *
  go_wp2_with (first
    | (go_at_call 27
       refine (Hck.out _ HI0.out).mono ?_
       rintro e w1 ⟨rfl, hb1⟩
       have hR := blk_below hb1 (lt_of_some HR0.out) HR0.out
       obtain ⟨⟨c0, c1, c13, c14, c15, c16, clt⟩, ⟨c2, c3, c4, c5, c6, c7, c8, c9, c10, c11, c12⟩, c17, c18, c19⟩ := rte_cells hR
       have HB := Lib.hid (HB0.out.trans (hb1.mono HB0.out.size)); have HR := Lib.hid hR; have Hb1 := Lib.hid hb1
       clear hb1 hR)
    | (go_at_call 36
       refine (rFind_some _ A cap map name i (rChecks_all A cap map) (HI0.out.below (Hb1.out)) Hmm.out hn Hnm.out hi Hx.out Hy.out).mono ?_
       rintro e w2 ⟨rfl, hb2⟩
       have hR := blk_below hb2 (lt_of_some HR.out) HR.out
       obtain ⟨⟨c0, c1, c13, c14, c15, c16, clt⟩, ⟨c2, c3, c4, c5, c6, c7, c8, c9, c10, c11, c12⟩, c17, c18, c19⟩ := rte_cells hR
       have HB2 := Lib.hid (HB.out.trans (hb2.mono HB.out.size))
       clear hb2 hR))
  go_quiet (fail)
  go_wp2
  refine bodyPost_ret (results_tmp4 rfl _ _ _) rfl ?_
  exact ⟨rfl, (HB2.out.trans ((al _).mono HB2.out.size)).trans ⟨rfl, rfl, rfl, Nat.le_refl _, fun _ _ => rfl⟩⟩
end Go.Proofs.Ytimondpollbdfaa
