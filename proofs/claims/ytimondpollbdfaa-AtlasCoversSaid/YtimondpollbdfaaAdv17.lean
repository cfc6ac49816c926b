/- What is proved: what a phase that is done makes of a map: the program's Advance, case by case: what is refused, what a move does. -/
import Derived.Test.YtimondpollbdfaaOwnSet
import Derived.Test.YtimondpollbdfaaPlan42
set_option linter.unusedVariables false
set_option linter.unusedSimpArgs false
namespace Go.Proofs.Ytimondpollbdfaa
open Go.RowKit
attribute [local go_sem] Span.val Atl.val Plan.val

theorem al2_at (w : World) (o1 o2 : Obj) : ((w.alloc o1).alloc o2).heap[w.heap.size]? = some o1 ∧ ((w.alloc o1).alloc o2).heap[w.heap.size + 1]? = some o2 ∧ Below w.heap.size w ((w.alloc o1).alloc o2) := ⟨(Below.heap_alloc _ _ _ (by simp)).trans (heap_alloc_new w _), heap_second _ _ _, al2 _ _⟩
/-- The plan inside a map is read whole. -/
theorem mplan_range {W : World} {g : Nat} {m : Atl} {v : Value} (h : W.heap[g]? = some (m.blk v)) : W.rangeAt g 3 [.int .i64 m.plan.kind, .int .i64 m.plan.phase, .int .i64 m.plan.shard, .int .i64 m.plan.other, .int .i64 m.plan.group, .int .i64 m.plan.past, .int .i64 m.plan.epoch, .string m.plan.key] := fun i u hi => by
    have := map_range h (3 + i) u (by rw [show (3 + i) = i + 3 by omega]; simpa using hi)
    simpa using this
theorem wpList_loadPlan {ops : Array Oper} {rest : List Oper} {op : Oper} {a : Act} {w : World} {Q : Exit → Act → World → Prop} (hgd : op.guard = none) (x : Operand) (ho : op.op = .load 24 x) (g : Nat) (hx : a.eval x = .pointer (some ⟨g, 3, none⟩))
    {m : Atl} {v : Value} (h : w.heap[g]? = some (m.blk v)) (hK : wpList Try.prog ops Q rest (a.put op.dst m.plan.val) w) : wpList Try.prog ops Q (op :: rest) a w :=
  wpList_load_mid hgd 24 x ho g 3 hx _ _ (mplan_range h) Try.underlying24 rfl info24 hK
theorem wpList_store24_mid {ops : Array Oper} {rest : List Oper} {op : Oper} {a : Act} {w : World} {Q : Exit → Act → World → Prop} (hgd : op.guard = none) (x y : Operand) (ho : op.op = .store 24 x y) (g : Nat) (hx : a.eval x = .pointer (some ⟨g, 3, none⟩))
    {m : Atl} {v : Value} {q : Plan} (hy : a.eval y = q.val) (h : w.heap[g]? = some (m.blk v))
    (hK : ∀ w', w'.heap[g]? = some ({ m with plan := q }.blk v) → Only (· = g) w w' → wpList Try.prog ops Q rest (a.put op.dst undef) w') : wpList Try.prog ops Q (op :: rest) a w := by
  refine wpList_store_mid hgd 24 x y ho g 3 (#[.int .i64 q.kind, .int .i64 q.phase, .int .i64 q.shard, .int .i64 q.other, .int .i64 q.group, .int .i64 q.past, .int .i64 q.epoch, .string q.key]) hx hy (fun j hj => ?_) info24 (plan_one q) ?_
  · have hj : j < 8 := hj
    refine ⟨?_, fz_blk h _⟩
    obtain ⟨u, hu⟩ : ∃ u, [Value.int .i64 m.plan.kind, .int .i64 m.plan.phase, .int .i64 m.plan.shard, .int .i64 m.plan.other, .int .i64 m.plan.group, .int .i64 m.plan.past, .int .i64 m.plan.epoch, .string m.plan.key][j]? = some u := ⟨_, List.getElem?_eq_getElem (by simpa using hj)⟩
    rw [mplan_range h j u hu]
    rfl
  · exact hK _ (map_putPlan q h) (putPlan_only w g q)
theorem own_addr {w : World} {base : Nat} {A : Option Addr} {cap : Nat} {l : List Span} (h : w.ownsRow base 50 5 (.slice A l.length cap) l.length (l.map Span.cells).flatten) (h0 : 0 < l.length) : ∃ g, A = some ⟨g, 0, none⟩ ∧ base ≤ g ∧ g < w.heap.size := by
  rcases h.2 with ⟨h1, h2⟩ | ⟨g, cap', cur, h1, hb, hg, _⟩
  · omega
  · injection h1 with h1
    exact ⟨g, h1, hb, lt_of_some hg⟩
theorem own_span {w : World} {base g cap : Nat} {l : List Span} (h : w.ownsRow base 50 5 (.slice (some ⟨g, 0, none⟩) l.length cap) l.length (l.map Span.cells).flatten) (k : Nat) (hk : k < l.length) :
    w.cell? ⟨g, k * 5, none⟩ = some (.string l[k].fr) ∧ w.cell? ⟨g, k * 5 + 1, none⟩ = some (.string l[k].to) ∧ w.cell? ⟨g, k * 5 + 2, none⟩ = some (.int .i64 l[k].sh) ∧ w.cell? ⟨g, k * 5 + 3, none⟩ = some (.int .i64 l[k].ep) ∧ w.cell? ⟨g, k * 5 + 4, none⟩ = some (.int .i64 l[k].gr) := by
  obtain ⟨b, off, he, _, h0, h1, h2, h3, h4⟩ := span_cells (rowAt_of_own h rfl (span_len _) (by simp)) k hk
  injection he with he
  injection he with e1 e2
  subst e1; subst e2
  simp only [Nat.zero_add] at h0 h1 h2 h3 h4
  exact ⟨h0, h1, h2, h3, h4⟩
set_option maxRecDepth 100000 in
set_option maxHeartbeats 4000000 in
theorem advance_wrong (w : World) (A : Option Addr) (cap : Nat) (a : Atl) (ph : Int) (h : MapIn w A cap a) (hm : tr (MapOk a) = false)  :
    Calls Try.prog 17 #[a.val (.slice A a.sp.length cap), .int .i64 ph] w fun e w' => ∃ A' cap', e = .returned (.tuple #[zeroA.val (.slice A' zeroA.sp.length cap'), .int .i64 4]) ∧ MapIn w' A' cap' zeroA ∧ Below w.heap.size w w' := by
  have hck := fun w h => check_any w A cap a h
  rw [hm] at hck
  have Hck := Lib.hid hck; have HI := Lib.hid h
  clear hck h hm
  go_enter Try.func17, Try.ntmps17
  go_upto_region 1 with fail
  have hat := al2_at w (a.blk (.slice A a.sp.length cap)) (zeroA.blk nilV)
  change Code.wp _ _ _ _ ((w.alloc (a.blk (.slice A a.sp.length cap))).alloc (zeroA.blk nilV))
  generalize (w.alloc (a.blk (.slice A a.sp.length cap))).alloc (zeroA.blk nilV) = w0 at *
  have HA0 := Lib.hid hat.1; have HZ0 := Lib.hid hat.2.1; have HB0 := Lib.hid hat.2.2
  clear hat
  refine wp_region_lit ?_
  refine wpList_load26 rfl (.tmp 2) rfl (w.heap.size) rfl HA0.out ?_
  simp only [Act.put, List.setIfInBounds_toArray, List.set_cons_zero, List.set_cons_succ]
  go_upto_region 2 with (go_at_call 29
                         refine (Hck.out _ (HI.out.below HB0.out)).mono ?_
                         rintro e w1 ⟨rfl, hb1⟩
                         have HA1 := Lib.hid (blk_below hb1 (lt_of_some HA0.out) HA0.out)
                         have HZ1 := Lib.hid (blk_below hb1 (lt_of_some HZ0.out) HZ0.out)
                         have HB1 := Lib.hid (HB0.out.trans (hb1.mono HB0.out.size))
                         clear hb1)
  refine wp_region_lit ?_
  refine wpList_step (fun K hK => ?_)
  go_simp
  refine hK _ _ ?_
  clear hK K
  refine wpList_store26 rfl (.tmp 4) (.tmp 14) rfl (w.heap.size + 1) rfl (m := zeroA) (v := nilV) (m0 := zeroA) (v0 := nilV) rfl rfl HZ1.out ?_
  intro w99 h9 ho9
  simp only [Act.put, List.setIfInBounds_toArray, List.set_cons_zero, List.set_cons_succ]
  go_wp2
  refine bodyPost_ret (results26 rfl _ _ (w.heap.size + 1) rfl h9) rfl ?_
  exact ⟨none, 0, rfl, ⟨rowAt_nil _ _ _ _, Nat.zero_le _, by decide, fun s hs => by simp [zeroA] at hs, by decide⟩, ho9.below HB1.out (fun k hk => by omega) HB1.out.size⟩
set_option maxRecDepth 100000 in
set_option maxHeartbeats 4000000 in
theorem advance_none (w : World) (A : Option Addr) (cap : Nat) (a : Atl) (ph : Int) (h : MapIn w A cap a) (hm : tr (MapOk a) = true) (b0 : (a.plan.kind == 0) = true) :
    Calls Try.prog 17 #[a.val (.slice A a.sp.length cap), .int .i64 ph] w fun e w' => ∃ A' cap', e = .returned (.tuple #[a.val (.slice A' a.sp.length cap'), .int .i64 4]) ∧ MapIn w' A' cap' a ∧ Below w.heap.size w w' := by
  have hck := fun w h => check_any w A cap a h
  rw [hm] at hck
  have hl3 : a.sp.length * 56 ≤ 140737488355328 := by have := (of_tr hm).2.2.2.1.1; omega
  have Hck := Lib.hid hck; have HI := Lib.hid h
  clear hck h hm
  have Hb0 := Lib.hid b0
  clear b0
  go_enter Try.func17, Try.ntmps17
  go_upto_region 1 with fail
  have hat := al2_at w (a.blk (.slice A a.sp.length cap)) (zeroA.blk nilV)
  change Code.wp _ _ _ _ ((w.alloc (a.blk (.slice A a.sp.length cap))).alloc (zeroA.blk nilV))
  generalize (w.alloc (a.blk (.slice A a.sp.length cap))).alloc (zeroA.blk nilV) = w0 at *
  have HA0 := Lib.hid hat.1; have HZ0 := Lib.hid hat.2.1; have HB0 := Lib.hid hat.2.2
  clear hat
  refine wp_region_lit ?_
  refine wpList_load26 rfl (.tmp 2) rfl (w.heap.size) rfl HA0.out ?_
  simp only [Act.put, List.setIfInBounds_toArray, List.set_cons_zero, List.set_cons_succ]
  go_upto_region 3 with (go_at_call 29
                         refine (Hck.out _ (HI.out.below HB0.out)).mono ?_
                         rintro e w1 ⟨rfl, hb1⟩
                         have HA1 := Lib.hid (blk_below hb1 (lt_of_some HA0.out) HA0.out)
                         have HZ1 := Lib.hid (blk_below hb1 (lt_of_some HZ0.out) HZ0.out)
                         have HB1 := Lib.hid (HB0.out.trans (hb1.mono HB0.out.size))
                         clear hb1)
  refine wp_region_lit ?_
  refine wpList_load26 rfl (.tmp 2) rfl (w.heap.size) rfl HA1.out ?_
  simp only [Act.put, List.setIfInBounds_toArray, List.set_cons_zero, List.set_cons_succ]
  refine wpList_step (fun K hK => ?_)
  go_simp
  go_at_call 40
  refine (copied_any _ A cap a (HI.out.below HB1.out) hl3).mono ?_
  rintro e w2 ⟨A', cap', rfl, hO2, hI2, hb2⟩
  refine hK _ _ ?_
  clear hK K
  have hA2 := blk_below hb2 (lt_of_some HA1.out) HA1.out
  have HZ2 := Lib.hid (blk_below hb2 (lt_of_some HZ1.out) HZ1.out)
  have HB2 := Lib.hid (HB1.out.trans (hb2.mono HB1.out.size))
  refine wpList_store26 rfl (.tmp 2) (.tmp 16) rfl w.heap.size rfl (m := a) (v := .slice A' a.sp.length cap') (m0 := a) (v0 := .slice A a.sp.length cap) rfl rfl hA2 ?_
  intro w3 hA3 ho3
  simp only [Act.put, List.setIfInBounds_toArray, List.set_cons_zero, List.set_cons_succ]
  have hs1 : w.heap.size + 1 < w1.heap.size := lt_of_some HZ1.out
  have HO3 := Lib.hid (own_only hO2 ho3 (fun k hk he => by have := (hO2.lt k hk).1; have he : k = w.heap.size := he; omega))
  have HZ3 := Lib.hid ((ho3.block _ (lt_of_some HZ2.out) (by show ¬ _ = _; omega)).trans HZ2.out)
  have HB3 := Lib.hid (ho3.below HB2.out (fun k hk => by have hk : k = w.heap.size := hk; omega) HB2.out.size)
  have HA3 := Lib.hid hA3
  clear hA2 hO2 hb2 hA3 ho3 hI2
  go_upto_region 4 with fail
  refine wp_region_lit ?_
  refine wpList_step (fun K hK => ?_)
  go_simp
  refine hK _ _ ?_
  clear hK K
  refine wpList_loadPlan rfl (.tmp 17) rfl w.heap.size rfl HA3.out ?_
  simp only [Act.put, List.setIfInBounds_toArray, List.set_cons_zero, List.set_cons_succ]
  refine wpList_step (fun K hK => ?_)
  go_simp
  refine hK _ _ ?_
  clear hK K
  refine wpList_store24 rfl (.tmp 6) (.tmp 18) rfl w3.heap.size rfl (p := a.plan) (p0 := zeroP) rfl (heap_alloc_new w3 _) ?_
  intro w4 hQ4 ho4
  simp only [Act.put, List.setIfInBounds_toArray, List.set_cons_zero, List.set_cons_succ]
  have hb4 : Below w3.heap.size w3 w4 := ho4.below (al _) (fun k hk => by omega) (by simp)
  have hA4 := blk_below hb4 (lt_of_some HA3.out) HA3.out
  have HZ4 := Lib.hid (blk_below hb4 (lt_of_some HZ3.out) HZ3.out)
  have HO4 := Lib.hid (own_only HO3.out (Only.of_below (F := fun _ => False) hb4) (fun _ _ h => h))
  have HB4 := Lib.hid (HB3.out.trans (hb4.mono HB3.out.size))
  obtain ⟨m0, m1, m2, m3, m4, m5, m6, m7, m8, m9, m10, mlt⟩ := map_cells hA4
  obtain ⟨q0, q1, q2, q3, q4, q5, q6, q7, qlt⟩ := plan_blk hQ4
  have HA4 := Lib.hid hA4; have HQ4 := Lib.hid hQ4
  have Hl3 := Lib.hid (lt_of_some HZ3.out)
  clear hb4 hA4 hQ4 ho4
  have b0 := Hb0.out
  go_upto_region 6 with fail
  refine wp_region_lit ?_
  refine wpList_load26 rfl (.tmp 2) rfl (w.heap.size) rfl HA4.out ?_
  simp only [Act.put, List.setIfInBounds_toArray, List.set_cons_zero, List.set_cons_succ]
  refine wpList_store26 rfl (.tmp 4) (.tmp 28) rfl (w.heap.size + 1) rfl (m := a) (v := (.slice A' a.sp.length cap')) (m0 := zeroA) (v0 := nilV) rfl rfl HZ4.out ?_
  intro w99 h9 ho9
  simp only [Act.put, List.setIfInBounds_toArray, List.set_cons_zero, List.set_cons_succ]
  go_wp2
  refine bodyPost_ret (results26 rfl _ _ (w.heap.size + 1) rfl h9) rfl ?_
  have hB9 := ho9.below HB4.out (fun k hk => by omega) HB4.out.size
  exact ⟨A', cap', rfl, MapIn.ofOwn HI.out (own_only HO4.out ho9 (fun k hk he => by have := (HO4.out.lt k hk).1; omega)), hB9⟩
set_option maxRecDepth 100000 in
set_option maxHeartbeats 4000000 in
theorem advance_phase (w : World) (A : Option Addr) (cap : Nat) (a : Atl) (ph : Int) (h : MapIn w A cap a) (hm : tr (MapOk a) = true) (b0' : (a.plan.kind == 0) = false) (b1' : (a.plan.phase == ph) = false) :
    Calls Try.prog 17 #[a.val (.slice A a.sp.length cap), .int .i64 ph] w fun e w' => ∃ A' cap', e = .returned (.tuple #[a.val (.slice A' a.sp.length cap'), .int .i64 4]) ∧ MapIn w' A' cap' a ∧ Below w.heap.size w w' := by
  have hck := fun w h => check_any w A cap a h
  rw [hm] at hck
  have hl3 : a.sp.length * 56 ≤ 140737488355328 := by have := (of_tr hm).2.2.2.1.1; omega
  have Hck := Lib.hid hck; have HI := Lib.hid h
  clear hck h hm
  have Hb0' := Lib.hid b0'
  have Hb1' := Lib.hid b1'
  clear b0' b1'
  go_enter Try.func17, Try.ntmps17
  go_upto_region 1 with fail
  have hat := al2_at w (a.blk (.slice A a.sp.length cap)) (zeroA.blk nilV)
  change Code.wp _ _ _ _ ((w.alloc (a.blk (.slice A a.sp.length cap))).alloc (zeroA.blk nilV))
  generalize (w.alloc (a.blk (.slice A a.sp.length cap))).alloc (zeroA.blk nilV) = w0 at *
  have HA0 := Lib.hid hat.1; have HZ0 := Lib.hid hat.2.1; have HB0 := Lib.hid hat.2.2
  clear hat
  refine wp_region_lit ?_
  refine wpList_load26 rfl (.tmp 2) rfl (w.heap.size) rfl HA0.out ?_
  simp only [Act.put, List.setIfInBounds_toArray, List.set_cons_zero, List.set_cons_succ]
  go_upto_region 3 with (go_at_call 29
                         refine (Hck.out _ (HI.out.below HB0.out)).mono ?_
                         rintro e w1 ⟨rfl, hb1⟩
                         have HA1 := Lib.hid (blk_below hb1 (lt_of_some HA0.out) HA0.out)
                         have HZ1 := Lib.hid (blk_below hb1 (lt_of_some HZ0.out) HZ0.out)
                         have HB1 := Lib.hid (HB0.out.trans (hb1.mono HB0.out.size))
                         clear hb1)
  refine wp_region_lit ?_
  refine wpList_load26 rfl (.tmp 2) rfl (w.heap.size) rfl HA1.out ?_
  simp only [Act.put, List.setIfInBounds_toArray, List.set_cons_zero, List.set_cons_succ]
  refine wpList_step (fun K hK => ?_)
  go_simp
  go_at_call 40
  refine (copied_any _ A cap a (HI.out.below HB1.out) hl3).mono ?_
  rintro e w2 ⟨A', cap', rfl, hO2, hI2, hb2⟩
  refine hK _ _ ?_
  clear hK K
  have hA2 := blk_below hb2 (lt_of_some HA1.out) HA1.out
  have HZ2 := Lib.hid (blk_below hb2 (lt_of_some HZ1.out) HZ1.out)
  have HB2 := Lib.hid (HB1.out.trans (hb2.mono HB1.out.size))
  refine wpList_store26 rfl (.tmp 2) (.tmp 16) rfl w.heap.size rfl (m := a) (v := .slice A' a.sp.length cap') (m0 := a) (v0 := .slice A a.sp.length cap) rfl rfl hA2 ?_
  intro w3 hA3 ho3
  simp only [Act.put, List.setIfInBounds_toArray, List.set_cons_zero, List.set_cons_succ]
  have hs1 : w.heap.size + 1 < w1.heap.size := lt_of_some HZ1.out
  have HO3 := Lib.hid (own_only hO2 ho3 (fun k hk he => by have := (hO2.lt k hk).1; have he : k = w.heap.size := he; omega))
  have HZ3 := Lib.hid ((ho3.block _ (lt_of_some HZ2.out) (by show ¬ _ = _; omega)).trans HZ2.out)
  have HB3 := Lib.hid (ho3.below HB2.out (fun k hk => by have hk : k = w.heap.size := hk; omega) HB2.out.size)
  have HA3 := Lib.hid hA3
  clear hA2 hO2 hb2 hA3 ho3 hI2
  go_upto_region 4 with fail
  refine wp_region_lit ?_
  refine wpList_step (fun K hK => ?_)
  go_simp
  refine hK _ _ ?_
  clear hK K
  refine wpList_loadPlan rfl (.tmp 17) rfl w.heap.size rfl HA3.out ?_
  simp only [Act.put, List.setIfInBounds_toArray, List.set_cons_zero, List.set_cons_succ]
  refine wpList_step (fun K hK => ?_)
  go_simp
  refine hK _ _ ?_
  clear hK K
  refine wpList_store24 rfl (.tmp 6) (.tmp 18) rfl w3.heap.size rfl (p := a.plan) (p0 := zeroP) rfl (heap_alloc_new w3 _) ?_
  intro w4 hQ4 ho4
  simp only [Act.put, List.setIfInBounds_toArray, List.set_cons_zero, List.set_cons_succ]
  have hb4 : Below w3.heap.size w3 w4 := ho4.below (al _) (fun k hk => by omega) (by simp)
  have hA4 := blk_below hb4 (lt_of_some HA3.out) HA3.out
  have HZ4 := Lib.hid (blk_below hb4 (lt_of_some HZ3.out) HZ3.out)
  have HO4 := Lib.hid (own_only HO3.out (Only.of_below (F := fun _ => False) hb4) (fun _ _ h => h))
  have HB4 := Lib.hid (HB3.out.trans (hb4.mono HB3.out.size))
  obtain ⟨m0, m1, m2, m3, m4, m5, m6, m7, m8, m9, m10, mlt⟩ := map_cells hA4
  obtain ⟨q0, q1, q2, q3, q4, q5, q6, q7, qlt⟩ := plan_blk hQ4
  have HA4 := Lib.hid hA4; have HQ4 := Lib.hid hQ4
  have Hl3 := Lib.hid (lt_of_some HZ3.out)
  clear hb4 hA4 hQ4 ho4
  have b0' := Hb0'.out
  have b1' := Hb1'.out
  go_upto_region 6 with fail
  refine wp_region_lit ?_
  refine wpList_load26 rfl (.tmp 2) rfl (w.heap.size) rfl HA4.out ?_
  simp only [Act.put, List.setIfInBounds_toArray, List.set_cons_zero, List.set_cons_succ]
  refine wpList_store26 rfl (.tmp 4) (.tmp 28) rfl (w.heap.size + 1) rfl (m := a) (v := (.slice A' a.sp.length cap')) (m0 := zeroA) (v0 := nilV) rfl rfl HZ4.out ?_
  intro w99 h9 ho9
  simp only [Act.put, List.setIfInBounds_toArray, List.set_cons_zero, List.set_cons_succ]
  go_wp2
  refine bodyPost_ret (results26 rfl _ _ (w.heap.size + 1) rfl h9) rfl ?_
  have hB9 := ho9.below HB4.out (fun k hk => by omega) HB4.out.size
  exact ⟨A', cap', rfl, MapIn.ofOwn HI.out (own_only HO4.out ho9 (fun k hk he => by have := (HO4.out.lt k hk).1; omega)), hB9⟩
set_option maxRecDepth 100000 in
set_option maxHeartbeats 4000000 in
theorem advance_lost (w : World) (A : Option Addr) (cap : Nat) (a : Atl) (h : MapIn w A cap a) (hm : tr (MapOk a) = true) (k : Nat) (s : Span) (hk : k < a.sp.length) (hs : a.sp[k] = s) (hp : place a.sp a.plan.shard = (k : Int)) (he1 : 1 ≤ s.ep) (he2 : s.ep ≤ 1099511627776) (b0' : (a.plan.kind == 0) = false) (b1' : (a.plan.phase == 9) = true) :
    Calls Try.prog 17 #[a.val (.slice A a.sp.length cap), .int .i64 9] w fun e w' => ∃ A' cap', e = .returned (.tuple #[{ a with plan := zeroP }.val (.slice A' { a with plan := zeroP }.sp.length cap'), .int .i64 0]) ∧ MapIn w' A' cap' { a with plan := zeroP } ∧ Below w.heap.size w w' := by
  have hck := fun w h => check_any w A cap a h
  rw [hm] at hck
  have hl3 : a.sp.length * 56 ≤ 140737488355328 := by have := (of_tr hm).2.2.2.1.1; omega
  have Hck := Lib.hid hck; have HI := Lib.hid h
  clear hck h hm
  have Hb0' := Lib.hid b0'
  have Hb1' := Lib.hid b1'
  clear b0' b1'
  have Hp := Lib.hid hp; clear hp
  have hk1 : (0 : Int) ≤ (k : Int) := by omega
  have hk2 : (k : Int) < (a.sp.length : Int) := by omega
  have hw3 : IntKind.i64.wrap (s.ep + 1) = s.ep + 1 := IntWalk.i64_in _ (by omega)
  go_enter Try.func17, Try.ntmps17
  go_upto_region 1 with fail
  have hat := al2_at w (a.blk (.slice A a.sp.length cap)) (zeroA.blk nilV)
  change Code.wp _ _ _ _ ((w.alloc (a.blk (.slice A a.sp.length cap))).alloc (zeroA.blk nilV))
  generalize (w.alloc (a.blk (.slice A a.sp.length cap))).alloc (zeroA.blk nilV) = w0 at *
  have HA0 := Lib.hid hat.1; have HZ0 := Lib.hid hat.2.1; have HB0 := Lib.hid hat.2.2
  clear hat
  refine wp_region_lit ?_
  refine wpList_load26 rfl (.tmp 2) rfl (w.heap.size) rfl HA0.out ?_
  simp only [Act.put, List.setIfInBounds_toArray, List.set_cons_zero, List.set_cons_succ]
  go_upto_region 3 with (go_at_call 29
                         refine (Hck.out _ (HI.out.below HB0.out)).mono ?_
                         rintro e w1 ⟨rfl, hb1⟩
                         have HA1 := Lib.hid (blk_below hb1 (lt_of_some HA0.out) HA0.out)
                         have HZ1 := Lib.hid (blk_below hb1 (lt_of_some HZ0.out) HZ0.out)
                         have HB1 := Lib.hid (HB0.out.trans (hb1.mono HB0.out.size))
                         clear hb1)
  refine wp_region_lit ?_
  refine wpList_load26 rfl (.tmp 2) rfl (w.heap.size) rfl HA1.out ?_
  simp only [Act.put, List.setIfInBounds_toArray, List.set_cons_zero, List.set_cons_succ]
  refine wpList_step (fun K hK => ?_)
  go_simp
  go_at_call 40
  refine (copied_any _ A cap a (HI.out.below HB1.out) hl3).mono ?_
  rintro e w2 ⟨A', cap', rfl, hO2, hI2, hb2⟩
  refine hK _ _ ?_
  clear hK K
  have hA2 := blk_below hb2 (lt_of_some HA1.out) HA1.out
  have HZ2 := Lib.hid (blk_below hb2 (lt_of_some HZ1.out) HZ1.out)
  have HB2 := Lib.hid (HB1.out.trans (hb2.mono HB1.out.size))
  refine wpList_store26 rfl (.tmp 2) (.tmp 16) rfl w.heap.size rfl (m := a) (v := .slice A' a.sp.length cap') (m0 := a) (v0 := .slice A a.sp.length cap) rfl rfl hA2 ?_
  intro w3 hA3 ho3
  simp only [Act.put, List.setIfInBounds_toArray, List.set_cons_zero, List.set_cons_succ]
  have hs1 : w.heap.size + 1 < w1.heap.size := lt_of_some HZ1.out
  have HO3 := Lib.hid (own_only hO2 ho3 (fun k hk he => by have := (hO2.lt k hk).1; have he : k = w.heap.size := he; omega))
  have HZ3 := Lib.hid ((ho3.block _ (lt_of_some HZ2.out) (by show ¬ _ = _; omega)).trans HZ2.out)
  have HB3 := Lib.hid (ho3.below HB2.out (fun k hk => by have hk : k = w.heap.size := hk; omega) HB2.out.size)
  have HA3 := Lib.hid hA3
  clear hA2 hO2 hb2 hA3 ho3 hI2
  go_upto_region 4 with fail
  refine wp_region_lit ?_
  refine wpList_step (fun K hK => ?_)
  go_simp
  refine hK _ _ ?_
  clear hK K
  refine wpList_loadPlan rfl (.tmp 17) rfl w.heap.size rfl HA3.out ?_
  simp only [Act.put, List.setIfInBounds_toArray, List.set_cons_zero, List.set_cons_succ]
  refine wpList_step (fun K hK => ?_)
  go_simp
  refine hK _ _ ?_
  clear hK K
  refine wpList_store24 rfl (.tmp 6) (.tmp 18) rfl w3.heap.size rfl (p := a.plan) (p0 := zeroP) rfl (heap_alloc_new w3 _) ?_
  intro w4 hQ4 ho4
  simp only [Act.put, List.setIfInBounds_toArray, List.set_cons_zero, List.set_cons_succ]
  have hb4 : Below w3.heap.size w3 w4 := ho4.below (al _) (fun k hk => by omega) (by simp)
  have hA4 := blk_below hb4 (lt_of_some HA3.out) HA3.out
  have HZ4 := Lib.hid (blk_below hb4 (lt_of_some HZ3.out) HZ3.out)
  have HO4 := Lib.hid (own_only HO3.out (Only.of_below (F := fun _ => False) hb4) (fun _ _ h => h))
  have HB4 := Lib.hid (HB3.out.trans (hb4.mono HB3.out.size))
  obtain ⟨m0, m1, m2, m3, m4, m5, m6, m7, m8, m9, m10, mlt⟩ := map_cells hA4
  obtain ⟨q0, q1, q2, q3, q4, q5, q6, q7, qlt⟩ := plan_blk hQ4
  have HA4 := Lib.hid hA4; have HQ4 := Lib.hid hQ4
  have Hl3 := Lib.hid (lt_of_some HZ3.out)
  clear hb4 hA4 hQ4 ho4
  have b0' := Hb0'.out
  have b1' := Hb1'.out
  go_upto_region 7 with fail
  refine wp_region_lit ?_
  refine wpList_load26 rfl (.tmp 2) rfl (w.heap.size) rfl HA4.out ?_
  simp only [Act.put, List.setIfInBounds_toArray, List.set_cons_zero, List.set_cons_succ]
  go_upto_region 8 with (go_at_call 41
                         refine (place_any _ A' cap' a _ (MapIn.ofOwn HI.out HO4.out).row (Nat.le_trans (MapIn.ofOwn HI.out HO4.out).ncap (MapIn.ofOwn HI.out HO4.out).cmax)).mono ?_
                         rintro e w5 ⟨rfl, hb5⟩
                         rw [Hp.out]
                         have HA5 := Lib.hid (blk_below hb5 (lt_of_some HA4.out) HA4.out)
                         have HQ5 := Lib.hid (blk_below hb5 (lt_of_some HQ4.out) HQ4.out)
                         have HZ5 := Lib.hid (blk_below hb5 (lt_of_some HZ4.out) HZ4.out)
                         have HO5 := Lib.hid (own_only HO4.out (Only.of_below (F := fun _ => False) hb5) (fun _ _ h => h))
                         have HB5 := Lib.hid (HB4.out.trans (hb5.mono HB4.out.size))
                         clear hb5)
  clear m0 m1 m2 m3 m4 m5 m6 m7 m8 m9 m10 mlt q0 q1 q2 q3 q4 q5 q6 q7 qlt
  obtain ⟨g, rfl, hg1, hg2⟩ := own_addr HO5.out (by omega)
  obtain ⟨m0, m1, m2, m3, m4, m5, m6, m7, m8, m9, m10, mlt⟩ := map_cells HA5.out
  go_upto_region 9 with fail
  refine wp_region_lit ?_
  refine wpList_step (fun K hK => ?_)
  go_simp
  refine hK _ _ ?_
  clear hK K
  refine wpList_step (fun K hK => ?_)
  go_simp
  refine hK _ _ ?_
  clear hK K
  refine wpList_store24_mid rfl (.tmp 38) (.tmp 37) rfl w.heap.size rfl (m := a) (q := zeroP) rfl HA5.out ?_
  intro w6 hA6 ho6
  simp only [Act.put, List.setIfInBounds_toArray, List.set_cons_zero, List.set_cons_succ]
  have hQ6 := (ho6.block _ (lt_of_some HQ5.out) (by show ¬ _ = _; have := Hl3.out; omega)).trans HQ5.out
  have HZ6 := Lib.hid ((ho6.block _ (lt_of_some HZ5.out) (by show ¬ _ = _; omega)).trans HZ5.out)
  have HO6 := Lib.hid (own_only HO5.out ho6 (fun k hk he => by have := (HO5.out.lt k hk).1; have he : k = w.heap.size := he; omega))
  have HB6 := Lib.hid (ho6.below HB5.out (fun k hk => by have hk : k = w.heap.size := hk; omega) HB5.out.size)
  have hg6 : g < w6.heap.size := Nat.lt_of_lt_of_le hg2 ho6.size
  clear m0 m1 m2 m3 m4 m5 m6 m7 m8 m9 m10 mlt
  obtain ⟨m0, m1, m2, m3, m4, m5, m6, m7, m8, m9, m10, mlt⟩ := map_cells hA6
  obtain ⟨q0, q1, q2, q3, q4, q5, q6, q7, qlt⟩ := plan_blk hQ6
  obtain ⟨p0, p1, p2, p3, p4⟩ := own_span HO6.out k hk
  rw [hs] at p0 p1 p2 p3 p4
  have hne : w.heap.size ≠ w3.heap.size := by have := Hl3.out; omega
  have hne2 : w3.heap.size ≠ w.heap.size := Ne.symm hne
  have hne3 : g ≠ w.heap.size := by omega
  have hne4 : w.heap.size ≠ g := by omega
  have HA6 := Lib.hid hA6; have HQ6 := Lib.hid hQ6
  have HgQ := Lib.hid (show w3.heap.size ≠ g from fun h => by have h1 := HO3.out.lt g rfl; omega)
  clear hA6 hQ6 ho6
  go_upto_region 28 with fail
  refine wp_region_lit ?_
  refine wpList_load26 rfl (.tmp 2) rfl (w.heap.size) rfl HA6.out ?_
  simp only [Act.put, List.setIfInBounds_toArray, List.set_cons_zero, List.set_cons_succ]
  refine wpList_store26 rfl (.tmp 4) (.tmp 144) rfl (w.heap.size + 1) rfl (m := { a with plan := zeroP }) (v := (.slice (some ⟨g, 0, none⟩) a.sp.length cap')) (m0 := zeroA) (v0 := nilV) rfl rfl HZ6.out ?_
  intro w99 h9 ho9
  simp only [Act.put, List.setIfInBounds_toArray, List.set_cons_zero, List.set_cons_succ]
  go_wp2
  refine bodyPost_ret (results26 rfl _ _ (w.heap.size + 1) rfl h9) rfl ?_
  have hB9 := ho9.below HB6.out (fun k hk => by omega) HB6.out.size
  have hO9 := own_only HO6.out ho9 (fun k hk he => by have := (HO6.out.lt k hk).1; omega)
  exact ⟨some ⟨g, 0, none⟩, cap', rfl, (MapIn.ofOwn HI.out hO9).replan zeroP (by decide) a.last, hB9⟩
set_option maxRecDepth 100000 in
set_option maxHeartbeats 4000000 in
theorem advance_move3 (w : World) (A : Option Addr) (cap : Nat) (a : Atl) (h : MapIn w A cap a) (hm : tr (MapOk a) = true) (k : Nat) (s : Span) (hk : k < a.sp.length) (hs : a.sp[k] = s) (hp : place a.sp a.plan.shard = (k : Int)) (he1 : 1 ≤ s.ep) (he2 : s.ep ≤ 1099511627776) (b0' : (a.plan.kind == 0) = false) (b1' : (a.plan.phase == 3) = true) (c1 : (a.plan.kind == 1) = true) (c2 : (a.plan.kind == 2) = false) (c3 : (a.plan.kind == 3) = false) :
    Calls Try.prog 17 #[a.val (.slice A a.sp.length cap), .int .i64 3] w fun e w' => ∃ A' cap', e = .returned (.tuple #[{ a with plan := zeroP }.val (.slice A' { a with plan := zeroP }.sp.length cap'), .int .i64 0]) ∧ MapIn w' A' cap' { a with plan := zeroP } ∧ Below w.heap.size w w' := by
  have hck := fun w h => check_any w A cap a h
  rw [hm] at hck
  have hl3 : a.sp.length * 56 ≤ 140737488355328 := by have := (of_tr hm).2.2.2.1.1; omega
  have Hck := Lib.hid hck; have HI := Lib.hid h
  clear hck h hm
  have Hb0' := Lib.hid b0'
  have Hb1' := Lib.hid b1'
  have Hc1 := Lib.hid c1
  have Hc2 := Lib.hid c2
  have Hc3 := Lib.hid c3
  clear b0' b1' c1 c2 c3
  have Hp := Lib.hid hp; clear hp
  have hk1 : (0 : Int) ≤ (k : Int) := by omega
  have hk2 : (k : Int) < (a.sp.length : Int) := by omega
  have hw3 : IntKind.i64.wrap (s.ep + 1) = s.ep + 1 := IntWalk.i64_in _ (by omega)
  go_enter Try.func17, Try.ntmps17
  go_upto_region 1 with fail
  have hat := al2_at w (a.blk (.slice A a.sp.length cap)) (zeroA.blk nilV)
  change Code.wp _ _ _ _ ((w.alloc (a.blk (.slice A a.sp.length cap))).alloc (zeroA.blk nilV))
  generalize (w.alloc (a.blk (.slice A a.sp.length cap))).alloc (zeroA.blk nilV) = w0 at *
  have HA0 := Lib.hid hat.1; have HZ0 := Lib.hid hat.2.1; have HB0 := Lib.hid hat.2.2
  clear hat
  refine wp_region_lit ?_
  refine wpList_load26 rfl (.tmp 2) rfl (w.heap.size) rfl HA0.out ?_
  simp only [Act.put, List.setIfInBounds_toArray, List.set_cons_zero, List.set_cons_succ]
  go_upto_region 3 with (go_at_call 29
                         refine (Hck.out _ (HI.out.below HB0.out)).mono ?_
                         rintro e w1 ⟨rfl, hb1⟩
                         have HA1 := Lib.hid (blk_below hb1 (lt_of_some HA0.out) HA0.out)
                         have HZ1 := Lib.hid (blk_below hb1 (lt_of_some HZ0.out) HZ0.out)
                         have HB1 := Lib.hid (HB0.out.trans (hb1.mono HB0.out.size))
                         clear hb1)
  refine wp_region_lit ?_
  refine wpList_load26 rfl (.tmp 2) rfl (w.heap.size) rfl HA1.out ?_
  simp only [Act.put, List.setIfInBounds_toArray, List.set_cons_zero, List.set_cons_succ]
  refine wpList_step (fun K hK => ?_)
  go_simp
  go_at_call 40
  refine (copied_any _ A cap a (HI.out.below HB1.out) hl3).mono ?_
  rintro e w2 ⟨A', cap', rfl, hO2, hI2, hb2⟩
  refine hK _ _ ?_
  clear hK K
  have hA2 := blk_below hb2 (lt_of_some HA1.out) HA1.out
  have HZ2 := Lib.hid (blk_below hb2 (lt_of_some HZ1.out) HZ1.out)
  have HB2 := Lib.hid (HB1.out.trans (hb2.mono HB1.out.size))
  refine wpList_store26 rfl (.tmp 2) (.tmp 16) rfl w.heap.size rfl (m := a) (v := .slice A' a.sp.length cap') (m0 := a) (v0 := .slice A a.sp.length cap) rfl rfl hA2 ?_
  intro w3 hA3 ho3
  simp only [Act.put, List.setIfInBounds_toArray, List.set_cons_zero, List.set_cons_succ]
  have hs1 : w.heap.size + 1 < w1.heap.size := lt_of_some HZ1.out
  have HO3 := Lib.hid (own_only hO2 ho3 (fun k hk he => by have := (hO2.lt k hk).1; have he : k = w.heap.size := he; omega))
  have HZ3 := Lib.hid ((ho3.block _ (lt_of_some HZ2.out) (by show ¬ _ = _; omega)).trans HZ2.out)
  have HB3 := Lib.hid (ho3.below HB2.out (fun k hk => by have hk : k = w.heap.size := hk; omega) HB2.out.size)
  have HA3 := Lib.hid hA3
  clear hA2 hO2 hb2 hA3 ho3 hI2
  go_upto_region 4 with fail
  refine wp_region_lit ?_
  refine wpList_step (fun K hK => ?_)
  go_simp
  refine hK _ _ ?_
  clear hK K
  refine wpList_loadPlan rfl (.tmp 17) rfl w.heap.size rfl HA3.out ?_
  simp only [Act.put, List.setIfInBounds_toArray, List.set_cons_zero, List.set_cons_succ]
  refine wpList_step (fun K hK => ?_)
  go_simp
  refine hK _ _ ?_
  clear hK K
  refine wpList_store24 rfl (.tmp 6) (.tmp 18) rfl w3.heap.size rfl (p := a.plan) (p0 := zeroP) rfl (heap_alloc_new w3 _) ?_
  intro w4 hQ4 ho4
  simp only [Act.put, List.setIfInBounds_toArray, List.set_cons_zero, List.set_cons_succ]
  have hb4 : Below w3.heap.size w3 w4 := ho4.below (al _) (fun k hk => by omega) (by simp)
  have hA4 := blk_below hb4 (lt_of_some HA3.out) HA3.out
  have HZ4 := Lib.hid (blk_below hb4 (lt_of_some HZ3.out) HZ3.out)
  have HO4 := Lib.hid (own_only HO3.out (Only.of_below (F := fun _ => False) hb4) (fun _ _ h => h))
  have HB4 := Lib.hid (HB3.out.trans (hb4.mono HB3.out.size))
  obtain ⟨m0, m1, m2, m3, m4, m5, m6, m7, m8, m9, m10, mlt⟩ := map_cells hA4
  obtain ⟨q0, q1, q2, q3, q4, q5, q6, q7, qlt⟩ := plan_blk hQ4
  have HA4 := Lib.hid hA4; have HQ4 := Lib.hid hQ4
  have Hl3 := Lib.hid (lt_of_some HZ3.out)
  clear hb4 hA4 hQ4 ho4
  have b0' := Hb0'.out
  have b1' := Hb1'.out
  have c1 := Hc1.out
  have c2 := Hc2.out
  have c3 := Hc3.out
  go_upto_region 7 with fail
  refine wp_region_lit ?_
  refine wpList_load26 rfl (.tmp 2) rfl (w.heap.size) rfl HA4.out ?_
  simp only [Act.put, List.setIfInBounds_toArray, List.set_cons_zero, List.set_cons_succ]
  go_upto_region 8 with (go_at_call 41
                         refine (place_any _ A' cap' a _ (MapIn.ofOwn HI.out HO4.out).row (Nat.le_trans (MapIn.ofOwn HI.out HO4.out).ncap (MapIn.ofOwn HI.out HO4.out).cmax)).mono ?_
                         rintro e w5 ⟨rfl, hb5⟩
                         rw [Hp.out]
                         have HA5 := Lib.hid (blk_below hb5 (lt_of_some HA4.out) HA4.out)
                         have HQ5 := Lib.hid (blk_below hb5 (lt_of_some HQ4.out) HQ4.out)
                         have HZ5 := Lib.hid (blk_below hb5 (lt_of_some HZ4.out) HZ4.out)
                         have HO5 := Lib.hid (own_only HO4.out (Only.of_below (F := fun _ => False) hb5) (fun _ _ h => h))
                         have HB5 := Lib.hid (HB4.out.trans (hb5.mono HB4.out.size))
                         clear hb5)
  clear m0 m1 m2 m3 m4 m5 m6 m7 m8 m9 m10 mlt q0 q1 q2 q3 q4 q5 q6 q7 qlt
  obtain ⟨g, rfl, hg1, hg2⟩ := own_addr HO5.out (by omega)
  obtain ⟨m0, m1, m2, m3, m4, m5, m6, m7, m8, m9, m10, mlt⟩ := map_cells HA5.out
  go_upto_region 9 with fail
  refine wp_region_lit ?_
  refine wpList_step (fun K hK => ?_)
  go_simp
  refine hK _ _ ?_
  clear hK K
  refine wpList_step (fun K hK => ?_)
  go_simp
  refine hK _ _ ?_
  clear hK K
  refine wpList_store24_mid rfl (.tmp 38) (.tmp 37) rfl w.heap.size rfl (m := a) (q := zeroP) rfl HA5.out ?_
  intro w6 hA6 ho6
  simp only [Act.put, List.setIfInBounds_toArray, List.set_cons_zero, List.set_cons_succ]
  have hQ6 := (ho6.block _ (lt_of_some HQ5.out) (by show ¬ _ = _; have := Hl3.out; omega)).trans HQ5.out
  have HZ6 := Lib.hid ((ho6.block _ (lt_of_some HZ5.out) (by show ¬ _ = _; omega)).trans HZ5.out)
  have HO6 := Lib.hid (own_only HO5.out ho6 (fun k hk he => by have := (HO5.out.lt k hk).1; have he : k = w.heap.size := he; omega))
  have HB6 := Lib.hid (ho6.below HB5.out (fun k hk => by have hk : k = w.heap.size := hk; omega) HB5.out.size)
  have hg6 : g < w6.heap.size := Nat.lt_of_lt_of_le hg2 ho6.size
  clear m0 m1 m2 m3 m4 m5 m6 m7 m8 m9 m10 mlt
  obtain ⟨m0, m1, m2, m3, m4, m5, m6, m7, m8, m9, m10, mlt⟩ := map_cells hA6
  obtain ⟨q0, q1, q2, q3, q4, q5, q6, q7, qlt⟩ := plan_blk hQ6
  obtain ⟨p0, p1, p2, p3, p4⟩ := own_span HO6.out k hk
  rw [hs] at p0 p1 p2 p3 p4
  have hne : w.heap.size ≠ w3.heap.size := by have := Hl3.out; omega
  have hne2 : w3.heap.size ≠ w.heap.size := Ne.symm hne
  have hne3 : g ≠ w.heap.size := by omega
  have hne4 : w.heap.size ≠ g := by omega
  have HA6 := Lib.hid hA6; have HQ6 := Lib.hid hQ6
  have HgQ := Lib.hid (show w3.heap.size ≠ g from fun h => by have h1 := HO3.out.lt g rfl; omega)
  clear hA6 hQ6 ho6
  go_upto_region 28 with fail
  refine wp_region_lit ?_
  refine wpList_load26 rfl (.tmp 2) rfl (w.heap.size) rfl HA6.out ?_
  simp only [Act.put, List.setIfInBounds_toArray, List.set_cons_zero, List.set_cons_succ]
  refine wpList_store26 rfl (.tmp 4) (.tmp 144) rfl (w.heap.size + 1) rfl (m := { a with plan := zeroP }) (v := (.slice (some ⟨g, 0, none⟩) a.sp.length cap')) (m0 := zeroA) (v0 := nilV) rfl rfl HZ6.out ?_
  intro w99 h9 ho9
  simp only [Act.put, List.setIfInBounds_toArray, List.set_cons_zero, List.set_cons_succ]
  go_wp2
  refine bodyPost_ret (results26 rfl _ _ (w.heap.size + 1) rfl h9) rfl ?_
  have hB9 := ho9.below HB6.out (fun k hk => by omega) HB6.out.size
  have hO9 := own_only HO6.out ho9 (fun k hk he => by have := (HO6.out.lt k hk).1; omega)
  exact ⟨some ⟨g, 0, none⟩, cap', rfl, (MapIn.ofOwn HI.out hO9).replan zeroP (by decide) a.last, hB9⟩
set_option maxRecDepth 100000 in
set_option maxHeartbeats 4000000 in
theorem advance_move2 (w : World) (A : Option Addr) (cap : Nat) (a : Atl) (h : MapIn w A cap a) (hm : tr (MapOk a) = true) (k : Nat) (s : Span) (hk : k < a.sp.length) (hs : a.sp[k] = s) (hp : place a.sp a.plan.shard = (k : Int)) (he1 : 1 ≤ s.ep) (he2 : s.ep ≤ 1099511627776) (b0' : (a.plan.kind == 0) = false) (b1' : (a.plan.phase == 2) = true) (c1 : (a.plan.kind == 1) = true) (c2 : (a.plan.kind == 2) = false) (c3 : (a.plan.kind == 3) = false) :
    Calls Try.prog 17 #[a.val (.slice A a.sp.length cap), .int .i64 2] w fun e w' => ∃ A' cap', e = .returned (.tuple #[{ a with plan := { a.plan with phase := 3 } }.val (.slice A' { a with plan := { a.plan with phase := 3 } }.sp.length cap'), .int .i64 0]) ∧ MapIn w' A' cap' { a with plan := { a.plan with phase := 3 } } ∧ Below w.heap.size w w' := by
  have hck := fun w h => check_any w A cap a h
  rw [hm] at hck
  have hl3 : a.sp.length * 56 ≤ 140737488355328 := by have := (of_tr hm).2.2.2.1.1; omega
  have Hck := Lib.hid hck; have HI := Lib.hid h
  clear hck h hm
  have Hb0' := Lib.hid b0'
  have Hb1' := Lib.hid b1'
  have Hc1 := Lib.hid c1
  have Hc2 := Lib.hid c2
  have Hc3 := Lib.hid c3
  clear b0' b1' c1 c2 c3
  have Hp := Lib.hid hp; clear hp
  have hk1 : (0 : Int) ≤ (k : Int) := by omega
  have hk2 : (k : Int) < (a.sp.length : Int) := by omega
  have hw3 : IntKind.i64.wrap (s.ep + 1) = s.ep + 1 := IntWalk.i64_in _ (by omega)
  go_enter Try.func17, Try.ntmps17
  go_upto_region 1 with fail
  have hat := al2_at w (a.blk (.slice A a.sp.length cap)) (zeroA.blk nilV)
  change Code.wp _ _ _ _ ((w.alloc (a.blk (.slice A a.sp.length cap))).alloc (zeroA.blk nilV))
  generalize (w.alloc (a.blk (.slice A a.sp.length cap))).alloc (zeroA.blk nilV) = w0 at *
  have HA0 := Lib.hid hat.1; have HZ0 := Lib.hid hat.2.1; have HB0 := Lib.hid hat.2.2
  clear hat
  refine wp_region_lit ?_
  refine wpList_load26 rfl (.tmp 2) rfl (w.heap.size) rfl HA0.out ?_
  simp only [Act.put, List.setIfInBounds_toArray, List.set_cons_zero, List.set_cons_succ]
  go_upto_region 3 with (go_at_call 29
                         refine (Hck.out _ (HI.out.below HB0.out)).mono ?_
                         rintro e w1 ⟨rfl, hb1⟩
                         have HA1 := Lib.hid (blk_below hb1 (lt_of_some HA0.out) HA0.out)
                         have HZ1 := Lib.hid (blk_below hb1 (lt_of_some HZ0.out) HZ0.out)
                         have HB1 := Lib.hid (HB0.out.trans (hb1.mono HB0.out.size))
                         clear hb1)
  refine wp_region_lit ?_
  refine wpList_load26 rfl (.tmp 2) rfl (w.heap.size) rfl HA1.out ?_
  simp only [Act.put, List.setIfInBounds_toArray, List.set_cons_zero, List.set_cons_succ]
  refine wpList_step (fun K hK => ?_)
  go_simp
  go_at_call 40
  refine (copied_any _ A cap a (HI.out.below HB1.out) hl3).mono ?_
  rintro e w2 ⟨A', cap', rfl, hO2, hI2, hb2⟩
  refine hK _ _ ?_
  clear hK K
  have hA2 := blk_below hb2 (lt_of_some HA1.out) HA1.out
  have HZ2 := Lib.hid (blk_below hb2 (lt_of_some HZ1.out) HZ1.out)
  have HB2 := Lib.hid (HB1.out.trans (hb2.mono HB1.out.size))
  refine wpList_store26 rfl (.tmp 2) (.tmp 16) rfl w.heap.size rfl (m := a) (v := .slice A' a.sp.length cap') (m0 := a) (v0 := .slice A a.sp.length cap) rfl rfl hA2 ?_
  intro w3 hA3 ho3
  simp only [Act.put, List.setIfInBounds_toArray, List.set_cons_zero, List.set_cons_succ]
  have hs1 : w.heap.size + 1 < w1.heap.size := lt_of_some HZ1.out
  have HO3 := Lib.hid (own_only hO2 ho3 (fun k hk he => by have := (hO2.lt k hk).1; have he : k = w.heap.size := he; omega))
  have HZ3 := Lib.hid ((ho3.block _ (lt_of_some HZ2.out) (by show ¬ _ = _; omega)).trans HZ2.out)
  have HB3 := Lib.hid (ho3.below HB2.out (fun k hk => by have hk : k = w.heap.size := hk; omega) HB2.out.size)
  have HA3 := Lib.hid hA3
  clear hA2 hO2 hb2 hA3 ho3 hI2
  go_upto_region 4 with fail
  refine wp_region_lit ?_
  refine wpList_step (fun K hK => ?_)
  go_simp
  refine hK _ _ ?_
  clear hK K
  refine wpList_loadPlan rfl (.tmp 17) rfl w.heap.size rfl HA3.out ?_
  simp only [Act.put, List.setIfInBounds_toArray, List.set_cons_zero, List.set_cons_succ]
  refine wpList_step (fun K hK => ?_)
  go_simp
  refine hK _ _ ?_
  clear hK K
  refine wpList_store24 rfl (.tmp 6) (.tmp 18) rfl w3.heap.size rfl (p := a.plan) (p0 := zeroP) rfl (heap_alloc_new w3 _) ?_
  intro w4 hQ4 ho4
  simp only [Act.put, List.setIfInBounds_toArray, List.set_cons_zero, List.set_cons_succ]
  have hb4 : Below w3.heap.size w3 w4 := ho4.below (al _) (fun k hk => by omega) (by simp)
  have hA4 := blk_below hb4 (lt_of_some HA3.out) HA3.out
  have HZ4 := Lib.hid (blk_below hb4 (lt_of_some HZ3.out) HZ3.out)
  have HO4 := Lib.hid (own_only HO3.out (Only.of_below (F := fun _ => False) hb4) (fun _ _ h => h))
  have HB4 := Lib.hid (HB3.out.trans (hb4.mono HB3.out.size))
  obtain ⟨m0, m1, m2, m3, m4, m5, m6, m7, m8, m9, m10, mlt⟩ := map_cells hA4
  obtain ⟨q0, q1, q2, q3, q4, q5, q6, q7, qlt⟩ := plan_blk hQ4
  have HA4 := Lib.hid hA4; have HQ4 := Lib.hid hQ4
  have Hl3 := Lib.hid (lt_of_some HZ3.out)
  clear hb4 hA4 hQ4 ho4
  have b0' := Hb0'.out
  have b1' := Hb1'.out
  have c1 := Hc1.out
  have c2 := Hc2.out
  have c3 := Hc3.out
  go_upto_region 7 with fail
  refine wp_region_lit ?_
  refine wpList_load26 rfl (.tmp 2) rfl (w.heap.size) rfl HA4.out ?_
  simp only [Act.put, List.setIfInBounds_toArray, List.set_cons_zero, List.set_cons_succ]
  go_upto_region 8 with (go_at_call 41
                         refine (place_any _ A' cap' a _ (MapIn.ofOwn HI.out HO4.out).row (Nat.le_trans (MapIn.ofOwn HI.out HO4.out).ncap (MapIn.ofOwn HI.out HO4.out).cmax)).mono ?_
                         rintro e w5 ⟨rfl, hb5⟩
                         rw [Hp.out]
                         have HA5 := Lib.hid (blk_below hb5 (lt_of_some HA4.out) HA4.out)
                         have HQ5 := Lib.hid (blk_below hb5 (lt_of_some HQ4.out) HQ4.out)
                         have HZ5 := Lib.hid (blk_below hb5 (lt_of_some HZ4.out) HZ4.out)
                         have HO5 := Lib.hid (own_only HO4.out (Only.of_below (F := fun _ => False) hb5) (fun _ _ h => h))
                         have HB5 := Lib.hid (HB4.out.trans (hb5.mono HB4.out.size))
                         clear hb5)
  clear m0 m1 m2 m3 m4 m5 m6 m7 m8 m9 m10 mlt q0 q1 q2 q3 q4 q5 q6 q7 qlt
  obtain ⟨g, rfl, hg1, hg2⟩ := own_addr HO5.out (by omega)
  obtain ⟨m0, m1, m2, m3, m4, m5, m6, m7, m8, m9, m10, mlt⟩ := map_cells HA5.out
  go_upto_region 9 with fail
  refine wp_region_lit ?_
  refine wpList_step (fun K hK => ?_)
  go_simp
  refine hK _ _ ?_
  clear hK K
  refine wpList_step (fun K hK => ?_)
  go_simp
  refine hK _ _ ?_
  clear hK K
  refine wpList_store24_mid rfl (.tmp 38) (.tmp 37) rfl w.heap.size rfl (m := a) (q := zeroP) rfl HA5.out ?_
  intro w6 hA6 ho6
  simp only [Act.put, List.setIfInBounds_toArray, List.set_cons_zero, List.set_cons_succ]
  have hQ6 := (ho6.block _ (lt_of_some HQ5.out) (by show ¬ _ = _; have := Hl3.out; omega)).trans HQ5.out
  have HZ6 := Lib.hid ((ho6.block _ (lt_of_some HZ5.out) (by show ¬ _ = _; omega)).trans HZ5.out)
  have HO6 := Lib.hid (own_only HO5.out ho6 (fun k hk he => by have := (HO5.out.lt k hk).1; have he : k = w.heap.size := he; omega))
  have HB6 := Lib.hid (ho6.below HB5.out (fun k hk => by have hk : k = w.heap.size := hk; omega) HB5.out.size)
  have hg6 : g < w6.heap.size := Nat.lt_of_lt_of_le hg2 ho6.size
  clear m0 m1 m2 m3 m4 m5 m6 m7 m8 m9 m10 mlt
  obtain ⟨m0, m1, m2, m3, m4, m5, m6, m7, m8, m9, m10, mlt⟩ := map_cells hA6
  obtain ⟨q0, q1, q2, q3, q4, q5, q6, q7, qlt⟩ := plan_blk hQ6
  obtain ⟨p0, p1, p2, p3, p4⟩ := own_span HO6.out k hk
  rw [hs] at p0 p1 p2 p3 p4
  have hne : w.heap.size ≠ w3.heap.size := by have := Hl3.out; omega
  have hne2 : w3.heap.size ≠ w.heap.size := Ne.symm hne
  have hne3 : g ≠ w.heap.size := by omega
  have hne4 : w.heap.size ≠ g := by omega
  have HA6 := Lib.hid hA6; have HQ6 := Lib.hid hQ6
  have HgQ := Lib.hid (show w3.heap.size ≠ g from fun h => by have h1 := HO3.out.lt g rfl; omega)
  clear hA6 hQ6 ho6
  have f1 := fz_blk HQ6.out 1
  go_upto_region 16 with fail
  go_upto_region 17 with fail
  have hl3 := Hl3.out
  have hQ7 : (w6.setCell ⟨w3.heap.size, 1, none⟩ (.int .i64 3)).heap[w3.heap.size]? = some (Plan.blk { a.plan with phase := 3 }) := by
    have := heap_setCell_at (i := 1) HQ6.out (.int .i64 3)
    refine (show _ = _ from this).trans ?_
    simp only [Plan.blk, List.setIfInBounds_toArray, List.set_cons_zero, List.set_cons_succ]
  have ho7 := only_setCell w6 ⟨w3.heap.size, 1, none⟩ (.int .i64 3)
  have hA7 := (ho7.block _ (lt_of_some HA6.out) (by show ¬ _ = w3.heap.size; omega)).trans HA6.out
  have hZ7 := (ho7.block _ (lt_of_some HZ6.out) (by show ¬ _ = w3.heap.size; have := Hl3.out; omega)).trans HZ6.out
  have hO7 := own_only HO6.out ho7 (fun k hk he => by have he : k = w3.heap.size := he; have hk : some g = some k := hk; injection hk with hk; have := HgQ.out; omega)
  have hB7 := ho7.below HB6.out (fun k hk => by have hk : k = w3.heap.size := hk; omega) HB6.out.size
  generalize w6.setCell ⟨w3.heap.size, 1, none⟩ (.int .i64 3) = w7 at *
  clear ho7
  refine wp_region_lit ?_
  refine wpList_load24 (p := { a.plan with phase := 3 }) rfl (.tmp 6) rfl w3.heap.size rfl hQ7 ?_
  simp only [Act.put, List.setIfInBounds_toArray, List.set_cons_zero, List.set_cons_succ]
  refine wpList_step (fun K hK => ?_)
  go_simp
  refine hK _ _ ?_
  clear hK K
  refine wpList_store24_mid rfl (.tmp 76) (.tmp 75) rfl w.heap.size rfl (q := { a.plan with phase := 3 }) rfl hA7 ?_
  intro w8 hA8 ho8
  simp only [Act.put, List.setIfInBounds_toArray, List.set_cons_zero, List.set_cons_succ]
  have hZ8 := (ho8.block _ (lt_of_some hZ7) (by show ¬ _ = _; omega)).trans hZ7
  have hO8 := own_only hO7 ho8 (fun k hk he => by have := (hO7.lt k hk).1; have he : k = w.heap.size := he; omega)
  have hB8 := ho8.below hB7 (fun k hk => by have hk : k = w.heap.size := hk; omega) hB7.size
  have HA8 := Lib.hid hA8; have HZ8 := Lib.hid hZ8; have HO8 := Lib.hid hO8; have HB8 := Lib.hid hB8
  clear hA8 ho8 hZ8 hO8 hB8 hQ7 hA7 hZ7 hO7 hB7
  go_upto_region 28 with fail
  refine wp_region_lit ?_
  refine wpList_load26 rfl (.tmp 2) rfl (w.heap.size) rfl HA8.out ?_
  simp only [Act.put, List.setIfInBounds_toArray, List.set_cons_zero, List.set_cons_succ]
  refine wpList_store26 rfl (.tmp 4) (.tmp 144) rfl (w.heap.size + 1) rfl (m := { a with plan := { a.plan with phase := 3 } }) (v := (.slice (some ⟨g, 0, none⟩) a.sp.length cap')) (m0 := zeroA) (v0 := nilV) rfl rfl HZ8.out ?_
  intro w99 h9 ho9
  simp only [Act.put, List.setIfInBounds_toArray, List.set_cons_zero, List.set_cons_succ]
  go_wp2
  refine bodyPost_ret (results26 rfl _ _ (w.heap.size + 1) rfl h9) rfl ?_
  have hB9 := ho9.below HB8.out (fun k hk => by omega) HB8.out.size
  have hO9 := own_only HO8.out ho9 (fun k hk he => by have := (HO8.out.lt k hk).1; omega)
  exact ⟨some ⟨g, 0, none⟩, cap', rfl, (MapIn.ofOwn HI.out hO9).replan { a.plan with phase := 3 } HI.out.key a.last, hB9⟩
set_option maxRecDepth 100000 in
set_option maxHeartbeats 4000000 in
theorem advance_move1 (w : World) (A : Option Addr) (cap : Nat) (a : Atl) (h : MapIn w A cap a) (hm : tr (MapOk a) = true) (k : Nat) (s : Span) (hk : k < a.sp.length) (hs : a.sp[k] = s) (hp : place a.sp a.plan.shard = (k : Int)) (he1 : 1 ≤ s.ep) (he2 : s.ep ≤ 1099511627776) (b0' : (a.plan.kind == 0) = false) (b1' : (a.plan.phase == 1) = true) (c1 : (a.plan.kind == 1) = true) (c2 : (a.plan.kind == 2) = false) (c3 : (a.plan.kind == 3) = false) :
    Calls Try.prog 17 #[a.val (.slice A a.sp.length cap), .int .i64 1] w fun e w' => ∃ A' cap', e = .returned (.tuple #[{ a with sp := a.sp.set k { s with ep := s.ep + 1, gr := a.plan.group }, plan := { a.plan with phase := 2 } }.val (.slice A' { a with sp := a.sp.set k { s with ep := s.ep + 1, gr := a.plan.group }, plan := { a.plan with phase := 2 } }.sp.length cap'), .int .i64 0]) ∧ MapIn w' A' cap' { a with sp := a.sp.set k { s with ep := s.ep + 1, gr := a.plan.group }, plan := { a.plan with phase := 2 } } ∧ Below w.heap.size w w' := by
  have hck := fun w h => check_any w A cap a h
  rw [hm] at hck
  have hl3 : a.sp.length * 56 ≤ 140737488355328 := by have := (of_tr hm).2.2.2.1.1; omega
  have Hck := Lib.hid hck; have HI := Lib.hid h
  clear hck h hm
  have Hb0' := Lib.hid b0'
  have Hb1' := Lib.hid b1'
  have Hc1 := Lib.hid c1
  have Hc2 := Lib.hid c2
  have Hc3 := Lib.hid c3
  clear b0' b1' c1 c2 c3
  have Hp := Lib.hid hp; clear hp
  have hk1 : (0 : Int) ≤ (k : Int) := by omega
  have hk2 : (k : Int) < (a.sp.length : Int) := by omega
  have hw3 : IntKind.i64.wrap (s.ep + 1) = s.ep + 1 := IntWalk.i64_in _ (by omega)
  go_enter Try.func17, Try.ntmps17
  go_upto_region 1 with fail
  have hat := al2_at w (a.blk (.slice A a.sp.length cap)) (zeroA.blk nilV)
  change Code.wp _ _ _ _ ((w.alloc (a.blk (.slice A a.sp.length cap))).alloc (zeroA.blk nilV))
  generalize (w.alloc (a.blk (.slice A a.sp.length cap))).alloc (zeroA.blk nilV) = w0 at *
  have HA0 := Lib.hid hat.1; have HZ0 := Lib.hid hat.2.1; have HB0 := Lib.hid hat.2.2
  clear hat
  refine wp_region_lit ?_
  refine wpList_load26 rfl (.tmp 2) rfl (w.heap.size) rfl HA0.out ?_
  simp only [Act.put, List.setIfInBounds_toArray, List.set_cons_zero, List.set_cons_succ]
  go_upto_region 3 with (go_at_call 29
                         refine (Hck.out _ (HI.out.below HB0.out)).mono ?_
                         rintro e w1 ⟨rfl, hb1⟩
                         have HA1 := Lib.hid (blk_below hb1 (lt_of_some HA0.out) HA0.out)
                         have HZ1 := Lib.hid (blk_below hb1 (lt_of_some HZ0.out) HZ0.out)
                         have HB1 := Lib.hid (HB0.out.trans (hb1.mono HB0.out.size))
                         clear hb1)
  refine wp_region_lit ?_
  refine wpList_load26 rfl (.tmp 2) rfl (w.heap.size) rfl HA1.out ?_
  simp only [Act.put, List.setIfInBounds_toArray, List.set_cons_zero, List.set_cons_succ]
  refine wpList_step (fun K hK => ?_)
  go_simp
  go_at_call 40
  refine (copied_any _ A cap a (HI.out.below HB1.out) hl3).mono ?_
  rintro e w2 ⟨A', cap', rfl, hO2, hI2, hb2⟩
  refine hK _ _ ?_
  clear hK K
  have hA2 := blk_below hb2 (lt_of_some HA1.out) HA1.out
  have HZ2 := Lib.hid (blk_below hb2 (lt_of_some HZ1.out) HZ1.out)
  have HB2 := Lib.hid (HB1.out.trans (hb2.mono HB1.out.size))
  refine wpList_store26 rfl (.tmp 2) (.tmp 16) rfl w.heap.size rfl (m := a) (v := .slice A' a.sp.length cap') (m0 := a) (v0 := .slice A a.sp.length cap) rfl rfl hA2 ?_
  intro w3 hA3 ho3
  simp only [Act.put, List.setIfInBounds_toArray, List.set_cons_zero, List.set_cons_succ]
  have hs1 : w.heap.size + 1 < w1.heap.size := lt_of_some HZ1.out
  have HO3 := Lib.hid (own_only hO2 ho3 (fun k hk he => by have := (hO2.lt k hk).1; have he : k = w.heap.size := he; omega))
  have HZ3 := Lib.hid ((ho3.block _ (lt_of_some HZ2.out) (by show ¬ _ = _; omega)).trans HZ2.out)
  have HB3 := Lib.hid (ho3.below HB2.out (fun k hk => by have hk : k = w.heap.size := hk; omega) HB2.out.size)
  have HA3 := Lib.hid hA3
  clear hA2 hO2 hb2 hA3 ho3 hI2
  go_upto_region 4 with fail
  refine wp_region_lit ?_
  refine wpList_step (fun K hK => ?_)
  go_simp
  refine hK _ _ ?_
  clear hK K
  refine wpList_loadPlan rfl (.tmp 17) rfl w.heap.size rfl HA3.out ?_
  simp only [Act.put, List.setIfInBounds_toArray, List.set_cons_zero, List.set_cons_succ]
  refine wpList_step (fun K hK => ?_)
  go_simp
  refine hK _ _ ?_
  clear hK K
  refine wpList_store24 rfl (.tmp 6) (.tmp 18) rfl w3.heap.size rfl (p := a.plan) (p0 := zeroP) rfl (heap_alloc_new w3 _) ?_
  intro w4 hQ4 ho4
  simp only [Act.put, List.setIfInBounds_toArray, List.set_cons_zero, List.set_cons_succ]
  have hb4 : Below w3.heap.size w3 w4 := ho4.below (al _) (fun k hk => by omega) (by simp)
  have hA4 := blk_below hb4 (lt_of_some HA3.out) HA3.out
  have HZ4 := Lib.hid (blk_below hb4 (lt_of_some HZ3.out) HZ3.out)
  have HO4 := Lib.hid (own_only HO3.out (Only.of_below (F := fun _ => False) hb4) (fun _ _ h => h))
  have HB4 := Lib.hid (HB3.out.trans (hb4.mono HB3.out.size))
  obtain ⟨m0, m1, m2, m3, m4, m5, m6, m7, m8, m9, m10, mlt⟩ := map_cells hA4
  obtain ⟨q0, q1, q2, q3, q4, q5, q6, q7, qlt⟩ := plan_blk hQ4
  have HA4 := Lib.hid hA4; have HQ4 := Lib.hid hQ4
  have Hl3 := Lib.hid (lt_of_some HZ3.out)
  clear hb4 hA4 hQ4 ho4
  have b0' := Hb0'.out
  have b1' := Hb1'.out
  have c1 := Hc1.out
  have c2 := Hc2.out
  have c3 := Hc3.out
  go_upto_region 7 with fail
  refine wp_region_lit ?_
  refine wpList_load26 rfl (.tmp 2) rfl (w.heap.size) rfl HA4.out ?_
  simp only [Act.put, List.setIfInBounds_toArray, List.set_cons_zero, List.set_cons_succ]
  go_upto_region 8 with (go_at_call 41
                         refine (place_any _ A' cap' a _ (MapIn.ofOwn HI.out HO4.out).row (Nat.le_trans (MapIn.ofOwn HI.out HO4.out).ncap (MapIn.ofOwn HI.out HO4.out).cmax)).mono ?_
                         rintro e w5 ⟨rfl, hb5⟩
                         rw [Hp.out]
                         have HA5 := Lib.hid (blk_below hb5 (lt_of_some HA4.out) HA4.out)
                         have HQ5 := Lib.hid (blk_below hb5 (lt_of_some HQ4.out) HQ4.out)
                         have HZ5 := Lib.hid (blk_below hb5 (lt_of_some HZ4.out) HZ4.out)
                         have HO5 := Lib.hid (own_only HO4.out (Only.of_below (F := fun _ => False) hb5) (fun _ _ h => h))
                         have HB5 := Lib.hid (HB4.out.trans (hb5.mono HB4.out.size))
                         clear hb5)
  clear m0 m1 m2 m3 m4 m5 m6 m7 m8 m9 m10 mlt q0 q1 q2 q3 q4 q5 q6 q7 qlt
  obtain ⟨g, rfl, hg1, hg2⟩ := own_addr HO5.out (by omega)
  obtain ⟨m0, m1, m2, m3, m4, m5, m6, m7, m8, m9, m10, mlt⟩ := map_cells HA5.out
  go_upto_region 9 with fail
  refine wp_region_lit ?_
  refine wpList_step (fun K hK => ?_)
  go_simp
  refine hK _ _ ?_
  clear hK K
  refine wpList_step (fun K hK => ?_)
  go_simp
  refine hK _ _ ?_
  clear hK K
  refine wpList_store24_mid rfl (.tmp 38) (.tmp 37) rfl w.heap.size rfl (m := a) (q := zeroP) rfl HA5.out ?_
  intro w6 hA6 ho6
  simp only [Act.put, List.setIfInBounds_toArray, List.set_cons_zero, List.set_cons_succ]
  have hQ6 := (ho6.block _ (lt_of_some HQ5.out) (by show ¬ _ = _; have := Hl3.out; omega)).trans HQ5.out
  have HZ6 := Lib.hid ((ho6.block _ (lt_of_some HZ5.out) (by show ¬ _ = _; omega)).trans HZ5.out)
  have HO6 := Lib.hid (own_only HO5.out ho6 (fun k hk he => by have := (HO5.out.lt k hk).1; have he : k = w.heap.size := he; omega))
  have HB6 := Lib.hid (ho6.below HB5.out (fun k hk => by have hk : k = w.heap.size := hk; omega) HB5.out.size)
  have hg6 : g < w6.heap.size := Nat.lt_of_lt_of_le hg2 ho6.size
  clear m0 m1 m2 m3 m4 m5 m6 m7 m8 m9 m10 mlt
  obtain ⟨m0, m1, m2, m3, m4, m5, m6, m7, m8, m9, m10, mlt⟩ := map_cells hA6
  obtain ⟨q0, q1, q2, q3, q4, q5, q6, q7, qlt⟩ := plan_blk hQ6
  obtain ⟨p0, p1, p2, p3, p4⟩ := own_span HO6.out k hk
  rw [hs] at p0 p1 p2 p3 p4
  have hne : w.heap.size ≠ w3.heap.size := by have := Hl3.out; omega
  have hne2 : w3.heap.size ≠ w.heap.size := Ne.symm hne
  have hne3 : g ≠ w.heap.size := by omega
  have hne4 : w.heap.size ≠ g := by omega
  have HA6 := Lib.hid hA6; have HQ6 := Lib.hid hQ6
  have HgQ := Lib.hid (show w3.heap.size ≠ g from fun h => by have h1 := HO3.out.lt g rfl; omega)
  clear hA6 hQ6 ho6
  have f1 := fz_blk HQ6.out 1
  have hs6 := HO6.out.frozenAt (k * 5 + 3); have hs7 := HO6.out.frozenAt (k * 5 + 4)
  go_upto_region 12 with fail
  go_region
  have hOr := (HO6.out.stored (k * 5 + 4) (.int .i64 a.plan.group)).1.stored (k * 5 + 3) (.int .i64 (s.ep + 1))
  have hor := ((only_setCell w6 ⟨g, k * 5 + 4, none⟩ (.int .i64 a.plan.group)).trans (only_setCell _ ⟨g, k * 5 + 3, none⟩ (.int .i64 (s.ep + 1))) (fun _ _ h => h)).trans (drewO (· = g) _) (fun _ _ h => h)
  have hOs : (((w6.setCell ⟨g, k * 5 + 4, none⟩ (.int .i64 a.plan.group)).setCell ⟨g, k * 5 + 3, none⟩ (.int .i64 (s.ep + 1))).drew).ownsRow w1.heap.size 50 5 (.slice (some ⟨g, 0, none⟩) a.sp.length cap') a.sp.length ((a.sp.set k { s with ep := s.ep + 1, gr := a.plan.group }).map Span.cells).flatten := by
    have h1 := hOr.1
    rw [span_set a.sp k 4 s { s with gr := a.plan.group } (.int .i64 a.plan.group) (by rw [List.getElem?_eq_getElem hk, hs]) (by omega) rfl,
      span_set (a.sp.set k { s with gr := a.plan.group }) k 3 { s with gr := a.plan.group } { s with ep := s.ep + 1, gr := a.plan.group } (.int .i64 (s.ep + 1)) (by simp [hk]) (by omega) rfl, List.set_set] at h1
    exact h1
  have hAr := (hor.block _ (lt_of_some HA6.out) (by show ¬ _ = g; omega)).trans HA6.out
  have hQr := (hor.block _ (lt_of_some HQ6.out) (by show ¬ _ = g; have := HgQ.out; omega)).trans HQ6.out
  have hZr := (hor.block _ (lt_of_some HZ6.out) (by show ¬ _ = g; omega)).trans HZ6.out
  have hBr := hor.below HB6.out (fun k hk => by have hk : k = g := hk; omega) HB6.out.size
  clear hOr hor
  generalize ((w6.setCell ⟨g, k * 5 + 4, none⟩ (.int .i64 a.plan.group)).setCell ⟨g, k * 5 + 3, none⟩ (.int .i64 (s.ep + 1))).drew = wr at *
  clear m0 m1 m2 m3 m4 m5 m6 m7 m8 m9 m10 mlt q0 q1 q2 q3 q4 q5 q6 q7 qlt p0 p1 p2 p3 p4 f1 hs6 hs7
  obtain ⟨q0, q1, q2, q3, q4, q5, q6, q7, qlt⟩ := plan_blk hQr
  have f1 := fz_blk hQr 1
  have HAr := Lib.hid hAr; have HQr := Lib.hid hQr; have HZr := Lib.hid hZr; have HBr := Lib.hid hBr; have HOr := Lib.hid hOs
  clear hOs hAr hQr hZr hBr
  go_upto_region 14 with fail
  have hl3 := Hl3.out
  have hQ7 : (wr.setCell ⟨w3.heap.size, 1, none⟩ (.int .i64 2)).heap[w3.heap.size]? = some (Plan.blk { a.plan with phase := 2 }) := by
    have := heap_setCell_at (i := 1) HQr.out (.int .i64 2)
    refine (show _ = _ from this).trans ?_
    simp only [Plan.blk, List.setIfInBounds_toArray, List.set_cons_zero, List.set_cons_succ]
  have ho7 := only_setCell wr ⟨w3.heap.size, 1, none⟩ (.int .i64 2)
  have hA7 := (ho7.block _ (lt_of_some HAr.out) (by show ¬ _ = w3.heap.size; omega)).trans HAr.out
  have hZ7 := (ho7.block _ (lt_of_some HZr.out) (by show ¬ _ = w3.heap.size; have := Hl3.out; omega)).trans HZr.out
  have hO7 := own_only HOr.out ho7 (fun k hk he => by have he : k = w3.heap.size := he; have hk : some g = some k := hk; injection hk with hk; have := HgQ.out; omega)
  have hB7 := ho7.below HBr.out (fun k hk => by have hk : k = w3.heap.size := hk; omega) HBr.out.size
  generalize wr.setCell ⟨w3.heap.size, 1, none⟩ (.int .i64 2) = w7 at *
  clear ho7
  refine wp_region_lit ?_
  refine wpList_load24 (p := { a.plan with phase := 2 }) rfl (.tmp 6) rfl w3.heap.size rfl hQ7 ?_
  simp only [Act.put, List.setIfInBounds_toArray, List.set_cons_zero, List.set_cons_succ]
  refine wpList_step (fun K hK => ?_)
  go_simp
  refine hK _ _ ?_
  clear hK K
  refine wpList_store24_mid rfl (.tmp 65) (.tmp 64) rfl w.heap.size rfl (q := { a.plan with phase := 2 }) rfl hA7 ?_
  intro w8 hA8 ho8
  simp only [Act.put, List.setIfInBounds_toArray, List.set_cons_zero, List.set_cons_succ]
  have hZ8 := (ho8.block _ (lt_of_some hZ7) (by show ¬ _ = _; omega)).trans hZ7
  have hO8 := own_only hO7 ho8 (fun k hk he => by have := (hO7.lt k hk).1; have he : k = w.heap.size := he; omega)
  have hB8 := ho8.below hB7 (fun k hk => by have hk : k = w.heap.size := hk; omega) hB7.size
  have HA8 := Lib.hid hA8; have HZ8 := Lib.hid hZ8; have HO8 := Lib.hid hO8; have HB8 := Lib.hid hB8
  clear hA8 ho8 hZ8 hO8 hB8 hQ7 hA7 hZ7 hO7 hB7
  go_upto_region 28 with fail
  refine wp_region_lit ?_
  refine wpList_load26 rfl (.tmp 2) rfl (w.heap.size) rfl HA8.out ?_
  simp only [Act.put, List.setIfInBounds_toArray, List.set_cons_zero, List.set_cons_succ]
  refine wpList_store26 rfl (.tmp 4) (.tmp 144) rfl (w.heap.size + 1) rfl (m := { a with sp := a.sp.set k { s with ep := s.ep + 1, gr := a.plan.group }, plan := { a.plan with phase := 2 } }) (v := (.slice (some ⟨g, 0, none⟩) a.sp.length cap')) (m0 := zeroA) (v0 := nilV) rfl rfl HZ8.out ?_
  intro w99 h9 ho9
  simp only [Act.put, List.setIfInBounds_toArray, List.set_cons_zero, List.set_cons_succ]
  go_wp2
  refine bodyPost_ret (results26 rfl _ _ (w.heap.size + 1) rfl h9) rfl ?_
  have hB9 := ho9.below HB8.out (fun k hk => by omega) HB8.out.size
  have hO9 := own_only HO8.out ho9 (fun k hk he => by have := (HO8.out.lt k hk).1; omega)
  have hlen : (a.sp.set k { s with ep := s.ep + 1, gr := a.plan.group }).length = a.sp.length := by simp
  refine ⟨some ⟨g, 0, none⟩, cap', ?_, ⟨?_, ?_, ?_, ?_, HI.out.key⟩, hB9⟩
  · first | rfl | exact congrArg (fun n => Ending.returned (Value.tuple #[Atl.val { a with sp := a.sp.set k { s with ep := s.ep + 1, gr := a.plan.group }, plan := { a.plan with phase := 2 } } (.slice (some ⟨g, 0, none⟩) n cap'), .int .i64 0])) hlen.symm
  · exact rowAt_of_own hO9 rfl (span_len _) (by simp)
  · obtain ⟨A2, c2, hv, hle, _⟩ := own_shape hO9
    injection hv with _ _ h3
    show (a.sp.set k _).length ≤ _
    rw [hlen]; omega
  · exact (MapIn.ofOwn HI.out HO3.out).cmax
  · intro t ht
    rcases List.mem_or_eq_of_mem_set ht with h | h
    · exact HI.out.sz t h
    · rw [h]
      exact HI.out.sz s (by rw [← hs]; exact List.getElem_mem hk)
end Go.Proofs.Ytimondpollbdfaa
