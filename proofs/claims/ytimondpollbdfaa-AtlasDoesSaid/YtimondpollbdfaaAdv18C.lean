/- What is proved: what a phase that is done makes of a map: the document's Advance, where two shards are joined. -/
import Derived.Test.YtimondpollbdfaaAdv18
import Derived.Test.YtimondpollbdfaaAdv17C
set_option linter.unusedVariables false
set_option linter.unusedSimpArgs false
namespace Go.Proofs.Ytimondpollbdfaa
open Go.RowKit
attribute [local go_sem] Span.val Atl.val Plan.val

set_option maxRecDepth 100000 in
set_option maxHeartbeats 4000000 in
theorem rAdvance_join1 (w : World) (A : Option Addr) (cap : Nat) (a : Atl) (h : MapIn w A cap a) (hm : tr (MapOk a) = true) (k : Nat) (s : Span) (hk : k < a.sp.length) (hs : a.sp[k] = s) (hp : place a.sp a.plan.shard = (k : Int)) (he1 : 1 ≤ s.ep) (he2 : s.ep ≤ 1099511627776) (h16' : a.sp.length ≤ 16) (u : Span) (hk5 : k + 1 < a.sp.length) (hu : a.sp[k+1] = u) (hu1 : 1 ≤ u.ep) (hu2 : u.ep ≤ 1099511627776) (b0' : (a.plan.kind == 0) = false) (b1' : (a.plan.phase == 1) = true) (c1 : (a.plan.kind == 1) = false) (c2 : (a.plan.kind == 2) = false) (c3 : (a.plan.kind == 3) = true) (gt : s.ep < u.ep) :
    Calls Try.prog 18 #[a.val (.slice A a.sp.length cap), .int .i64 1] w fun e w' => ∃ A' cap', e = .returned (.tuple #[{ a with sp := (a.sp.take k ++ (⟨s.fr, u.to, s.sh, u.ep + 1, s.gr⟩ : Span) :: a.sp.drop (k + 2)), plan := zeroP }.val (.slice A' { a with sp := (a.sp.take k ++ (⟨s.fr, u.to, s.sh, u.ep + 1, s.gr⟩ : Span) :: a.sp.drop (k + 2)), plan := zeroP }.sp.length cap'), .int .i64 0]) ∧ MapIn w' A' cap' { a with sp := (a.sp.take k ++ (⟨s.fr, u.to, s.sh, u.ep + 1, s.gr⟩ : Span) :: a.sp.drop (k + 2)), plan := zeroP } ∧ Below w.heap.size w w' := by
  have hck := fun w h => rCheck_any w A cap a h
  rw [hm] at hck
  have hl3 : a.sp.length * 56 ≤ 140737488355328 := by have := (of_tr hm).2.2.2.1.1; omega
  have Hck := Lib.hid hck; have HI := Lib.hid h
  clear hck h hm
  have Hb0' := Lib.hid b0'
  have Hb1' := Lib.hid b1'
  have Hc1 := Lib.hid c1
  have Hc2 := Lib.hid c2
  have Hc3 := Lib.hid c3
  have Hgt := Lib.hid gt
  clear b0' b1' c1 c2 c3 gt
  obtain ⟨b, off, rfl, hbl, _, _, _, _, _⟩ := span_cells HI.out.row k hk
  have Hp := Lib.hid hp; clear hp
  have hk1 : (0 : Int) ≤ (k : Int) := by omega
  have hk2 : (k : Int) < (a.sp.length : Int) := by omega
  have h16 : a.sp.length ≤ 16 := h16'
  have hw1 : IntKind.i64.wrap ((k : Int) + 1) = (k : Int) + 1 := IntWalk.i64_in _ (by omega)
  have hw4 : IntKind.i64.wrap (u.ep + 1) = u.ep + 1 := IntWalk.i64_in _ (by omega)
  have hk3 : (0 : Int) ≤ (k : Int) + 1 := by omega
  have hk4 : ((k : Int) + 1).toNat = k + 1 := by omega
  have hk6 : (k : Int) + 1 < (a.sp.length : Int) := by omega
  have hw2 : IntKind.i64.wrap ((k : Int) + 2) = (k : Int) + 2 := IntWalk.i64_in _ (by omega)
  have hw3 : IntKind.i64.wrap (s.ep + 1) = s.ep + 1 := IntWalk.i64_in _ (by omega)
  go_enter Try.func18, Try.ntmps18
  go_upto_region 1 with fail
  have hat := al2_at w (a.blk (.slice (some ⟨b, off, none⟩) a.sp.length cap)) (zeroA.blk nilV)
  change Code.wp _ _ _ _ ((w.alloc (a.blk (.slice (some ⟨b, off, none⟩) a.sp.length cap))).alloc (zeroA.blk nilV))
  generalize (w.alloc (a.blk (.slice (some ⟨b, off, none⟩) a.sp.length cap))).alloc (zeroA.blk nilV) = w0 at *
  have HA0 := Lib.hid hat.1; have HZ0 := Lib.hid hat.2.1; have HB0 := Lib.hid hat.2.2
  clear hat
  refine wp_region_lit ?_
  refine wpList_load26 rfl (.tmp 2) rfl (w.heap.size) rfl HA0.out ?_
  simp only [Act.put, List.setIfInBounds_toArray, List.set_cons_zero, List.set_cons_succ]
  go_upto_region 3 with (go_at_call 39
                         refine (Hck.out _ (HI.out.below HB0.out)).mono ?_
                         rintro e w1 ⟨rfl, hb1⟩
                         have HA1 := Lib.hid (blk_below hb1 (lt_of_some HA0.out) HA0.out)
                         have HZ1 := Lib.hid (blk_below hb1 (lt_of_some HZ0.out) HZ0.out)
                         have HB1 := Lib.hid (HB0.out.trans (hb1.mono HB0.out.size))
                         clear hb1)
  refine wp_region_lit ?_
  refine wpList_step (fun K hK => ?_)
  go_simp
  refine hK _ _ ?_
  clear hK K
  refine wpList_loadPlan rfl (.tmp 15) rfl w.heap.size rfl HA1.out ?_
  simp only [Act.put, List.setIfInBounds_toArray, List.set_cons_zero, List.set_cons_succ]
  refine wpList_step (fun K hK => ?_)
  go_simp
  refine hK _ _ ?_
  clear hK K
  refine wpList_store24 rfl (.tmp 6) (.tmp 16) rfl w1.heap.size rfl (p := a.plan) (p0 := zeroP) rfl (heap_alloc_new w1 _) ?_
  intro w2 hQ2 ho2
  simp only [Act.put, List.setIfInBounds_toArray, List.set_cons_zero, List.set_cons_succ]
  have hb2 : Below w1.heap.size w1 w2 := ho2.below (al _) (fun k hk => by omega) (by simp)
  have hA2 := blk_below hb2 (lt_of_some HA1.out) HA1.out
  have HZ2 := Lib.hid (blk_below hb2 (lt_of_some HZ1.out) HZ1.out)
  have HB2 := Lib.hid (HB1.out.trans (hb2.mono HB1.out.size))
  have Hl1 := Lib.hid (lt_of_some HZ1.out)
  obtain ⟨m0, m1, m2, m3, m4, m5, m6, m7, m8, m9, m10, mlt⟩ := map_cells hA2
  obtain ⟨q0, q1, q2, q3, q4, q5, q6, q7, qlt⟩ := plan_blk hQ2
  have HA2 := Lib.hid hA2; have HQ2 := Lib.hid hQ2
  clear hb2 hA2 hQ2 ho2
  have b0' := Hb0'.out
  have b1' := Hb1'.out
  have c1 := Hc1.out
  have c2 := Hc2.out
  have c3 := Hc3.out
  have gt := Hgt.out
  go_upto_region 6 with fail
  refine wp_region_lit ?_
  refine wpList_load26 rfl (.tmp 2) rfl (w.heap.size) rfl HA2.out ?_
  simp only [Act.put, List.setIfInBounds_toArray, List.set_cons_zero, List.set_cons_succ]
  go_upto_region 7 with (go_at_call 32
                         refine (rPlace_any _ (some ⟨b, off, none⟩) cap a _ (HI.out.below HB2.out).row (by omega)).mono ?_
                         rintro e w3 ⟨rfl, hb3⟩
                         rw [Hp.out]
                         have HA3 := Lib.hid (blk_below hb3 (lt_of_some HA2.out) HA2.out)
                         have HQ3 := Lib.hid (blk_below hb3 (lt_of_some HQ2.out) HQ2.out)
                         have HZ3 := Lib.hid (blk_below hb3 (lt_of_some HZ2.out) HZ2.out)
                         have HB3 := Lib.hid (HB2.out.trans (hb3.mono HB2.out.size))
                         clear hb3)
  clear m0 m1 m2 m3 m4 m5 m6 m7 m8 m9 m10 mlt q0 q1 q2 q3 q4 q5 q6 q7 qlt
  obtain ⟨m0, m1, m2, m3, m4, m5, m6, m7, m8, m9, m10, mlt⟩ := map_cells HA3.out
  obtain ⟨_, _, he, blt, p0, p1, p2, p3, p4⟩ := span_cells (HI.out.below HB3.out).row k hk
  injection he with he
  injection he with hx1 hx2
  subst hx1; subst hx2
  rw [hs] at p0 p1 p2 p3 p4
  go_upto_region 8 with fail
  change Code.wp _ _ _ _ (w3.alloc s.blk)
  have hS4 := heap_alloc_new w3 s.blk
  have hA4 := blk_below (al (w := w3) s.blk) (lt_of_some HA3.out) HA3.out
  have hQ4 := blk_below (al (w := w3) s.blk) (lt_of_some HQ3.out) HQ3.out
  have hZ4 := blk_below (al (w := w3) s.blk) (lt_of_some HZ3.out) HZ3.out
  have hB4 := HB3.out.trans ((al (w := w3) s.blk).mono HB3.out.size)
  have Hl3 := Lib.hid (lt_of_some HQ3.out)
  generalize w3.alloc s.blk = w4 at *
  clear m0 m1 m2 m3 m4 m5 m6 m7 m8 m9 m10 mlt p0 p1 p2 p3 p4
  refine wp_region_lit ?_
  refine wpList_step (fun K hK => ?_)
  go_simp
  refine hK _ _ ?_
  clear hK K
  refine wpList_step (fun K hK => ?_)
  go_simp
  refine hK _ _ ?_
  clear hK K
  refine wpList_store24_mid rfl (.tmp 37) (.tmp 36) rfl w.heap.size rfl (m := a) (q := zeroP) rfl hA4 ?_
  intro w5 hA5 ho5
  simp only [Act.put, List.setIfInBounds_toArray, List.set_cons_zero, List.set_cons_succ]
  have hl1 := Hl1.out
  have hl3 := Hl3.out
  have hlA := lt_of_some HA3.out
  have hQ5 := (ho5.block _ (lt_of_some hQ4) (by show ¬ _ = _; omega)).trans hQ4
  have hS5 := (ho5.block _ (lt_of_some hS4) (by show ¬ _ = _; omega)).trans hS4
  have hZ5 := (ho5.block _ (lt_of_some hZ4) (by show ¬ _ = _; omega)).trans hZ4
  have hB5 := ho5.below hB4 (fun k hk => by have hk : k = w.heap.size := hk; omega) hB4.size
  clear hl1 hl3 hlA
  obtain ⟨m0, m1, m2, m3, m4, m5, m6, m7, m8, m9, m10, mlt⟩ := map_cells hA5
  obtain ⟨q0, q1, q2, q3, q4, q5, q6, q7, qlt⟩ := plan_blk hQ5
  obtain ⟨s0, s1, s2, s3, s4, slt⟩ := span_blk hS5
  have fs0 := fz_blk hS5 0; have fs1 := fz_blk hS5 1; have fs2 := fz_blk hS5 2; have fs3 := fz_blk hS5 3; have fs4 := fz_blk hS5 4; have fq1 := fz_blk hQ5 1; have fa2 := map_frz hA5 2
  have HA5 := Lib.hid hA5; have HQ5 := Lib.hid hQ5; have HS5 := Lib.hid hS5; have HZ5 := Lib.hid hZ5; have HB5 := Lib.hid hB5
  clear hA4 hQ4 hZ4 hS4 hB4 hA5 hQ5 hS5 hZ5 hB5 ho5
  obtain ⟨_, _, he, blt5, v0, v1, v2, v3, v4⟩ := span_cells (HI.out.below HB5.out).row (k + 1) hk5
  injection he with he
  injection he with hx1 hx2
  subst hx1; subst hx2
  rw [hu] at v0 v1 v2 v3 v4
  go_upto_region 30 with fail
  change Code.wp _ _ _ _ (w5.alloc u.blk)
  have hT6 := heap_alloc_new w5 u.blk
  have hb56 := al (w := w5) u.blk
  have hlS := lt_of_some HS5.out
  have hA6 := blk_below hb56 (lt_of_some HA5.out) HA5.out
  have hQ6 := blk_below hb56 (lt_of_some HQ5.out) HQ5.out
  have hS6 := blk_below hb56 (lt_of_some HS5.out) HS5.out
  have hZ6 := blk_below hb56 (lt_of_some HZ5.out) HZ5.out
  have hB6 := HB5.out.trans (hb56.mono HB5.out.size)
  generalize w5.alloc u.blk = wt at *
  clear m0 m1 m2 m3 m4 m5 m6 m7 m8 m9 m10 mlt q0 q1 q2 q3 q4 q5 q6 q7 qlt s0 s1 s2 s3 s4 slt fs0 fs1 fs2 fs3 fs4 fq1 fa2 hb56 v0 v1 v2 v3 v4
  obtain ⟨m0, m1, m2, m3, m4, m5, m6, m7, m8, m9, m10, mlt⟩ := map_cells hA6
  obtain ⟨q0, q1, q2, q3, q4, q5, q6, q7, qlt⟩ := plan_blk hQ6
  obtain ⟨s0, s1, s2, s3, s4, slt⟩ := span_blk hS6
  obtain ⟨t0, t1, t2, t3, t4, tlt⟩ := span_blk hT6
  have fs0 := fz_blk hS6 0; have fs1 := fz_blk hS6 1; have fs2 := fz_blk hS6 2; have fs3 := fz_blk hS6 3; have fs4 := fz_blk hS6 4; have fq1 := fz_blk hQ6 1; have fa2 := map_frz hA6 2
  have hn1 : w3.heap.size ≠ w5.heap.size := by omega
  have hn2 : w5.heap.size ≠ w3.heap.size := Ne.symm hn1
  clear HA5 HQ5 HS5 HZ5 HB5
  have HA5 := Lib.hid hA6; have HQ5 := Lib.hid hQ6; have HS5 := Lib.hid hS6; have HZ5 := Lib.hid hZ6; have HB5 := Lib.hid hB6
  clear hA6 hQ6 hS6 hT6 hZ6 hB6
  go_upto_region 34 with fail
  have hl1 := Hl1.out; have hl3 := Hl3.out
  have hon : Only (fun k => k = w3.heap.size) wt (((wt.setCell ⟨w3.heap.size, 1, none⟩ (.string u.to)).setCell ⟨w3.heap.size, 3, none⟩ (.int .i64 u.ep)).setCell ⟨w3.heap.size, 3, none⟩ (.int .i64 (u.ep + 1))) := ((((only_setCell wt ⟨w3.heap.size, 1, none⟩ (.string u.to)).mono (fun k (hk : k = w3.heap.size) => (show k = w3.heap.size by omega))).trans ((only_setCell (wt.setCell ⟨w3.heap.size, 1, none⟩ (.string u.to)) ⟨w3.heap.size, 3, none⟩ (.int .i64 u.ep)).mono (fun k (hk : k = w3.heap.size) => (show k = w3.heap.size by omega))) (fun _ _ h => h)).trans ((only_setCell ((wt.setCell ⟨w3.heap.size, 1, none⟩ (.string u.to)).setCell ⟨w3.heap.size, 3, none⟩ (.int .i64 u.ep)) ⟨w3.heap.size, 3, none⟩ (.int .i64 (u.ep + 1))).mono (fun k (hk : k = w3.heap.size) => (show k = w3.heap.size by omega))) (fun _ _ h => h))
  have hS5n : (((wt.setCell ⟨w3.heap.size, 1, none⟩ (.string u.to)).setCell ⟨w3.heap.size, 3, none⟩ (.int .i64 u.ep)).setCell ⟨w3.heap.size, 3, none⟩ (.int .i64 (u.ep + 1))).heap[w3.heap.size]? = some (Span.blk (⟨s.fr, u.to, s.sh, u.ep + 1, s.gr⟩ : Span)) := by
    have := (heap_setCell_at (i := 3) (heap_setCell_at (i := 3) (heap_setCell_at (i := 1) HS5.out (.string u.to)) (.int .i64 u.ep)) (.int .i64 (u.ep + 1)))
    refine (show _ = _ from this).trans ?_
    simp only [Span.blk, List.setIfInBounds_toArray, List.set_cons_zero, List.set_cons_succ]
  have hA6 := (hon.block _ (lt_of_some HA5.out) (by show ¬ (_ = w3.heap.size); omega)).trans HA5.out
  have hQ6 := (hon.block _ (lt_of_some HQ5.out) (by show ¬ (_ = w3.heap.size); omega)).trans HQ5.out
  have hZ6 := (hon.block _ (lt_of_some HZ5.out) (by show ¬ (_ = w3.heap.size); omega)).trans HZ5.out
  have hB6 := hon.below HB5.out (fun k hk => by omega) HB5.out.size
  generalize (((wt.setCell ⟨w3.heap.size, 1, none⟩ (.string u.to)).setCell ⟨w3.heap.size, 3, none⟩ (.int .i64 u.ep)).setCell ⟨w3.heap.size, 3, none⟩ (.int .i64 (u.ep + 1))) = w6 at *
  clear m0 m1 m2 m3 m4 m5 m6 m7 m8 m9 m10 mlt q0 q1 q2 q3 q4 q5 q6 q7 qlt s0 s1 s2 s3 s4 slt t0 t1 t2 t3 t4 tlt fs0 fs1 fs2 fs3 fs4 fq1 fa2 hon
  obtain ⟨m0, m1, m2, m3, m4, m5, m6, m7, m8, m9, m10, mlt⟩ := map_cells hA6
  obtain ⟨t00, t01, t02, t03, t04, t0lt⟩ := span_blk hS5n
  have HA6 := Lib.hid hA6; have HQ6 := Lib.hid hQ6; have HZ6 := Lib.hid hZ6; have HB6 := Lib.hid hB6
  have hl6 := lt_of_some hA6
  clear hA6 hQ6 hZ6 hB6 hl1 hl3 hS5n
  go_upto_region 35 with (go_at_call 46
                          have hb6 : Below w.heap.size w (w6.alloc (.cells #[.string s.fr, .string u.to, .int .i64 s.sh, .int .i64 (u.ep + 1), .int .i64 s.gr] 50)) := HB6.out.trans ((al _).mono HB6.out.size)
                          refine (changed_at _ (some ⟨b, off, none⟩) cap a.sp k (k + 2) _ (by omega) (some ⟨w6.heap.size, 0, none⟩) _ _ [(⟨s.fr, u.to, s.sh, u.ep + 1, s.gr⟩ : Span)] rfl (HI.out.below hb6).row (rowAt_one (l := Span.cells (⟨s.fr, u.to, s.sh, u.ep + 1, s.gr⟩ : Span)) (heap_alloc_new w6 _) (by simp)) (by omega) (by omega) (by omega) h16 (by simp) HI.out.ncap HI.out.cmax).mono ?_
                          rintro e w9 ⟨A9, cap9, n9, hn9, rfl, hO9, hb9⟩
                          rw [show a.sp.take k ++ [(⟨s.fr, u.to, s.sh, u.ep + 1, s.gr⟩ : Span)] ++ a.sp.drop (k + 2) = (a.sp.take k ++ (⟨s.fr, u.to, s.sh, u.ep + 1, s.gr⟩ : Span) :: a.sp.drop (k + 2)) by simp] at hn9 hO9
                          have HN9 := Lib.hid hn9
                          have hb69 : Below w6.heap.size w6 w9 := (al _).trans (hb9.mono (by simp))
                          have hA9 := blk_below hb69 (lt_of_some HA6.out) HA6.out
                          have HQ9 := Lib.hid (blk_below hb69 (lt_of_some HQ6.out) HQ6.out)
                          have HZ9 := Lib.hid (blk_below hb69 (lt_of_some HZ6.out) HZ6.out)
                          have HB9 := Lib.hid (HB6.out.trans (hb69.mono HB6.out.size))
                          have HO9 := Lib.hid (own_base (base' := w6.heap.size) hO9 (by simp))
                          have n2 := (map_cells hA9).2.2.1
                          have nlt := lt_of_some hA9
                          have nf2 := map_frz hA9 2
                          have HA9 := Lib.hid hA9
                          clear hb6 hO9 hb9 hb69 hA9 hn9)
  have hl1 := Hl1.out; have hl3 := Hl3.out
  have hlz := lt_of_some HZ6.out
  have hlq := lt_of_some HQ6.out
  have hA10 : (w9.setCell ⟨w.heap.size, 2, none⟩ (.slice A9 n9 cap9)).heap[w.heap.size]? = some (Atl.blk { a with sp := (a.sp.take k ++ (⟨s.fr, u.to, s.sh, u.ep + 1, s.gr⟩ : Span) :: a.sp.drop (k + 2)), plan := zeroP } (.slice A9 n9 cap9)) := by
    have := heap_setCell_at (i := 2) HA9.out (.slice A9 n9 cap9)
    refine (show _ = _ from this).trans ?_
    simp only [Atl.blk, List.setIfInBounds_toArray, List.set_cons_zero, List.set_cons_succ]
  have ho10 := only_setCell w9 ⟨w.heap.size, 2, none⟩ (.slice A9 n9 cap9)
  have hQ10 := (ho10.block _ (lt_of_some HQ9.out) (by show ¬ _ = w.heap.size; omega)).trans HQ9.out
  have hZ10 := (ho10.block _ (lt_of_some HZ9.out) (by show ¬ _ = w.heap.size; omega)).trans HZ9.out
  have hB10 := ho10.below HB9.out (fun k hk => by have hk : k = w.heap.size := hk; omega) HB9.out.size
  have hO10 := own_only HO9.out ho10 (fun k hk he => by have := (HO9.out.lt k hk).1; have he : k = w.heap.size := he; omega)
  generalize w9.setCell ⟨w.heap.size, 2, none⟩ (.slice A9 n9 cap9) = w10 at *
  clear m0 m1 m2 m3 m4 m5 m6 m7 m8 m9 m10 mlt n2 nlt nf2 ho10
  obtain ⟨q0, q1, q2, q3, q4, q5, q6, q7, qlt⟩ := plan_blk hQ10
  have fq1 := fz_blk hQ10 1
  have HA10 := Lib.hid hA10; have HQ10 := Lib.hid hQ10; have HZ10 := Lib.hid hZ10; have HB10 := Lib.hid hB10; have HO10 := Lib.hid hO10
  have Hlz := Lib.hid hlz; have Hlq := Lib.hid hlq
  clear hA10 hQ10 hZ10 hB10 hO10 hl1 hl3 hlz hlq
  refine wp_region_lit ?_
  refine wpList_load26 rfl (.tmp 2) rfl (w.heap.size) rfl HA10.out ?_
  simp only [Act.put, List.setIfInBounds_toArray, List.set_cons_zero, List.set_cons_succ]
  refine wpList_store26 rfl (.tmp 4) (.tmp 132) rfl (w.heap.size + 1) rfl (m := { a with sp := (a.sp.take k ++ (⟨s.fr, u.to, s.sh, u.ep + 1, s.gr⟩ : Span) :: a.sp.drop (k + 2)), plan := zeroP }) (v := (.slice A9 n9 cap9)) (m0 := zeroA) (v0 := nilV) rfl rfl HZ10.out ?_
  intro w99 h9 ho9
  simp only [Act.put, List.setIfInBounds_toArray, List.set_cons_zero, List.set_cons_succ]
  go_wp2
  refine bodyPost_ret (results26 rfl _ _ (w.heap.size + 1) rfl h9) rfl ?_
  have hB99 := ho9.below HB10.out (fun k hk => by omega) HB10.out.size
  have hO99 := own_only HO10.out ho9 (fun k hk he => by have := (HO10.out.lt k hk).1; have := Hlz.out; omega)
  exact ⟨A9, cap9, by simp [HN9.out, Atl.val], HI.out.respan (by rw [← HN9.out]; exact hO99) (by
    intro t ht
    simp only [List.mem_append, List.mem_cons] at ht
    rcases ht with ht | ht | ht
    · exact HI.out.sz t (List.mem_of_mem_take ht)
    · rw [ht]; exact HI.out.sz u (by rw [← hu]; exact List.getElem_mem hk5)
    · exact HI.out.sz t (List.mem_of_mem_drop ht)) zeroP (by decide) a.last, hB99⟩
set_option maxRecDepth 100000 in
set_option maxHeartbeats 4000000 in
theorem rAdvance_join2 (w : World) (A : Option Addr) (cap : Nat) (a : Atl) (h : MapIn w A cap a) (hm : tr (MapOk a) = true) (k : Nat) (s : Span) (hk : k < a.sp.length) (hs : a.sp[k] = s) (hp : place a.sp a.plan.shard = (k : Int)) (he1 : 1 ≤ s.ep) (he2 : s.ep ≤ 1099511627776) (h16' : a.sp.length ≤ 16) (u : Span) (hk5 : k + 1 < a.sp.length) (hu : a.sp[k+1] = u) (hu1 : 1 ≤ u.ep) (hu2 : u.ep ≤ 1099511627776) (b0' : (a.plan.kind == 0) = false) (b1' : (a.plan.phase == 1) = true) (c1 : (a.plan.kind == 1) = false) (c2 : (a.plan.kind == 2) = false) (c3 : (a.plan.kind == 3) = true) (gt : ¬ s.ep < u.ep) :
    Calls Try.prog 18 #[a.val (.slice A a.sp.length cap), .int .i64 1] w fun e w' => ∃ A' cap', e = .returned (.tuple #[{ a with sp := (a.sp.take k ++ (⟨s.fr, u.to, s.sh, s.ep + 1, s.gr⟩ : Span) :: a.sp.drop (k + 2)), plan := zeroP }.val (.slice A' { a with sp := (a.sp.take k ++ (⟨s.fr, u.to, s.sh, s.ep + 1, s.gr⟩ : Span) :: a.sp.drop (k + 2)), plan := zeroP }.sp.length cap'), .int .i64 0]) ∧ MapIn w' A' cap' { a with sp := (a.sp.take k ++ (⟨s.fr, u.to, s.sh, s.ep + 1, s.gr⟩ : Span) :: a.sp.drop (k + 2)), plan := zeroP } ∧ Below w.heap.size w w' := by
  have hck := fun w h => rCheck_any w A cap a h
  rw [hm] at hck
  have hl3 : a.sp.length * 56 ≤ 140737488355328 := by have := (of_tr hm).2.2.2.1.1; omega
  have Hck := Lib.hid hck; have HI := Lib.hid h
  clear hck h hm
  have Hb0' := Lib.hid b0'
  have Hb1' := Lib.hid b1'
  have Hc1 := Lib.hid c1
  have Hc2 := Lib.hid c2
  have Hc3 := Lib.hid c3
  have Hgt := Lib.hid gt
  clear b0' b1' c1 c2 c3 gt
  obtain ⟨b, off, rfl, hbl, _, _, _, _, _⟩ := span_cells HI.out.row k hk
  have Hp := Lib.hid hp; clear hp
  have hk1 : (0 : Int) ≤ (k : Int) := by omega
  have hk2 : (k : Int) < (a.sp.length : Int) := by omega
  have h16 : a.sp.length ≤ 16 := h16'
  have hw1 : IntKind.i64.wrap ((k : Int) + 1) = (k : Int) + 1 := IntWalk.i64_in _ (by omega)
  have hw4 : IntKind.i64.wrap (u.ep + 1) = u.ep + 1 := IntWalk.i64_in _ (by omega)
  have hk3 : (0 : Int) ≤ (k : Int) + 1 := by omega
  have hk4 : ((k : Int) + 1).toNat = k + 1 := by omega
  have hk6 : (k : Int) + 1 < (a.sp.length : Int) := by omega
  have hw2 : IntKind.i64.wrap ((k : Int) + 2) = (k : Int) + 2 := IntWalk.i64_in _ (by omega)
  have hw3 : IntKind.i64.wrap (s.ep + 1) = s.ep + 1 := IntWalk.i64_in _ (by omega)
  go_enter Try.func18, Try.ntmps18
  go_upto_region 1 with fail
  have hat := al2_at w (a.blk (.slice (some ⟨b, off, none⟩) a.sp.length cap)) (zeroA.blk nilV)
  change Code.wp _ _ _ _ ((w.alloc (a.blk (.slice (some ⟨b, off, none⟩) a.sp.length cap))).alloc (zeroA.blk nilV))
  generalize (w.alloc (a.blk (.slice (some ⟨b, off, none⟩) a.sp.length cap))).alloc (zeroA.blk nilV) = w0 at *
  have HA0 := Lib.hid hat.1; have HZ0 := Lib.hid hat.2.1; have HB0 := Lib.hid hat.2.2
  clear hat
  refine wp_region_lit ?_
  refine wpList_load26 rfl (.tmp 2) rfl (w.heap.size) rfl HA0.out ?_
  simp only [Act.put, List.setIfInBounds_toArray, List.set_cons_zero, List.set_cons_succ]
  go_upto_region 3 with (go_at_call 39
                         refine (Hck.out _ (HI.out.below HB0.out)).mono ?_
                         rintro e w1 ⟨rfl, hb1⟩
                         have HA1 := Lib.hid (blk_below hb1 (lt_of_some HA0.out) HA0.out)
                         have HZ1 := Lib.hid (blk_below hb1 (lt_of_some HZ0.out) HZ0.out)
                         have HB1 := Lib.hid (HB0.out.trans (hb1.mono HB0.out.size))
                         clear hb1)
  refine wp_region_lit ?_
  refine wpList_step (fun K hK => ?_)
  go_simp
  refine hK _ _ ?_
  clear hK K
  refine wpList_loadPlan rfl (.tmp 15) rfl w.heap.size rfl HA1.out ?_
  simp only [Act.put, List.setIfInBounds_toArray, List.set_cons_zero, List.set_cons_succ]
  refine wpList_step (fun K hK => ?_)
  go_simp
  refine hK _ _ ?_
  clear hK K
  refine wpList_store24 rfl (.tmp 6) (.tmp 16) rfl w1.heap.size rfl (p := a.plan) (p0 := zeroP) rfl (heap_alloc_new w1 _) ?_
  intro w2 hQ2 ho2
  simp only [Act.put, List.setIfInBounds_toArray, List.set_cons_zero, List.set_cons_succ]
  have hb2 : Below w1.heap.size w1 w2 := ho2.below (al _) (fun k hk => by omega) (by simp)
  have hA2 := blk_below hb2 (lt_of_some HA1.out) HA1.out
  have HZ2 := Lib.hid (blk_below hb2 (lt_of_some HZ1.out) HZ1.out)
  have HB2 := Lib.hid (HB1.out.trans (hb2.mono HB1.out.size))
  have Hl1 := Lib.hid (lt_of_some HZ1.out)
  obtain ⟨m0, m1, m2, m3, m4, m5, m6, m7, m8, m9, m10, mlt⟩ := map_cells hA2
  obtain ⟨q0, q1, q2, q3, q4, q5, q6, q7, qlt⟩ := plan_blk hQ2
  have HA2 := Lib.hid hA2; have HQ2 := Lib.hid hQ2
  clear hb2 hA2 hQ2 ho2
  have b0' := Hb0'.out
  have b1' := Hb1'.out
  have c1 := Hc1.out
  have c2 := Hc2.out
  have c3 := Hc3.out
  have gt := Hgt.out
  go_upto_region 6 with fail
  refine wp_region_lit ?_
  refine wpList_load26 rfl (.tmp 2) rfl (w.heap.size) rfl HA2.out ?_
  simp only [Act.put, List.setIfInBounds_toArray, List.set_cons_zero, List.set_cons_succ]
  go_upto_region 7 with (go_at_call 32
                         refine (rPlace_any _ (some ⟨b, off, none⟩) cap a _ (HI.out.below HB2.out).row (by omega)).mono ?_
                         rintro e w3 ⟨rfl, hb3⟩
                         rw [Hp.out]
                         have HA3 := Lib.hid (blk_below hb3 (lt_of_some HA2.out) HA2.out)
                         have HQ3 := Lib.hid (blk_below hb3 (lt_of_some HQ2.out) HQ2.out)
                         have HZ3 := Lib.hid (blk_below hb3 (lt_of_some HZ2.out) HZ2.out)
                         have HB3 := Lib.hid (HB2.out.trans (hb3.mono HB2.out.size))
                         clear hb3)
  clear m0 m1 m2 m3 m4 m5 m6 m7 m8 m9 m10 mlt q0 q1 q2 q3 q4 q5 q6 q7 qlt
  obtain ⟨m0, m1, m2, m3, m4, m5, m6, m7, m8, m9, m10, mlt⟩ := map_cells HA3.out
  obtain ⟨_, _, he, blt, p0, p1, p2, p3, p4⟩ := span_cells (HI.out.below HB3.out).row k hk
  injection he with he
  injection he with hx1 hx2
  subst hx1; subst hx2
  rw [hs] at p0 p1 p2 p3 p4
  go_upto_region 8 with fail
  change Code.wp _ _ _ _ (w3.alloc s.blk)
  have hS4 := heap_alloc_new w3 s.blk
  have hA4 := blk_below (al (w := w3) s.blk) (lt_of_some HA3.out) HA3.out
  have hQ4 := blk_below (al (w := w3) s.blk) (lt_of_some HQ3.out) HQ3.out
  have hZ4 := blk_below (al (w := w3) s.blk) (lt_of_some HZ3.out) HZ3.out
  have hB4 := HB3.out.trans ((al (w := w3) s.blk).mono HB3.out.size)
  have Hl3 := Lib.hid (lt_of_some HQ3.out)
  generalize w3.alloc s.blk = w4 at *
  clear m0 m1 m2 m3 m4 m5 m6 m7 m8 m9 m10 mlt p0 p1 p2 p3 p4
  refine wp_region_lit ?_
  refine wpList_step (fun K hK => ?_)
  go_simp
  refine hK _ _ ?_
  clear hK K
  refine wpList_step (fun K hK => ?_)
  go_simp
  refine hK _ _ ?_
  clear hK K
  refine wpList_store24_mid rfl (.tmp 37) (.tmp 36) rfl w.heap.size rfl (m := a) (q := zeroP) rfl hA4 ?_
  intro w5 hA5 ho5
  simp only [Act.put, List.setIfInBounds_toArray, List.set_cons_zero, List.set_cons_succ]
  have hl1 := Hl1.out
  have hl3 := Hl3.out
  have hlA := lt_of_some HA3.out
  have hQ5 := (ho5.block _ (lt_of_some hQ4) (by show ¬ _ = _; omega)).trans hQ4
  have hS5 := (ho5.block _ (lt_of_some hS4) (by show ¬ _ = _; omega)).trans hS4
  have hZ5 := (ho5.block _ (lt_of_some hZ4) (by show ¬ _ = _; omega)).trans hZ4
  have hB5 := ho5.below hB4 (fun k hk => by have hk : k = w.heap.size := hk; omega) hB4.size
  clear hl1 hl3 hlA
  obtain ⟨m0, m1, m2, m3, m4, m5, m6, m7, m8, m9, m10, mlt⟩ := map_cells hA5
  obtain ⟨q0, q1, q2, q3, q4, q5, q6, q7, qlt⟩ := plan_blk hQ5
  obtain ⟨s0, s1, s2, s3, s4, slt⟩ := span_blk hS5
  have fs0 := fz_blk hS5 0; have fs1 := fz_blk hS5 1; have fs2 := fz_blk hS5 2; have fs3 := fz_blk hS5 3; have fs4 := fz_blk hS5 4; have fq1 := fz_blk hQ5 1; have fa2 := map_frz hA5 2
  have HA5 := Lib.hid hA5; have HQ5 := Lib.hid hQ5; have HS5 := Lib.hid hS5; have HZ5 := Lib.hid hZ5; have HB5 := Lib.hid hB5
  clear hA4 hQ4 hZ4 hS4 hB4 hA5 hQ5 hS5 hZ5 hB5 ho5
  obtain ⟨_, _, he, blt5, v0, v1, v2, v3, v4⟩ := span_cells (HI.out.below HB5.out).row (k + 1) hk5
  injection he with he
  injection he with hx1 hx2
  subst hx1; subst hx2
  rw [hu] at v0 v1 v2 v3 v4
  go_upto_region 30 with fail
  change Code.wp _ _ _ _ (w5.alloc u.blk)
  have hT6 := heap_alloc_new w5 u.blk
  have hb56 := al (w := w5) u.blk
  have hlS := lt_of_some HS5.out
  have hA6 := blk_below hb56 (lt_of_some HA5.out) HA5.out
  have hQ6 := blk_below hb56 (lt_of_some HQ5.out) HQ5.out
  have hS6 := blk_below hb56 (lt_of_some HS5.out) HS5.out
  have hZ6 := blk_below hb56 (lt_of_some HZ5.out) HZ5.out
  have hB6 := HB5.out.trans (hb56.mono HB5.out.size)
  generalize w5.alloc u.blk = wt at *
  clear m0 m1 m2 m3 m4 m5 m6 m7 m8 m9 m10 mlt q0 q1 q2 q3 q4 q5 q6 q7 qlt s0 s1 s2 s3 s4 slt fs0 fs1 fs2 fs3 fs4 fq1 fa2 hb56 v0 v1 v2 v3 v4
  obtain ⟨m0, m1, m2, m3, m4, m5, m6, m7, m8, m9, m10, mlt⟩ := map_cells hA6
  obtain ⟨q0, q1, q2, q3, q4, q5, q6, q7, qlt⟩ := plan_blk hQ6
  obtain ⟨s0, s1, s2, s3, s4, slt⟩ := span_blk hS6
  obtain ⟨t0, t1, t2, t3, t4, tlt⟩ := span_blk hT6
  have fs0 := fz_blk hS6 0; have fs1 := fz_blk hS6 1; have fs2 := fz_blk hS6 2; have fs3 := fz_blk hS6 3; have fs4 := fz_blk hS6 4; have fq1 := fz_blk hQ6 1; have fa2 := map_frz hA6 2
  have hn1 : w3.heap.size ≠ w5.heap.size := by omega
  have hn2 : w5.heap.size ≠ w3.heap.size := Ne.symm hn1
  clear HA5 HQ5 HS5 HZ5 HB5
  have HA5 := Lib.hid hA6; have HQ5 := Lib.hid hQ6; have HS5 := Lib.hid hS6; have HZ5 := Lib.hid hZ6; have HB5 := Lib.hid hB6
  clear hA6 hQ6 hS6 hT6 hZ6 hB6
  go_upto_region 34 with fail
  have hl1 := Hl1.out; have hl3 := Hl3.out
  have hon : Only (fun k => k = w3.heap.size) wt ((wt.setCell ⟨w3.heap.size, 1, none⟩ (.string u.to)).setCell ⟨w3.heap.size, 3, none⟩ (.int .i64 (s.ep + 1))) := (((only_setCell wt ⟨w3.heap.size, 1, none⟩ (.string u.to)).mono (fun k (hk : k = w3.heap.size) => (show k = w3.heap.size by omega))).trans ((only_setCell (wt.setCell ⟨w3.heap.size, 1, none⟩ (.string u.to)) ⟨w3.heap.size, 3, none⟩ (.int .i64 (s.ep + 1))).mono (fun k (hk : k = w3.heap.size) => (show k = w3.heap.size by omega))) (fun _ _ h => h))
  have hS5n : ((wt.setCell ⟨w3.heap.size, 1, none⟩ (.string u.to)).setCell ⟨w3.heap.size, 3, none⟩ (.int .i64 (s.ep + 1))).heap[w3.heap.size]? = some (Span.blk (⟨s.fr, u.to, s.sh, s.ep + 1, s.gr⟩ : Span)) := by
    have := (heap_setCell_at (i := 3) (heap_setCell_at (i := 1) HS5.out (.string u.to)) (.int .i64 (s.ep + 1)))
    refine (show _ = _ from this).trans ?_
    simp only [Span.blk, List.setIfInBounds_toArray, List.set_cons_zero, List.set_cons_succ]
  have hA6 := (hon.block _ (lt_of_some HA5.out) (by show ¬ (_ = w3.heap.size); omega)).trans HA5.out
  have hQ6 := (hon.block _ (lt_of_some HQ5.out) (by show ¬ (_ = w3.heap.size); omega)).trans HQ5.out
  have hZ6 := (hon.block _ (lt_of_some HZ5.out) (by show ¬ (_ = w3.heap.size); omega)).trans HZ5.out
  have hB6 := hon.below HB5.out (fun k hk => by omega) HB5.out.size
  generalize ((wt.setCell ⟨w3.heap.size, 1, none⟩ (.string u.to)).setCell ⟨w3.heap.size, 3, none⟩ (.int .i64 (s.ep + 1))) = w6 at *
  clear m0 m1 m2 m3 m4 m5 m6 m7 m8 m9 m10 mlt q0 q1 q2 q3 q4 q5 q6 q7 qlt s0 s1 s2 s3 s4 slt t0 t1 t2 t3 t4 tlt fs0 fs1 fs2 fs3 fs4 fq1 fa2 hon
  obtain ⟨m0, m1, m2, m3, m4, m5, m6, m7, m8, m9, m10, mlt⟩ := map_cells hA6
  obtain ⟨t00, t01, t02, t03, t04, t0lt⟩ := span_blk hS5n
  have HA6 := Lib.hid hA6; have HQ6 := Lib.hid hQ6; have HZ6 := Lib.hid hZ6; have HB6 := Lib.hid hB6
  have hl6 := lt_of_some hA6
  clear hA6 hQ6 hZ6 hB6 hl1 hl3 hS5n
  go_upto_region 35 with (go_at_call 46
                          have hb6 : Below w.heap.size w (w6.alloc (.cells #[.string s.fr, .string u.to, .int .i64 s.sh, .int .i64 (s.ep + 1), .int .i64 s.gr] 50)) := HB6.out.trans ((al _).mono HB6.out.size)
                          refine (changed_at _ (some ⟨b, off, none⟩) cap a.sp k (k + 2) _ (by omega) (some ⟨w6.heap.size, 0, none⟩) _ _ [(⟨s.fr, u.to, s.sh, s.ep + 1, s.gr⟩ : Span)] rfl (HI.out.below hb6).row (rowAt_one (l := Span.cells (⟨s.fr, u.to, s.sh, s.ep + 1, s.gr⟩ : Span)) (heap_alloc_new w6 _) (by simp)) (by omega) (by omega) (by omega) h16 (by simp) HI.out.ncap HI.out.cmax).mono ?_
                          rintro e w9 ⟨A9, cap9, n9, hn9, rfl, hO9, hb9⟩
                          rw [show a.sp.take k ++ [(⟨s.fr, u.to, s.sh, s.ep + 1, s.gr⟩ : Span)] ++ a.sp.drop (k + 2) = (a.sp.take k ++ (⟨s.fr, u.to, s.sh, s.ep + 1, s.gr⟩ : Span) :: a.sp.drop (k + 2)) by simp] at hn9 hO9
                          have HN9 := Lib.hid hn9
                          have hb69 : Below w6.heap.size w6 w9 := (al _).trans (hb9.mono (by simp))
                          have hA9 := blk_below hb69 (lt_of_some HA6.out) HA6.out
                          have HQ9 := Lib.hid (blk_below hb69 (lt_of_some HQ6.out) HQ6.out)
                          have HZ9 := Lib.hid (blk_below hb69 (lt_of_some HZ6.out) HZ6.out)
                          have HB9 := Lib.hid (HB6.out.trans (hb69.mono HB6.out.size))
                          have HO9 := Lib.hid (own_base (base' := w6.heap.size) hO9 (by simp))
                          have n2 := (map_cells hA9).2.2.1
                          have nlt := lt_of_some hA9
                          have nf2 := map_frz hA9 2
                          have HA9 := Lib.hid hA9
                          clear hb6 hO9 hb9 hb69 hA9 hn9)
  have hl1 := Hl1.out; have hl3 := Hl3.out
  have hlz := lt_of_some HZ6.out
  have hlq := lt_of_some HQ6.out
  have hA10 : (w9.setCell ⟨w.heap.size, 2, none⟩ (.slice A9 n9 cap9)).heap[w.heap.size]? = some (Atl.blk { a with sp := (a.sp.take k ++ (⟨s.fr, u.to, s.sh, s.ep + 1, s.gr⟩ : Span) :: a.sp.drop (k + 2)), plan := zeroP } (.slice A9 n9 cap9)) := by
    have := heap_setCell_at (i := 2) HA9.out (.slice A9 n9 cap9)
    refine (show _ = _ from this).trans ?_
    simp only [Atl.blk, List.setIfInBounds_toArray, List.set_cons_zero, List.set_cons_succ]
  have ho10 := only_setCell w9 ⟨w.heap.size, 2, none⟩ (.slice A9 n9 cap9)
  have hQ10 := (ho10.block _ (lt_of_some HQ9.out) (by show ¬ _ = w.heap.size; omega)).trans HQ9.out
  have hZ10 := (ho10.block _ (lt_of_some HZ9.out) (by show ¬ _ = w.heap.size; omega)).trans HZ9.out
  have hB10 := ho10.below HB9.out (fun k hk => by have hk : k = w.heap.size := hk; omega) HB9.out.size
  have hO10 := own_only HO9.out ho10 (fun k hk he => by have := (HO9.out.lt k hk).1; have he : k = w.heap.size := he; omega)
  generalize w9.setCell ⟨w.heap.size, 2, none⟩ (.slice A9 n9 cap9) = w10 at *
  clear m0 m1 m2 m3 m4 m5 m6 m7 m8 m9 m10 mlt n2 nlt nf2 ho10
  obtain ⟨q0, q1, q2, q3, q4, q5, q6, q7, qlt⟩ := plan_blk hQ10
  have fq1 := fz_blk hQ10 1
  have HA10 := Lib.hid hA10; have HQ10 := Lib.hid hQ10; have HZ10 := Lib.hid hZ10; have HB10 := Lib.hid hB10; have HO10 := Lib.hid hO10
  have Hlz := Lib.hid hlz; have Hlq := Lib.hid hlq
  clear hA10 hQ10 hZ10 hB10 hO10 hl1 hl3 hlz hlq
  refine wp_region_lit ?_
  refine wpList_load26 rfl (.tmp 2) rfl (w.heap.size) rfl HA10.out ?_
  simp only [Act.put, List.setIfInBounds_toArray, List.set_cons_zero, List.set_cons_succ]
  refine wpList_store26 rfl (.tmp 4) (.tmp 132) rfl (w.heap.size + 1) rfl (m := { a with sp := (a.sp.take k ++ (⟨s.fr, u.to, s.sh, s.ep + 1, s.gr⟩ : Span) :: a.sp.drop (k + 2)), plan := zeroP }) (v := (.slice A9 n9 cap9)) (m0 := zeroA) (v0 := nilV) rfl rfl HZ10.out ?_
  intro w99 h9 ho9
  simp only [Act.put, List.setIfInBounds_toArray, List.set_cons_zero, List.set_cons_succ]
  go_wp2
  refine bodyPost_ret (results26 rfl _ _ (w.heap.size + 1) rfl h9) rfl ?_
  have hB99 := ho9.below HB10.out (fun k hk => by omega) HB10.out.size
  have hO99 := own_only HO10.out ho9 (fun k hk he => by have := (HO10.out.lt k hk).1; have := Hlz.out; omega)
  exact ⟨A9, cap9, by simp [HN9.out, Atl.val], HI.out.respan (by rw [← HN9.out]; exact hO99) (by
    intro t ht
    simp only [List.mem_append, List.mem_cons] at ht
    rcases ht with ht | ht | ht
    · exact HI.out.sz t (List.mem_of_mem_take ht)
    · rw [ht]; exact HI.out.sz u (by rw [← hu]; exact List.getElem_mem hk5)
    · exact HI.out.sz t (List.mem_of_mem_drop ht)) zeroP (by decide) a.last, hB99⟩
end Go.Proofs.Ytimondpollbdfaa
