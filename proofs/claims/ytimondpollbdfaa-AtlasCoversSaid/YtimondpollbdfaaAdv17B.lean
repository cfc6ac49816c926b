/- What is proved: what a phase that is done makes of a map: the program's Advance, where a shard is parted. -/
import Derived.Test.YtimondpollbdfaaAdv17
import Derived.Test.YtimondpollbdfaaAdv18
import Derived.Test.YtimondpollbdfaaIns
set_option linter.unusedVariables false
set_option linter.unusedSimpArgs false
namespace Go.Proofs.Ytimondpollbdfaa
open Go.RowKit
attribute [local go_sem] Span.val Atl.val Plan.val

theorem set_parts (l : List Span) (k : Nat) (x : Span) (hk : k < l.length) : l.set k x = l.take k ++ x :: l.drop (k + 1) := by
  rw [List.set_eq_take_append_cons_drop, if_pos hk]
theorem split_list (l : List Span) (k : Nat) (x y : Span) (hk : k < l.length) : (l.set k x).take (k + 1) ++ y :: (l.set k x).drop (k + 1) = l.take k ++ x :: y :: l.drop (k + 1) := by
  have h1 : (l.take k).length = k := by rw [List.length_take]; omega
  rw [set_parts l k x hk]
  have e1 : (l.take k ++ x :: l.drop (k + 1)).take (k + 1) = l.take k ++ [x] := by
    rw [List.take_append, h1, List.take_of_length_le (by omega), show k + 1 - k = 1 by omega]
    rfl
  have e2 : (l.take k ++ x :: l.drop (k + 1)).drop (k + 1) = l.drop (k + 1) := by
    rw [List.drop_append, h1, List.drop_of_length_le (by omega), show k + 1 - k = 1 by omega]
    rfl
  rw [e1, e2, List.append_assoc]
  rfl
theorem insert_at (w : World) (B : Nat) (A : Option Addr) (cap i n : Nat) (x : Int) (hx : x = (i : Int)) (l : List Span) (hln : n = l.length) (v : Span) (vb : Nat) (hown : w.ownsRow B 50 5 (.slice A n cap) n (l.map Span.cells).flatten) (h0 : 0 < n) (hi : i ≤ n) (hn : n ≤ 16) (hv : w.heap[vb]? = some v.blk) (hne : (Value.slice A n cap).ownBlock ≠ some vb) (hB : B ≤ w.heap.size) (r : List Span) (hr : l.take i ++ v :: l.drop i = r) :
    Calls Try.prog 44 #[.slice A n cap, .int .i64 x, .slice (some ⟨vb, 0, none⟩) 1 1] w fun e w' => ∃ A' cap' n', n' = r.length ∧ e = .returned (.slice A' n' cap') ∧
      w'.ownsRow B 50 5 (.slice A' n' cap') n' (r.map Span.cells).flatten ∧ Only (fun k => (Value.slice A n cap).ownBlock = some k) w w' := by
  subst hln; subst hr
  refine (insert_any w B A cap i x hx l v vb hown h0 hi hn hv hne hB).mono ?_
  rintro e w' ⟨A', cap', h1, h2, h3⟩
  refine ⟨A', cap', _, ?_, h1, h2, h3⟩
  simp only [List.length_append, List.length_take, List.length_cons, List.length_drop]; omega
set_option maxRecDepth 100000 in
set_option maxHeartbeats 4000000 in
theorem advance_split (w : World) (A : Option Addr) (cap : Nat) (a : Atl) (h : MapIn w A cap a) (hm : tr (MapOk a) = true) (k : Nat) (s : Span) (hk : k < a.sp.length) (hs : a.sp[k] = s) (hp : place a.sp a.plan.shard = (k : Int)) (he1 : 1 ≤ s.ep) (he2 : s.ep ≤ 1099511627776) (h16 : a.sp.length ≤ 16) (b0' : (a.plan.kind == 0) = false) (b1' : (a.plan.phase == 1) = true) (c1 : (a.plan.kind == 1) = false) (c2 : (a.plan.kind == 2) = true) (c3 : (a.plan.kind == 3) = false) :
    Calls Try.prog 17 #[a.val (.slice A a.sp.length cap), .int .i64 1] w fun e w' => ∃ A' cap', e = .returned (.tuple #[{ a with sp := (a.sp.take k ++ (⟨s.fr, a.plan.key, s.sh, s.ep + 1, s.gr⟩ : Span) :: (⟨a.plan.key, s.to, a.plan.other, s.ep + 1, s.gr⟩ : Span) :: a.sp.drop (k + 1)), plan := zeroP }.val (.slice A' { a with sp := (a.sp.take k ++ (⟨s.fr, a.plan.key, s.sh, s.ep + 1, s.gr⟩ : Span) :: (⟨a.plan.key, s.to, a.plan.other, s.ep + 1, s.gr⟩ : Span) :: a.sp.drop (k + 1)), plan := zeroP }.sp.length cap'), .int .i64 0]) ∧ MapIn w' A' cap' { a with sp := (a.sp.take k ++ (⟨s.fr, a.plan.key, s.sh, s.ep + 1, s.gr⟩ : Span) :: (⟨a.plan.key, s.to, a.plan.other, s.ep + 1, s.gr⟩ : Span) :: a.sp.drop (k + 1)), plan := zeroP } ∧ Below w.heap.size w w' := by
  have hck := fun w h => check_any w A cap a h
  rw [hm] at hck
  have hl3 : a.sp.length * 56 ≤ 140737488355328 := by have := (of_tr hm).2.2.2.1.1; omega
  have Hck := Lib.hid hck; have HI := Lib.hid h
  clear hck h hm
  have Hb0' := Lib.hid b0'
  have Hb1' := Lib.hid b1'
  have Hc1 := Lib.hid c1
  have Hc2 := Lib.hid c2
  have Hc3 := Lib.hid c3
  clear b0' b1' c1 c2 c3
  have Hp := Lib.hid hp; clear hp
  have hk1 : (0 : Int) ≤ (k : Int) := by omega
  have hk2 : (k : Int) < (a.sp.length : Int) := by omega
  have hw3 : IntKind.i64.wrap (s.ep + 1) = s.ep + 1 := IntWalk.i64_in _ (by omega)
  have hw1 : IntKind.i64.wrap ((k : Int) + 1) = (k : Int) + 1 := IntWalk.i64_in _ (by omega)
  go_enter Try.func17, Try.ntmps17
  go_upto_region 1 with fail
  have hat := al2_at w (a.blk (.slice A a.sp.length cap)) (zeroA.blk nilV)
  change Code.wp _ _ _ _ ((w.alloc (a.blk (.slice A a.sp.length cap))).alloc (zeroA.blk nilV))
  generalize (w.alloc (a.blk (.slice A a.sp.length cap))).alloc (zeroA.blk nilV) = w0 at *
  have HA0 := Lib.hid hat.1; have HZ0 := Lib.hid hat.2.1; have HB0 := Lib.hid hat.2.2
  clear hat
  refine wp_region_lit ?_
  refine wpList_load26 rfl (.tmp 2) rfl (w.heap.size) rfl HA0.out ?_
  simp only [Act.put, List.setIfInBounds_toArray, List.set_cons_zero, List.set_cons_succ]
  go_upto_region 3 with (go_at_call 29
                         refine (Hck.out _ (HI.out.below HB0.out)).mono ?_
                         rintro e w1 ⟨rfl, hb1⟩
                         have HA1 := Lib.hid (blk_below hb1 (lt_of_some HA0.out) HA0.out)
                         have HZ1 := Lib.hid (blk_below hb1 (lt_of_some HZ0.out) HZ0.out)
                         have HB1 := Lib.hid (HB0.out.trans (hb1.mono HB0.out.size))
                         clear hb1)
  refine wp_region_lit ?_
  refine wpList_load26 rfl (.tmp 2) rfl (w.heap.size) rfl HA1.out ?_
  simp only [Act.put, List.setIfInBounds_toArray, List.set_cons_zero, List.set_cons_succ]
  refine wpList_step (fun K hK => ?_)
  go_simp
  go_at_call 40
  refine (copied_any _ A cap a (HI.out.below HB1.out) hl3).mono ?_
  rintro e w2 ⟨A', cap', rfl, hO2, hI2, hb2⟩
  refine hK _ _ ?_
  clear hK K
  have hA2 := blk_below hb2 (lt_of_some HA1.out) HA1.out
  have HZ2 := Lib.hid (blk_below hb2 (lt_of_some HZ1.out) HZ1.out)
  have HB2 := Lib.hid (HB1.out.trans (hb2.mono HB1.out.size))
  refine wpList_store26 rfl (.tmp 2) (.tmp 16) rfl w.heap.size rfl (m := a) (v := .slice A' a.sp.length cap') (m0 := a) (v0 := .slice A a.sp.length cap) rfl rfl hA2 ?_
  intro w3 hA3 ho3
  simp only [Act.put, List.setIfInBounds_toArray, List.set_cons_zero, List.set_cons_succ]
  have hs1 : w.heap.size + 1 < w1.heap.size := lt_of_some HZ1.out
  have HO3 := Lib.hid (own_only hO2 ho3 (fun k hk he => by have := (hO2.lt k hk).1; have he : k = w.heap.size := he; omega))
  have HZ3 := Lib.hid ((ho3.block _ (lt_of_some HZ2.out) (by show ¬ _ = _; omega)).trans HZ2.out)
  have HB3 := Lib.hid (ho3.below HB2.out (fun k hk => by have hk : k = w.heap.size := hk; omega) HB2.out.size)
  have HA3 := Lib.hid hA3
  clear hA2 hO2 hb2 hA3 ho3 hI2
  go_upto_region 4 with fail
  refine wp_region_lit ?_
  refine wpList_step (fun K hK => ?_)
  go_simp
  refine hK _ _ ?_
  clear hK K
  refine wpList_loadPlan rfl (.tmp 17) rfl w.heap.size rfl HA3.out ?_
  simp only [Act.put, List.setIfInBounds_toArray, List.set_cons_zero, List.set_cons_succ]
  refine wpList_step (fun K hK => ?_)
  go_simp
  refine hK _ _ ?_
  clear hK K
  refine wpList_store24 rfl (.tmp 6) (.tmp 18) rfl w3.heap.size rfl (p := a.plan) (p0 := zeroP) rfl (heap_alloc_new w3 _) ?_
  intro w4 hQ4 ho4
  simp only [Act.put, List.setIfInBounds_toArray, List.set_cons_zero, List.set_cons_succ]
  have hb4 : Below w3.heap.size w3 w4 := ho4.below (al _) (fun k hk => by omega) (by simp)
  have hA4 := blk_below hb4 (lt_of_some HA3.out) HA3.out
  have HZ4 := Lib.hid (blk_below hb4 (lt_of_some HZ3.out) HZ3.out)
  have HO4 := Lib.hid (own_only HO3.out (Only.of_below (F := fun _ => False) hb4) (fun _ _ h => h))
  have HB4 := Lib.hid (HB3.out.trans (hb4.mono HB3.out.size))
  obtain ⟨m0, m1, m2, m3, m4, m5, m6, m7, m8, m9, m10, mlt⟩ := map_cells hA4
  obtain ⟨q0, q1, q2, q3, q4, q5, q6, q7, qlt⟩ := plan_blk hQ4
  have HA4 := Lib.hid hA4; have HQ4 := Lib.hid hQ4
  have Hl3 := Lib.hid (lt_of_some HZ3.out)
  clear hb4 hA4 hQ4 ho4
  have b0' := Hb0'.out
  have b1' := Hb1'.out
  have c1 := Hc1.out
  have c2 := Hc2.out
  have c3 := Hc3.out
  go_upto_region 7 with fail
  refine wp_region_lit ?_
  refine wpList_load26 rfl (.tmp 2) rfl (w.heap.size) rfl HA4.out ?_
  simp only [Act.put, List.setIfInBounds_toArray, List.set_cons_zero, List.set_cons_succ]
  go_upto_region 8 with (go_at_call 41
                         refine (place_any _ A' cap' a _ (MapIn.ofOwn HI.out HO4.out).row (Nat.le_trans (MapIn.ofOwn HI.out HO4.out).ncap (MapIn.ofOwn HI.out HO4.out).cmax)).mono ?_
                         rintro e w5 ⟨rfl, hb5⟩
                         rw [Hp.out]
                         have HA5 := Lib.hid (blk_below hb5 (lt_of_some HA4.out) HA4.out)
                         have HQ5 := Lib.hid (blk_below hb5 (lt_of_some HQ4.out) HQ4.out)
                         have HZ5 := Lib.hid (blk_below hb5 (lt_of_some HZ4.out) HZ4.out)
                         have HO5 := Lib.hid (own_only HO4.out (Only.of_below (F := fun _ => False) hb5) (fun _ _ h => h))
                         have HB5 := Lib.hid (HB4.out.trans (hb5.mono HB4.out.size))
                         clear hb5)
  clear m0 m1 m2 m3 m4 m5 m6 m7 m8 m9 m10 mlt q0 q1 q2 q3 q4 q5 q6 q7 qlt
  obtain ⟨g, rfl, hg1, hg2⟩ := own_addr HO5.out (by omega)
  obtain ⟨m0, m1, m2, m3, m4, m5, m6, m7, m8, m9, m10, mlt⟩ := map_cells HA5.out
  go_upto_region 9 with fail
  refine wp_region_lit ?_
  refine wpList_step (fun K hK => ?_)
  go_simp
  refine hK _ _ ?_
  clear hK K
  refine wpList_step (fun K hK => ?_)
  go_simp
  refine hK _ _ ?_
  clear hK K
  refine wpList_store24_mid rfl (.tmp 38) (.tmp 37) rfl w.heap.size rfl (m := a) (q := zeroP) rfl HA5.out ?_
  intro w6 hA6 ho6
  simp only [Act.put, List.setIfInBounds_toArray, List.set_cons_zero, List.set_cons_succ]
  have hQ6 := (ho6.block _ (lt_of_some HQ5.out) (by show ¬ _ = _; have := Hl3.out; omega)).trans HQ5.out
  have HZ6 := Lib.hid ((ho6.block _ (lt_of_some HZ5.out) (by show ¬ _ = _; omega)).trans HZ5.out)
  have HO6 := Lib.hid (own_only HO5.out ho6 (fun k hk he => by have := (HO5.out.lt k hk).1; have he : k = w.heap.size := he; omega))
  have HB6 := Lib.hid (ho6.below HB5.out (fun k hk => by have hk : k = w.heap.size := hk; omega) HB5.out.size)
  have hg6 : g < w6.heap.size := Nat.lt_of_lt_of_le hg2 ho6.size
  clear m0 m1 m2 m3 m4 m5 m6 m7 m8 m9 m10 mlt
  obtain ⟨m0, m1, m2, m3, m4, m5, m6, m7, m8, m9, m10, mlt⟩ := map_cells hA6
  obtain ⟨q0, q1, q2, q3, q4, q5, q6, q7, qlt⟩ := plan_blk hQ6
  obtain ⟨p0, p1, p2, p3, p4⟩ := own_span HO6.out k hk
  rw [hs] at p0 p1 p2 p3 p4
  have hne : w.heap.size ≠ w3.heap.size := by have := Hl3.out; omega
  have hne2 : w3.heap.size ≠ w.heap.size := Ne.symm hne
  have hne3 : g ≠ w.heap.size := by omega
  have hne4 : w.heap.size ≠ g := by omega
  have HA6 := Lib.hid hA6; have HQ6 := Lib.hid hQ6
  clear hA6 hQ6 ho6
  have hs6 := HO6.out.frozenAt (k * 5 + 3)
  have HgQ := Lib.hid (show w3.heap.size ≠ g from fun h => by have h1 := HO3.out.lt g rfl; omega)
  go_upto_region 19 with fail
  go_upto_region 20 with fail
  have hOr := (HO6.out.stored (k * 5 + 3) (.int .i64 (s.ep + 1))).1
  rw [span_set a.sp k 3 s { s with ep := s.ep + 1 } (.int .i64 (s.ep + 1)) (by rw [List.getElem?_eq_getElem hk, hs]) (by omega) rfl] at hOr
  have hor := only_setCell w6 ⟨g, k * 5 + 3, none⟩ (.int .i64 (s.ep + 1))
  have hAr := (hor.block _ (lt_of_some HA6.out) (by show ¬ _ = g; omega)).trans HA6.out
  have hQr := (hor.block _ (lt_of_some HQ6.out) (by show ¬ _ = g; have := HgQ.out; omega)).trans HQ6.out
  have hZr := (hor.block _ (lt_of_some HZ6.out) (by show ¬ _ = g; omega)).trans HZ6.out
  have hBr := hor.below HB6.out (fun k hk => by have hk : k = g := hk; omega) HB6.out.size
  have hgr : g < (w6.setCell ⟨g, k * 5 + 3, none⟩ (.int .i64 (s.ep + 1))).heap.size := by simpa [World.setCell] using hg6
  generalize w6.setCell ⟨g, k * 5 + 3, none⟩ (.int .i64 (s.ep + 1)) = wr at *
  clear m0 m1 m2 m3 m4 m5 m6 m7 m8 m9 m10 mlt q0 q1 q2 q3 q4 q5 q6 q7 qlt p0 p1 p2 p3 p4 hs6 hor
  have hln : (a.sp.set k { s with ep := s.ep + 1 }).length = a.sp.length := by simp
  obtain ⟨p0, p1, p2, p3, p4⟩ := own_span (l := a.sp.set k { s with ep := s.ep + 1 }) (by rw [hln]; exact hOr) k (by rw [hln]; exact hk)
  simp only [List.getElem_set_self] at p0 p1 p2 p3 p4
  have HOr := Lib.hid hOr; have HAr := Lib.hid hAr; have HQr := Lib.hid hQr; have HZr := Lib.hid hZr; have HBr := Lib.hid hBr
  clear hOr hAr hQr hZr hBr
  go_upto_region 21 with fail
  change Code.wp _ _ _ _ (wr.alloc (Span.blk { s with ep := s.ep + 1 }))
  have hT := heap_alloc_new wr (Span.blk { s with ep := s.ep + 1 })
  have hbt := al (w := wr) (Span.blk { s with ep := s.ep + 1 })
  have hAt := blk_below hbt (lt_of_some HAr.out) HAr.out
  have hQt := blk_below hbt (lt_of_some HQr.out) HQr.out
  have hZt := blk_below hbt (lt_of_some HZr.out) HZr.out
  have HOt := Lib.hid (own_only HOr.out (Only.of_below (F := fun _ => False) hbt) (fun _ _ h => h))
  have HBt := Lib.hid (HBr.out.trans (hbt.mono HBr.out.size))
  have hlr := lt_of_some HQr.out
  have hlz := lt_of_some HZr.out
  generalize wr.alloc (Span.blk { s with ep := s.ep + 1 }) = wt at *
  clear p0 p1 p2 p3 p4 hbt
  obtain ⟨q0, q1, q2, q3, q4, q5, q6, q7, qlt⟩ := plan_blk hQt
  obtain ⟨t0, t1, t2, t3, t4, tlt⟩ := span_blk hT
  have ft0 := fz_blk hT 0; have ft2 := fz_blk hT 2
  have hx1 : w3.heap.size ≠ wr.heap.size := by omega
  have hx2 : wr.heap.size ≠ w3.heap.size := Ne.symm hx1
  have hx3 : g ≠ wr.heap.size := by omega
  have hx4 : wr.heap.size ≠ g := Ne.symm hx3
  have hgq := HgQ.out
  have hgq' : g ≠ w3.heap.size := Ne.symm hgq
  have HAt := Lib.hid hAt; have HQt := Lib.hid hQt; have HZt := Lib.hid hZt; have HT := Lib.hid hT
  clear hAt hQt hZt hT
  go_region
  have fz := HOt.out.frozenAt (k * 5 + 1)
  have hc1 : wt.cell? ⟨g, k * 5 + 1, none⟩ = some (.string s.to) := by
    have := (own_span (l := a.sp.set k { s with ep := s.ep + 1 }) (by rw [hln]; exact HOt.out) k (by rw [hln]; exact hk)).2.1
    simpa only [List.getElem_set_self] using this
  go_upto_region 23 with fail
  have hon1 := (only_setCell wt ⟨wr.heap.size, 0, none⟩ (.string a.plan.key)).trans (only_setCell _ ⟨wr.heap.size, 2, none⟩ (.int .i64 a.plan.other)) (fun _ _ h => h)
  have hT7 : ((((wt.setCell ⟨wr.heap.size, 0, none⟩ (.string a.plan.key)).setCell ⟨wr.heap.size, 2, none⟩ (.int .i64 a.plan.other)).setCell ⟨g, k * 5 + 1, none⟩ (.string a.plan.key)).drew).heap[wr.heap.size]? = some (Span.blk (⟨a.plan.key, s.to, a.plan.other, s.ep + 1, s.gr⟩ : Span)) := by
    have h1 := heap_setCell_at (i := 2) (heap_setCell_at (i := 0) HT.out (.string a.plan.key)) (.int .i64 a.plan.other)
    have h2 := ((only_setCell ((wt.setCell ⟨wr.heap.size, 0, none⟩ (.string a.plan.key)).setCell ⟨wr.heap.size, 2, none⟩ (.int .i64 a.plan.other)) ⟨g, k * 5 + 1, none⟩ (.string a.plan.key)).block _ (lt_of_some h1) (by show ¬ _ = g; omega)).trans h1
    refine (show _ = _ from h2).trans ?_
    simp only [Span.blk, List.setIfInBounds_toArray, List.set_cons_zero, List.set_cons_succ]
  have hO7 : ((((wt.setCell ⟨wr.heap.size, 0, none⟩ (.string a.plan.key)).setCell ⟨wr.heap.size, 2, none⟩ (.int .i64 a.plan.other)).setCell ⟨g, k * 5 + 1, none⟩ (.string a.plan.key)).drew).ownsRow w1.heap.size 50 5 (.slice (some ⟨g, 0, none⟩) a.sp.length cap') a.sp.length ((a.sp.set k (⟨s.fr, a.plan.key, s.sh, s.ep + 1, s.gr⟩ : Span)).map Span.cells).flatten := by
    have h1 := own_only HOt.out hon1 (fun q hq he => by have he : q = wr.heap.size := he; have hq : some g = some q := hq; injection hq with hq; omega)
    have h2 := (h1.stored (k * 5 + 1) (.string a.plan.key)).1
    rw [span_set (a.sp.set k { s with ep := s.ep + 1 }) k 1 { s with ep := s.ep + 1 } (⟨s.fr, a.plan.key, s.sh, s.ep + 1, s.gr⟩ : Span) (.string a.plan.key) (by simp [hk]) (by omega) rfl, List.set_set] at h2
    exact h2
  have hon : Only (fun q => q = wr.heap.size ∨ q = g) wt ((((wt.setCell ⟨wr.heap.size, 0, none⟩ (.string a.plan.key)).setCell ⟨wr.heap.size, 2, none⟩ (.int .i64 a.plan.other)).setCell ⟨g, k * 5 + 1, none⟩ (.string a.plan.key)).drew) := ((hon1.mono (fun q hq => .inl hq)).trans (only_setCell _ ⟨g, k * 5 + 1, none⟩ (.string a.plan.key)) (fun q _ hq => .inr hq)).trans (drewO (fun _ => False) _) (fun _ _ h => h.elim)
  have hA7 := (hon.block _ (lt_of_some HAt.out) (by show ¬ (_ ∨ _); have := lt_of_some HAr.out; omega)).trans HAt.out
  have hZ7 := (hon.block _ (lt_of_some HZt.out) (by show ¬ (_ ∨ _); omega)).trans HZt.out
  have hB7 := hon.below HBt.out (fun q hq => by have := HBr.out.size; rcases hq with hq | hq <;> omega) HBt.out.size
  generalize ((((wt.setCell ⟨wr.heap.size, 0, none⟩ (.string a.plan.key)).setCell ⟨wr.heap.size, 2, none⟩ (.int .i64 a.plan.other)).setCell ⟨g, k * 5 + 1, none⟩ (.string a.plan.key)).drew) = w7 at *
  clear q0 q1 q2 q3 q4 q5 q6 q7 qlt t0 t1 t2 t3 t4 tlt ft0 ft2 fz hc1 hon hon1
  obtain ⟨m0, m1, m2, m3, m4, m5, m6, m7, m8, m9, m10, mlt⟩ := map_cells hA7
  obtain ⟨t0, t1, t2, t3, t4, tlt⟩ := span_blk hT7
  have HA7 := Lib.hid hA7; have HZ7 := Lib.hid hZ7; have HB7 := Lib.hid hB7; have HO7 := Lib.hid hO7
  have hlA := lt_of_some hA7
  clear hA7 hZ7 hB7 hO7 hT7
  go_upto_region 28 with (go_at_call 44
                          have hb7 : Below w7.heap.size w7 (w7.alloc (Span.blk (⟨a.plan.key, s.to, a.plan.other, s.ep + 1, s.gr⟩ : Span))) := al _
                          have hO8 := own_only HO7.out (Only.of_below (F := fun _ => False) hb7) (fun _ _ h => h)
                          refine (insert_at (w7.alloc (Span.blk (⟨a.plan.key, s.to, a.plan.other, s.ep + 1, s.gr⟩ : Span))) w1.heap.size (some ⟨g, 0, none⟩) cap' (k + 1) a.sp.length ((k : Int) + 1) (by omega) (a.sp.set k (⟨s.fr, a.plan.key, s.sh, s.ep + 1, s.gr⟩ : Span)) (by simp) (⟨a.plan.key, s.to, a.plan.other, s.ep + 1, s.gr⟩ : Span) w7.heap.size hO8 (by omega) (by omega) h16 (heap_alloc_new w7 _) (fun h => by have h : some g = some w7.heap.size := h; injection h with h; have := (HO7.out.lt g rfl).2; omega) (by have := HB7.out.size; have := (HO7.out.lt g rfl).1; have := (HO7.out.lt g rfl).2; simp; omega) (a.sp.take k ++ (⟨s.fr, a.plan.key, s.sh, s.ep + 1, s.gr⟩ : Span) :: (⟨a.plan.key, s.to, a.plan.other, s.ep + 1, s.gr⟩ : Span) :: a.sp.drop (k + 1)) (split_list a.sp k (⟨s.fr, a.plan.key, s.sh, s.ep + 1, s.gr⟩ : Span) (⟨a.plan.key, s.to, a.plan.other, s.ep + 1, s.gr⟩ : Span) hk)).mono ?_
                          rintro e w9 ⟨A9, cap9, n9, hn9, rfl, hO9, ho9⟩
                          have HN9 := Lib.hid hn9
                          have ho9 : Only (· = g) (w7.alloc (Span.blk (⟨a.plan.key, s.to, a.plan.other, s.ep + 1, s.gr⟩ : Span))) w9 := ho9.mono (fun q hq => by have hq : some g = some q := hq; injection hq with hq; exact hq.symm)
                          have hA9 := (ho9.block _ (by simp; omega) (by show ¬ _ = g; omega)).trans (blk_below hb7 hlA HA7.out)
                          have hZ9 := (ho9.block _ (by simp; have := lt_of_some HZ7.out; omega) (by show ¬ _ = g; omega)).trans (blk_below hb7 (lt_of_some HZ7.out) HZ7.out)
                          have HB9 := Lib.hid (ho9.below (HB7.out.trans (hb7.mono HB7.out.size)) (fun q hq => by have hq : q = g := hq; omega) (HB7.out.trans (hb7.mono HB7.out.size)).size)
                          have n2 := (map_cells hA9).2.2.1
                          have nlt := lt_of_some hA9
                          have nf2 := map_frz hA9 2
                          have HA9 := Lib.hid hA9; have HZ9 := Lib.hid hZ9; have HO9 := Lib.hid hO9
                          clear hb7 hO8 hO9 ho9 hA9 hZ9 hn9)
  have hA10 : (w9.setCell ⟨w.heap.size, 2, none⟩ (.slice A9 n9 cap9)).heap[w.heap.size]? = some (Atl.blk { a with sp := (a.sp.take k ++ (⟨s.fr, a.plan.key, s.sh, s.ep + 1, s.gr⟩ : Span) :: (⟨a.plan.key, s.to, a.plan.other, s.ep + 1, s.gr⟩ : Span) :: a.sp.drop (k + 1)), plan := zeroP } (.slice A9 n9 cap9)) := by
    have := heap_setCell_at (i := 2) HA9.out (.slice A9 n9 cap9)
    refine (show _ = _ from this).trans ?_
    simp only [Atl.blk, List.setIfInBounds_toArray, List.set_cons_zero, List.set_cons_succ]
  have ho10 := only_setCell w9 ⟨w.heap.size, 2, none⟩ (.slice A9 n9 cap9)
  have hZ10 := (ho10.block _ (lt_of_some HZ9.out) (by show ¬ _ = w.heap.size; omega)).trans HZ9.out
  have hB10 := ho10.below HB9.out (fun q hq => by have hq : q = w.heap.size := hq; omega) HB9.out.size
  have hO10 := own_only HO9.out ho10 (fun q hq he => by have := (HO9.out.lt q hq).1; have he : q = w.heap.size := he; omega)
  refine wp_region_lit ?_
  refine wpList_load26 rfl (.tmp 2) rfl (w.heap.size) rfl hA10 ?_
  simp only [Act.put, List.setIfInBounds_toArray, List.set_cons_zero, List.set_cons_succ]
  refine wpList_store26 rfl (.tmp 4) (.tmp 144) rfl (w.heap.size + 1) rfl (m := { a with sp := (a.sp.take k ++ (⟨s.fr, a.plan.key, s.sh, s.ep + 1, s.gr⟩ : Span) :: (⟨a.plan.key, s.to, a.plan.other, s.ep + 1, s.gr⟩ : Span) :: a.sp.drop (k + 1)), plan := zeroP }) (v := (.slice A9 n9 cap9)) (m0 := zeroA) (v0 := nilV) rfl rfl hZ10 ?_
  intro w99 h9 ho9
  simp only [Act.put, List.setIfInBounds_toArray, List.set_cons_zero, List.set_cons_succ]
  go_wp2
  refine bodyPost_ret (results26 rfl _ _ (w.heap.size + 1) rfl h9) rfl ?_
  have hB99 := ho9.below hB10 (fun q hq => by omega) hB10.size
  have hO99 := own_only hO10 ho9 (fun q hq he => by have := (hO10.lt q hq).1; omega)
  exact ⟨A9, cap9, by simp [HN9.out, Atl.val], HI.out.respan (by rw [← HN9.out]; exact hO99) (by
    intro t ht
    simp only [List.mem_append, List.mem_cons] at ht
    rcases ht with ht | ht | ht | ht
    · exact HI.out.sz t (List.mem_of_mem_take ht)
    · rw [ht]; exact HI.out.key
    · rw [ht]; exact HI.out.sz s (by rw [← hs]; exact List.getElem_mem hk)
    · exact HI.out.sz t (List.mem_of_mem_drop ht)) zeroP (by decide) a.last, hB99⟩
end Go.Proofs.Ytimondpollbdfaa
