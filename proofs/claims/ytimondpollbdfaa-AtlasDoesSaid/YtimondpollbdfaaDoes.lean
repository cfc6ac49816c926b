/- What is proved: AtlasDoes answers yes, whatever the map, the plan and the phase. -/
import Derived.Test.YtimondpollbdfaaDoesLaw
import Derived.Test.YtimondpollbdfaaAwakeA
set_option linter.unusedVariables false
set_option linter.unusedSimpArgs false
namespace Go.Proofs.Ytimondpollbdfaa
open Go.RowKit
attribute [local go_sem] Span.val Atl.val Plan.val

set_option maxRecDepth 100000 in
set_option maxHeartbeats 4000000 in
theorem does_any (w : World) (A : Option Addr) (cap : Nat) (a : Atl) (p : Plan) (ph : Int) (h : MapIn w A cap a) (hks : p.key.size ≤ 9223372036854775807) :
    Calls Try.prog 3 #[a.val (.slice A a.sp.length cap), p.val, .int .i64 ph] w fun e w' => e = .returned (.bool true) ∧ Below w.heap.size w w' := by
  obtain ⟨R1, n1, hB1, hB2⟩ := begin_same A cap a p hks
  obtain ⟨R2, n2, hV1, hV2⟩ := advance_same A cap a ph
  obtain ⟨R3, n3, hX1, hX2⟩ := abort_same A cap a
  have HG1 := Lib.hid hB1; have HG2 := Lib.hid hB2; have HV1 := Lib.hid hV1; have HV2 := Lib.hid hV2; have HX1 := Lib.hid hX1; have HX2 := Lib.hid hX2
  have HI := Lib.hid h
  clear hB1 hB2 hV1 hV2 hX1 hX2 h hks
  go_enter Try.func3, Try.ntmps3
  go_upto_region 1 with fail
  have hat := al2_at w (a.blk (.slice A a.sp.length cap)) p.blk
  change Code.wp _ _ _ _ ((w.alloc (a.blk (.slice A a.sp.length cap))).alloc p.blk)
  generalize (w.alloc (a.blk (.slice A a.sp.length cap))).alloc p.blk = w0 at *
  have HA0 := Lib.hid hat.1; have HP0 := Lib.hid hat.2.1; have HB0 := Lib.hid hat.2.2
  clear hat
  go_upto_region 3 with (go_at_call 13
                         refine (awakeA _).mono ?_
                         rintro e w1 ⟨rfl, hb1⟩
                         have HA1 := Lib.hid (blk_below hb1 (lt_of_some HA0.out) HA0.out)
                         have HP1 := Lib.hid (blk_below hb1 (lt_of_some HP0.out) HP0.out)
                         have HB1 := Lib.hid (HB0.out.trans (hb1.mono HB0.out.size))
                         clear hb1)
  refine wp_region_lit ?_
  refine wpList_load26 rfl (.tmp 3) rfl (w.heap.size) rfl HA1.out ?_
  simp only [Act.put, List.setIfInBounds_toArray, List.set_cons_zero, List.set_cons_succ]
  refine wpList_load24 rfl (.tmp 4) rfl (w.heap.size + 1) rfl HP1.out ?_
  simp only [Act.put, List.setIfInBounds_toArray, List.set_cons_zero, List.set_cons_succ]
  refine wpList_step (fun K hK => ?_)
  go_simp
  go_at_call 14
  refine (HG1.out _ (HI.out.below HB1.out)).mono ?_
  rintro e w2 ⟨A2, c2, rfl, hI2, hb2⟩
  refine hK _ _ ?_
  clear hK K
  refine wpList_step (fun K hK => ?_)
  go_simp
  refine hK _ _ ?_
  clear hK K
  refine wpList_step (fun K hK => ?_)
  go_simp
  refine hK _ _ ?_
  clear hK K
  refine wpList_step (fun K hK => ?_)
  go_simp
  refine hK _ _ ?_
  clear hK K
  refine wpList_step (fun K hK => ?_)
  go_simp
  refine hK _ _ ?_
  clear hK K
  refine wpList_store26 rfl (.tmp 7) (.tmp 17) rfl w2.heap.size rfl (m := R1) (v := (.slice A2 R1.sp.length c2)) (m0 := zeroA) (v0 := nilV) rfl rfl (heap_alloc_new w2 _) ?_
  intro w3 hS ho
  simp only [Act.put, List.setIfInBounds_toArray, List.set_cons_zero, List.set_cons_succ]
  have hb : Below w2.heap.size w2 w3 := ho.below (al _) (fun k hk => by omega) (by simp)
  have hl : w2.heap.size < w3.heap.size := lt_of_some hS
  clear ho
  have hd1 : w.heap.size + 1 < w2.heap.size := by have := lt_of_some HP1.out; have := hb2.size; omega
  have hbx : Below w1.heap.size w1 w3 := hb2.trans (hb.mono hb2.size)
  have HA3 := Lib.hid (blk_below hbx (lt_of_some HA1.out) HA1.out)
  have HP3 := Lib.hid (blk_below hbx (lt_of_some HP1.out) HP1.out)
  have HB3 := Lib.hid (HB1.out.trans (hbx.mono HB1.out.size))
  have HIs3 := Lib.hid (hI2.below hb)
  have HS3 := Lib.hid hS
  clear hb2 hb hbx hI2 hS
  go_upto_region 4 with fail
  refine wp_region_lit ?_
  refine wpList_load26 rfl (.tmp 3) rfl (w.heap.size) rfl HA3.out ?_
  simp only [Act.put, List.setIfInBounds_toArray, List.set_cons_zero, List.set_cons_succ]
  refine wpList_load24 rfl (.tmp 4) rfl (w.heap.size + 1) rfl HP3.out ?_
  simp only [Act.put, List.setIfInBounds_toArray, List.set_cons_zero, List.set_cons_succ]
  refine wpList_step (fun K hK => ?_)
  go_simp
  go_at_call 15
  refine (HG2.out _ (HI.out.below HB3.out)).mono ?_
  rintro e w4 ⟨A4, c4, rfl, hI4, hb4⟩
  refine hK _ _ ?_
  clear hK K
  refine wpList_step (fun K hK => ?_)
  go_simp
  refine hK _ _ ?_
  clear hK K
  refine wpList_step (fun K hK => ?_)
  go_simp
  refine hK _ _ ?_
  clear hK K
  refine wpList_step (fun K hK => ?_)
  go_simp
  refine hK _ _ ?_
  clear hK K
  refine wpList_step (fun K hK => ?_)
  go_simp
  refine hK _ _ ?_
  clear hK K
  refine wpList_store26 rfl (.tmp 9) (.tmp 23) rfl w4.heap.size rfl (m := R1) (v := (.slice A4 R1.sp.length c4)) (m0 := zeroA) (v0 := nilV) rfl rfl (heap_alloc_new w4 _) ?_
  intro w5 hT ho
  simp only [Act.put, List.setIfInBounds_toArray, List.set_cons_zero, List.set_cons_succ]
  have hb : Below w4.heap.size w4 w5 := ho.below (al _) (fun k hk => by omega) (by simp)
  have hl : w4.heap.size < w5.heap.size := lt_of_some hT
  clear ho
  have hd2 : w2.heap.size < w4.heap.size := by have := lt_of_some HS3.out; have := hb4.size; omega
  have hbx : Below w3.heap.size w3 w5 := hb4.trans (hb.mono hb4.size)
  have HA5 := Lib.hid (blk_below hbx (lt_of_some HA3.out) HA3.out)
  have HP5 := Lib.hid (blk_below hbx (lt_of_some HP3.out) HP3.out)
  have HB5 := Lib.hid (HB3.out.trans (hbx.mono HB3.out.size))
  have HIs5 := Lib.hid (HIs3.out.below hbx)
  have HS5 := Lib.hid (blk_below hbx (lt_of_some HS3.out) HS3.out)
  have HIt5 := Lib.hid (hI4.below hb)
  have HT5 := Lib.hid hT
  clear hb4 hb hbx hI4 hT
  obtain ⟨s0, s1, s2, s3, s4, s5, s6, s7, s8, s9, s10, slt⟩ := map_cells HS5.out
  obtain ⟨t0, t1, t2, t3, t4, t5, t6, t7, t8, t9, t10, tlt⟩ := map_cells HT5.out
  go_upto_region 7 with (go_at_call 16
                         refine (same_true _ A2 A4 c2 c4 R1 HIs5.out HIt5.out).mono ?_
                         rintro e w6 ⟨rfl, hbx⟩
                         have HA6 := Lib.hid (blk_below hbx (lt_of_some HA5.out) HA5.out)
                         have HS6 := Lib.hid (blk_below hbx (lt_of_some HS5.out) HS5.out)
                         have HT6 := Lib.hid (blk_below hbx (lt_of_some HT5.out) HT5.out)
                         have HB6 := Lib.hid (HB5.out.trans (hbx.mono HB5.out.size))
                         clear hbx)
  clear s0 s1 s2 s3 s4 s5 s6 s7 s8 s9 s10 slt t0 t1 t2 t3 t4 t5 t6 t7 t8 t9 t10 tlt
  refine wp_region_lit ?_
  refine wpList_load26 rfl (.tmp 3) rfl (w.heap.size) rfl HA6.out ?_
  simp only [Act.put, List.setIfInBounds_toArray, List.set_cons_zero, List.set_cons_succ]
  refine wpList_step (fun K hK => ?_)
  go_simp
  refine hK _ _ ?_
  clear hK K
  refine wpList_step (fun K hK => ?_)
  go_simp
  go_at_call 17
  refine (HV1.out _ (HI.out.below HB6.out)).mono ?_
  rintro e w7 ⟨A7, c7, rfl, hI7, hb7⟩
  refine hK _ _ ?_
  clear hK K
  refine wpList_step (fun K hK => ?_)
  go_simp
  refine hK _ _ ?_
  clear hK K
  refine wpList_step (fun K hK => ?_)
  go_simp
  refine hK _ _ ?_
  clear hK K
  refine wpList_step (fun K hK => ?_)
  go_simp
  refine hK _ _ ?_
  clear hK K
  have hS7 := blk_below hb7 (lt_of_some HS6.out) HS6.out
  have hT7 := blk_below hb7 (lt_of_some HT6.out) HT6.out
  have hA7 := blk_below hb7 (lt_of_some HA6.out) HA6.out
  have hB7 := HB6.out.trans (hb7.mono HB6.out.size)
  refine wpList_store26 rfl (.tmp 7) (.tmp 38) rfl w2.heap.size rfl (m := R2) (v := .slice A7 R2.sp.length c7) (m0 := R1) (v0 := .slice A2 R1.sp.length c2) rfl rfl hS7 ?_
  intro w8 hN ho
  simp only [Act.put, List.setIfInBounds_toArray, List.set_cons_zero, List.set_cons_succ]
  have HA8 := Lib.hid ((ho.block _ (lt_of_some hA7) (by show ¬ _ = _; omega)).trans hA7)
  have HT8 := Lib.hid ((ho.block _ (lt_of_some hT7) (by show ¬ _ = _; omega)).trans hT7)
  have HS8 := Lib.hid hN
  have HB8 := Lib.hid (ho.below hB7 (fun q hq => by have hq : q = w2.heap.size := hq; omega) hB7.size)
  have HIs8 := Lib.hid (hI7.setMap hS7 ho)
  clear hS7 hT7 hA7 hB7 hI7 hb7 hN ho
  go_upto_region 8 with fail
  refine wp_region_lit ?_
  refine wpList_load26 rfl (.tmp 3) rfl (w.heap.size) rfl HA8.out ?_
  simp only [Act.put, List.setIfInBounds_toArray, List.set_cons_zero, List.set_cons_succ]
  refine wpList_step (fun K hK => ?_)
  go_simp
  refine hK _ _ ?_
  clear hK K
  refine wpList_step (fun K hK => ?_)
  go_simp
  go_at_call 18
  refine (HV2.out _ (HI.out.below HB8.out)).mono ?_
  rintro e w9 ⟨A9, c9, rfl, hI9, hb9⟩
  refine hK _ _ ?_
  clear hK K
  refine wpList_step (fun K hK => ?_)
  go_simp
  refine hK _ _ ?_
  clear hK K
  refine wpList_step (fun K hK => ?_)
  go_simp
  refine hK _ _ ?_
  clear hK K
  refine wpList_step (fun K hK => ?_)
  go_simp
  refine hK _ _ ?_
  clear hK K
  have hS9 := blk_below hb9 (lt_of_some HS8.out) HS8.out
  have hT9 := blk_below hb9 (lt_of_some HT8.out) HT8.out
  have hA9 := blk_below hb9 (lt_of_some HA8.out) HA8.out
  have hB9 := HB8.out.trans (hb9.mono HB8.out.size)
  refine wpList_store26 rfl (.tmp 9) (.tmp 44) rfl w4.heap.size rfl (m := R2) (v := .slice A9 R2.sp.length c9) (m0 := R1) (v0 := .slice A4 R1.sp.length c4) rfl rfl hT9 ?_
  intro w10 hN ho
  simp only [Act.put, List.setIfInBounds_toArray, List.set_cons_zero, List.set_cons_succ]
  have HA10 := Lib.hid ((ho.block _ (lt_of_some hA9) (by show ¬ _ = _; omega)).trans hA9)
  have HS10 := Lib.hid ((ho.block _ (lt_of_some hS9) (by show ¬ _ = _; omega)).trans hS9)
  have HT10 := Lib.hid hN
  have HB10 := Lib.hid (ho.below hB9 (fun q hq => by have hq : q = w4.heap.size := hq; omega) hB9.size)
  have HIt10 := Lib.hid (hI9.setMap hT9 ho)
  have HIs10 := Lib.hid ((HIs8.out.below hb9).setMap hT9 ho)
  clear hS9 hT9 hA9 hB9 hI9 hb9 hN ho
  obtain ⟨s0, s1, s2, s3, s4, s5, s6, s7, s8, s9, s10, slt⟩ := map_cells HS10.out
  obtain ⟨t0, t1, t2, t3, t4, t5, t6, t7, t8, t9, t10, tlt⟩ := map_cells HT10.out
  go_upto_region 11 with (go_at_call 16
                          refine (same_true _ A7 A9 c7 c9 R2 HIs10.out HIt10.out).mono ?_
                          rintro e w11 ⟨rfl, hbx⟩
                          have HA11 := Lib.hid (blk_below hbx (lt_of_some HA10.out) HA10.out)
                          have HS11 := Lib.hid (blk_below hbx (lt_of_some HS10.out) HS10.out)
                          have HT11 := Lib.hid (blk_below hbx (lt_of_some HT10.out) HT10.out)
                          have HB11 := Lib.hid (HB10.out.trans (hbx.mono HB10.out.size))
                          clear hbx)
  clear s0 s1 s2 s3 s4 s5 s6 s7 s8 s9 s10 slt t0 t1 t2 t3 t4 t5 t6 t7 t8 t9 t10 tlt
  refine wp_region_lit ?_
  refine wpList_load26 rfl (.tmp 3) rfl (w.heap.size) rfl HA11.out ?_
  simp only [Act.put, List.setIfInBounds_toArray, List.set_cons_zero, List.set_cons_succ]
  refine wpList_step (fun K hK => ?_)
  go_simp
  go_at_call 19
  refine (HX1.out _ (HI.out.below HB11.out)).mono ?_
  rintro e w12 ⟨A12, c12, rfl, hI12, hb12⟩
  refine hK _ _ ?_
  clear hK K
  refine wpList_step (fun K hK => ?_)
  go_simp
  refine hK _ _ ?_
  clear hK K
  refine wpList_step (fun K hK => ?_)
  go_simp
  refine hK _ _ ?_
  clear hK K
  refine wpList_step (fun K hK => ?_)
  go_simp
  refine hK _ _ ?_
  clear hK K
  have hS12 := blk_below hb12 (lt_of_some HS11.out) HS11.out
  have hT12 := blk_below hb12 (lt_of_some HT11.out) HT11.out
  have hA12 := blk_below hb12 (lt_of_some HA11.out) HA11.out
  have hB12 := HB11.out.trans (hb12.mono HB11.out.size)
  refine wpList_store26 rfl (.tmp 7) (.tmp 58) rfl w2.heap.size rfl (m := R3) (v := .slice A12 R3.sp.length c12) (m0 := R2) (v0 := .slice A7 R2.sp.length c7) rfl rfl hS12 ?_
  intro w13 hN ho
  simp only [Act.put, List.setIfInBounds_toArray, List.set_cons_zero, List.set_cons_succ]
  have HA13 := Lib.hid ((ho.block _ (lt_of_some hA12) (by show ¬ _ = _; omega)).trans hA12)
  have HT13 := Lib.hid ((ho.block _ (lt_of_some hT12) (by show ¬ _ = _; omega)).trans hT12)
  have HS13 := Lib.hid hN
  have HB13 := Lib.hid (ho.below hB12 (fun q hq => by have hq : q = w2.heap.size := hq; omega) hB12.size)
  have HIs13 := Lib.hid (hI12.setMap hS12 ho)
  clear hS12 hT12 hA12 hB12 hI12 hb12 hN ho
  go_upto_region 12 with fail
  refine wp_region_lit ?_
  refine wpList_load26 rfl (.tmp 3) rfl (w.heap.size) rfl HA13.out ?_
  simp only [Act.put, List.setIfInBounds_toArray, List.set_cons_zero, List.set_cons_succ]
  refine wpList_step (fun K hK => ?_)
  go_simp
  go_at_call 20
  refine (HX2.out _ (HI.out.below HB13.out)).mono ?_
  rintro e w14 ⟨A14, c14, rfl, hI14, hb14⟩
  refine hK _ _ ?_
  clear hK K
  refine wpList_step (fun K hK => ?_)
  go_simp
  refine hK _ _ ?_
  clear hK K
  refine wpList_step (fun K hK => ?_)
  go_simp
  refine hK _ _ ?_
  clear hK K
  refine wpList_step (fun K hK => ?_)
  go_simp
  refine hK _ _ ?_
  clear hK K
  have hS14 := blk_below hb14 (lt_of_some HS13.out) HS13.out
  have hT14 := blk_below hb14 (lt_of_some HT13.out) HT13.out
  have hA14 := blk_below hb14 (lt_of_some HA13.out) HA13.out
  have hB14 := HB13.out.trans (hb14.mono HB13.out.size)
  refine wpList_store26 rfl (.tmp 9) (.tmp 63) rfl w4.heap.size rfl (m := R3) (v := .slice A14 R3.sp.length c14) (m0 := R2) (v0 := .slice A9 R2.sp.length c9) rfl rfl hT14 ?_
  intro w15 hN ho
  simp only [Act.put, List.setIfInBounds_toArray, List.set_cons_zero, List.set_cons_succ]
  have HA15 := Lib.hid ((ho.block _ (lt_of_some hA14) (by show ¬ _ = _; omega)).trans hA14)
  have HS15 := Lib.hid ((ho.block _ (lt_of_some hS14) (by show ¬ _ = _; omega)).trans hS14)
  have HT15 := Lib.hid hN
  have HB15 := Lib.hid (ho.below hB14 (fun q hq => by have hq : q = w4.heap.size := hq; omega) hB14.size)
  have HIt15 := Lib.hid (hI14.setMap hT14 ho)
  have HIs15 := Lib.hid ((HIs13.out.below hb14).setMap hT14 ho)
  clear hS14 hT14 hA14 hB14 hI14 hb14 hN ho
  obtain ⟨s0, s1, s2, s3, s4, s5, s6, s7, s8, s9, s10, slt⟩ := map_cells HS15.out
  obtain ⟨t0, t1, t2, t3, t4, t5, t6, t7, t8, t9, t10, tlt⟩ := map_cells HT15.out
  go_wp2_with (go_at_call 16
               refine (same_true _ A12 A14 c12 c14 R3 HIs15.out HIt15.out).mono ?_
               rintro e w16 ⟨rfl, hbx⟩
               have HB16 := Lib.hid (HB15.out.trans (hbx.mono HB15.out.size))
               clear hbx)
  go_ret
  exact ⟨rfl, HB16.out⟩
end Go.Proofs.Ytimondpollbdfaa
