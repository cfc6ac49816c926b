/- What is proved: the law's first question (the answers that the document fixes) is answered yes. -/
import Derived.Test.YtimondpollbdfaaHeardP
import Derived.Test.YtimondpollbdfaaFind
import Derived.Test.YtimondpollbdfaaWhole
set_option linter.unusedVariables false
set_option linter.unusedSimpArgs false
namespace Go.Proofs.Ytimondpollbdfaa
open Go.RowKit
attribute [local go_sem] Span.val Atl.val Plan.val Rte.val Rep.val tup4

def aS : ByteArray := ⟨#[97]⟩
def bS : ByteArray := ⟨#[65]⟩
theorem aS_ok : named aS = true := by decide
theorem bS_no : named bS = false := by decide
def rA : Rte := ⟨3, aS, zeroA, true, 3, 4, false, 0, 0⟩
def rB : Rte := ⟨3, aS, newA 2, false, 1, 3, false, 0, 0⟩
theorem zeroA_no : tr (MapOk zeroA) = false := tr_false (fun h => by have := h.1; simp [zeroA] at this)
theorem zeroA_in (w : World) (A : Option Addr) (cap : Nat) (hc : cap ≤ 9223372036854775807) : MapIn w A cap zeroA := ⟨rowAt_nil _ _ _ _, Nat.zero_le _, hc, fun s hs => by simp [zeroA] at hs, by decide⟩
theorem newA2_ok : tr (MapOk (newA 2)) = true := tr_true (newA_ok (by decide) (by decide))
theorem startOk : tr (RteOk (startR 3 5 aS)) = true := tr_true ⟨by decide, by decide, by decide, by decide, by decide, by decide, fun h => by simp [startR] at h, .inl (by simp [emptyB, startR, isZ, eqP]), .inl rfl⟩
theorem rAOk : tr (RteOk rA) = true := tr_true ⟨by decide, by decide, by decide, by decide, by decide, by decide, fun h => by simp [rA] at h, .inl (by simp [emptyB, rA, zeroA, isZ, eqP]), .inl rfl⟩
theorem rBOk : tr (RteOk rB) = true := tr_true ⟨by decide, by decide, by decide, by decide, by decide, by decide, fun h => by simp [rB] at h, .inr newA2_ok, .inr (.inr ⟨by decide, aS_ok⟩)⟩
theorem new_first : idxOf (inSp rB.name) rB.map.sp = ((0 : Nat) : Int) := by
  obtain ⟨i, hi, hx, _⟩ := inSp_ex aS (of_tr newA2_ok).2.2.2.1
  have : i = 0 := by simp [newA] at hi; exact hi
  subst this
  exact hx
def pRed : Rep := ⟨1, 3, 0, 0, zeroA⟩
def pMap : Rep := ⟨3, 0, 0, 0, newA 2⟩

theorem aw1 (w : World) : Calls Try.prog 24 #[.int .i64 3, .string aS, zeroA.val nilV, .int .i64 5] w fun e w' => e = .returned (.tuple #[(startR 3 5 aS).val nilV nilV, .int .i64 0]) ∧ Below w.heap.size w w' :=
  begin_new w none 0 zeroA 3 5 aS (by decide) (by decide) (by decide) (by decide) (by decide) aS_ok (zeroA_in _ _ _ (by decide)) zeroA_no
theorem aw3 (w : World) : Calls Try.prog 33 #[(startR 3 5 aS).val nilV nilV, pRed.val nilV nilV] w fun e w' => ∃ A' cap' J' jc', cap' ≤ 9223372036854775807 ∧ e = .returned (rA.val (.slice A' 0 cap') (.slice J' 0 jc')) ∧ Below w.heap.size w w' := by
  refine (heard_redirect w none none 0 0 (startR 3 5 aS) [] pRed nilV nilV (zeroA_in _ _ _ (by decide)) (by decide) (by decide) (rowAt_nil _ _ _ _) (by decide) startOk rfl rfl (by decide) (by decide) (by decide) (by decide)).mono ?_
  rintro e w' ⟨A', cap', J', jc', rfl, ho, _, hb⟩
  obtain ⟨A2, c2, hv, h1, h2⟩ := own_shape ho
  injection hv with _ _ h3
  refine ⟨A', cap', J', jc', ?_, rfl, hb⟩
  exact (MapIn.ofOwn (a := zeroA) (zeroA_in w none 0 (by decide)) ho).cmax
theorem aw4 (w : World) (A J B : Option Addr) (cap jc bc : Nat) (hc : cap ≤ 9223372036854775807) (hB : MapIn w B bc (newA 2)) : Calls Try.prog 33 #[rA.val (.slice A 0 cap) (.slice J 0 jc), pMap.val nilV (.slice B 1 bc)] w fun e w' => ∃ A' cap' J' jc', e = .returned (rB.val (.slice A' 1 cap') (.slice J' 0 jc')) ∧ MapIn w' A' cap' (newA 2) ∧ Below w.heap.size w w' := by
  refine (heard_mapped w A J B cap jc bc rA [] pMap nilV (zeroA_in _ _ _ hc) (by decide) (by decide) (rowAt_nil _ _ _ _) (by decide) rAOk rfl hB rfl rfl newA2_ok (by decide)).mono ?_
  rintro e w' ⟨A', cap', J', jc', rfl, ho, _, hb⟩
  exact ⟨A', cap', J', jc', rfl, MapIn.ofOwn hB ho, hb⟩
theorem aw5 (w : World) (A : Option Addr) (cap : Nat) (j : Value) (h : MapIn w A cap (newA 2)) : Calls Try.prog 22 #[rB.val (.slice A 1 cap) j] w fun e w' => e = .returned (tup4 1 1 1 1) ∧ Below w.heap.size w w' :=
  where_some w A cap j rB h (by decide) 0 (by decide) new_first rBOk rfl rfl newA2_ok aS_ok
theorem aw6 (w : World) : Calls Try.prog 24 #[.int .i64 3, .string bS, zeroA.val nilV, .int .i64 5] w fun e w' => e = .returned (.tuple #[zeroR.val nilV nilV, .int .i64 1]) ∧ Below w.heap.size w w' :=
  begin_bad5 w none 0 zeroA 3 5 bS (by decide) (by decide) (by decide) (by decide) (by decide) bS_no

set_option maxRecDepth 100000 in
set_option maxHeartbeats 2000000 in
theorem awakeR (w : World) : Calls Try.prog 21 #[] w fun e w' => e = .returned (.bool true) ∧ Below w.heap.size w w' := by
  go_enter Try.func21, Try.ntmps21
  go_upto_region 1 with fail
  refine wp_region_lit ?_
  refine wpList_step (fun K hK => ?_)
  go_simp
  refine hK _ _ ?_
  clear hK K
  refine wpList_step (fun K hK => ?_)
  go_simp
  go_at_call 24
  refine (aw1 _).mono ?_
  rintro e w1 ⟨rfl, hb1⟩
  refine hK _ _ ?_
  clear hK K
  refine wpList_step (fun K hK => ?_)
  go_simp
  refine hK _ _ ?_
  clear hK K
  refine wpList_step (fun K hK => ?_)
  go_simp
  refine hK _ _ ?_
  clear hK K
  refine wpList_step (fun K hK => ?_)
  go_simp
  refine hK _ _ ?_
  clear hK K
  refine wpList_step (fun K hK => ?_)
  go_simp
  refine hK _ _ ?_
  clear hK K
  refine wpList_store39 rfl (.tmp 1) (.tmp 16) rfl w1.heap.size rfl (r := startR 3 5 aS) (v := nilV) (j := nilV) (r0 := zeroR) (v0 := nilV) (j0 := nilV) rfl rfl rfl (heap_alloc_new w1 _) ?_
  intro w2 hA2 ho
  simp only [Act.put, List.setIfInBounds_toArray, List.set_cons_zero, List.set_cons_succ]
  have hb : Below w1.heap.size w1 w2 := ho.below (al _) (fun k hk => by omega) (by simp)
  have hl : w1.heap.size < w2.heap.size := lt_of_some hA2
  clear ho
  have hb2 : Below w.heap.size w w2 := hb1.trans (hb.mono hb1.size)
  have hlt2 : w.heap.size < w2.heap.size := by have := hb1.size; omega
  have HA2 := Lib.hid hA2; have HB2 := Lib.hid hb2
  clear hb1 hb hA2 hb2
  go_upto_region 2 with fail
  refine wp_region_lit ?_
  refine wpList_step (fun K hK => ?_)
  go_simp
  go_at_call 37
  refine (new_ok _ 2 (by decide) (by decide)).mono ?_
  rintro e w3 ⟨nb, rfl, hI3, hb3⟩
  refine hK _ _ ?_
  clear hK K
  refine wpList_step (fun K hK => ?_)
  go_simp
  refine hK _ _ ?_
  clear hK K
  refine wpList_step (fun K hK => ?_)
  go_simp
  refine hK _ _ ?_
  clear hK K
  refine wpList_step (fun K hK => ?_)
  go_simp
  refine hK _ _ ?_
  clear hK K
  refine wpList_step (fun K hK => ?_)
  go_simp
  refine hK _ _ ?_
  clear hK K
  refine wpList_store26 rfl (.tmp 3) (.tmp 20) rfl w3.heap.size rfl (m := newA 2) (v := (.slice (some ⟨nb, 0, none⟩) 1 1)) (m0 := zeroA) (v0 := nilV) rfl rfl (heap_alloc_new w3 _) ?_
  intro w4 hM4 ho
  simp only [Act.put, List.setIfInBounds_toArray, List.set_cons_zero, List.set_cons_succ]
  have hb : Below w3.heap.size w3 w4 := ho.below (al _) (fun k hk => by omega) (by simp)
  have hl : w3.heap.size < w4.heap.size := lt_of_some hM4
  clear ho
  have hb4 : Below w2.heap.size w2 w4 := hb3.trans (hb.mono hb3.size)
  have HA4 := Lib.hid (blk_below hb4 (lt_of_some HA2.out) HA2.out)
  have HI4 := Lib.hid (hI3.below hb)
  have HB4 := Lib.hid (HB2.out.trans (hb4.mono HB2.out.size))
  have HM4 := Lib.hid hM4
  clear hb3 hb hb4 hI3 hM4
  go_upto_region 3 with fail
  refine wp_region_lit ?_
  refine wpList_load39 rfl (.tmp 1) rfl (w1.heap.size) rfl HA4.out ?_
  simp only [Act.put, List.setIfInBounds_toArray, List.set_cons_zero, List.set_cons_succ]
  refine wpList_step (fun K hK => ?_)
  go_simp
  refine hK _ _ ?_
  clear hK K
  refine wpList_step (fun K hK => ?_)
  go_simp
  go_at_call 33
  refine (aw3 _).mono ?_
  rintro e w5 ⟨A5, cap5, J5, jc5, hc5, rfl, hb5⟩
  refine hK _ _ ?_
  clear hK K
  refine wpList_step (fun K hK => ?_)
  go_simp
  refine hK _ _ ?_
  clear hK K
  refine wpList_store39 rfl (.tmp 5) (.tmp 24) rfl w5.heap.size rfl (r := rA) (v := (.slice A5 0 cap5)) (j := (.slice J5 0 jc5)) (r0 := zeroR) (v0 := nilV) (j0 := nilV) rfl rfl rfl (heap_alloc_new w5 _) ?_
  intro w6 hC6 ho
  simp only [Act.put, List.setIfInBounds_toArray, List.set_cons_zero, List.set_cons_succ]
  have hb : Below w5.heap.size w5 w6 := ho.below (al _) (fun k hk => by omega) (by simp)
  have hl : w5.heap.size < w6.heap.size := lt_of_some hC6
  clear ho
  have hb6 : Below w4.heap.size w4 w6 := hb5.trans (hb.mono hb5.size)
  have HA6 := Lib.hid (blk_below hb6 (lt_of_some HA4.out) HA4.out)
  have HM6 := Lib.hid (blk_below hb6 (lt_of_some HM4.out) HM4.out)
  have HI6 := Lib.hid (HI4.out.below hb6)
  have HB6 := Lib.hid (HB4.out.trans (hb6.mono HB4.out.size))
  have HC6 := Lib.hid hC6
  clear hb5 hb hb6 hC6
  go_upto_region 4 with fail
  refine wp_region_lit ?_
  refine wpList_load39 rfl (.tmp 5) rfl (w5.heap.size) rfl HC6.out ?_
  simp only [Act.put, List.setIfInBounds_toArray, List.set_cons_zero, List.set_cons_succ]
  refine wpList_load26 rfl (.tmp 3) rfl (w3.heap.size) rfl HM6.out ?_
  simp only [Act.put, List.setIfInBounds_toArray, List.set_cons_zero, List.set_cons_succ]
  refine wpList_step (fun K hK => ?_)
  go_simp
  refine hK _ _ ?_
  clear hK K
  refine wpList_step (fun K hK => ?_)
  go_simp
  go_at_call 33
  refine (aw4 _ A5 J5 _ cap5 jc5 _ hc5 HI6.out).mono ?_
  rintro e w7 ⟨A7, cap7, J7, jc7, rfl, hI7, hb7⟩
  refine hK _ _ ?_
  clear hK K
  refine wpList_step (fun K hK => ?_)
  go_simp
  refine hK _ _ ?_
  clear hK K
  refine wpList_store39 rfl (.tmp 6) (.tmp 28) rfl w7.heap.size rfl (r := rB) (v := (.slice A7 1 cap7)) (j := (.slice J7 0 jc7)) (r0 := zeroR) (v0 := nilV) (j0 := nilV) rfl rfl rfl (heap_alloc_new w7 _) ?_
  intro w8 hD8 ho
  simp only [Act.put, List.setIfInBounds_toArray, List.set_cons_zero, List.set_cons_succ]
  have hb : Below w7.heap.size w7 w8 := ho.below (al _) (fun k hk => by omega) (by simp)
  have hl : w7.heap.size < w8.heap.size := lt_of_some hD8
  clear ho
  have hb8 : Below w6.heap.size w6 w8 := hb7.trans (hb.mono hb7.size)
  have HA8 := Lib.hid (blk_below hb8 (lt_of_some HA6.out) HA6.out)
  have HC8 := Lib.hid (blk_below hb8 (lt_of_some HC6.out) HC6.out)
  have HI8 := Lib.hid (hI7.below hb)
  have HB8 := Lib.hid (HB6.out.trans (hb8.mono HB6.out.size))
  have HD8 := Lib.hid hD8
  clear hb7 hb hb8 hI7 hD8
  go_upto_region 5 with fail
  refine wp_region_lit ?_
  refine wpList_load39 rfl (.tmp 6) rfl (w7.heap.size) rfl HD8.out ?_
  simp only [Act.put, List.setIfInBounds_toArray, List.set_cons_zero, List.set_cons_succ]
  refine wpList_step (fun K hK => ?_)
  go_simp
  go_at_call 22
  refine (aw5 _ _ _ _ HI8.out).mono ?_
  rintro e w9 ⟨rfl, hb9⟩
  refine hK _ _ ?_
  clear hK K
  have HA9 := Lib.hid (blk_below hb9 (lt_of_some HA8.out) HA8.out)
  have HC9 := Lib.hid (blk_below hb9 (lt_of_some HC8.out) HC8.out)
  have HB9 := Lib.hid (HB8.out.trans (hb9.mono HB8.out.size))
  clear hb9
  go_upto_region 6 with fail
  refine wp_region_lit ?_
  refine wpList_step (fun K hK => ?_)
  go_simp
  refine hK _ _ ?_
  clear hK K
  refine wpList_step (fun K hK => ?_)
  go_simp
  go_at_call 24
  refine (aw6 _).mono ?_
  rintro e w10 ⟨rfl, hb10⟩
  refine hK _ _ ?_
  clear hK K
  refine wpList_step (fun K hK => ?_)
  go_simp
  refine hK _ _ ?_
  clear hK K
  refine wpList_step (fun K hK => ?_)
  go_simp
  refine hK _ _ ?_
  clear hK K
  refine wpList_step (fun K hK => ?_)
  go_simp
  refine hK _ _ ?_
  clear hK K
  refine wpList_step (fun K hK => ?_)
  go_simp
  refine hK _ _ ?_
  clear hK K
  refine wpList_store39 rfl (.tmp 11) (.tmp 39) rfl w10.heap.size rfl (r := zeroR) (v := nilV) (j := nilV) (r0 := zeroR) (v0 := nilV) (j0 := nilV) rfl rfl rfl (heap_alloc_new w10 _) ?_
  intro w11 hE ho
  simp only [Act.put, List.setIfInBounds_toArray, List.set_cons_zero, List.set_cons_succ]
  have hb : Below w10.heap.size w10 w11 := ho.below (al _) (fun k hk => by omega) (by simp)
  have hl : w10.heap.size < w11.heap.size := lt_of_some hE
  clear ho
  have hb11 : Below w9.heap.size w9 w11 := hb10.trans (hb.mono hb10.size)
  obtain ⟨⟨a0, a1, a13, a14, a15, a16, alt⟩, _, _, _, _⟩ := rte_cells (blk_below hb11 (lt_of_some HA9.out) HA9.out)
  obtain ⟨⟨c0, c1, c13, c14, c15, c16, clt⟩, _, _, _, _⟩ := rte_cells (blk_below hb11 (lt_of_some HC9.out) HC9.out)
  have HB11 := Lib.hid (HB9.out.trans (hb11.mono HB9.out.size))
  clear hb10 hb hb11 hE
  go_wp2_with fail
  go_ret
  exact ⟨rfl, HB11.out⟩
end Go.Proofs.Ytimondpollbdfaa
