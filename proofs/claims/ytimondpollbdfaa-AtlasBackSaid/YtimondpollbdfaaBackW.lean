/- What is proved: AtlasBack answers yes, whatever the map, the shard, the name and the group, case by case. -/
import Derived.Test.YtimondpollbdfaaKeeps
import Derived.Deep.RegionHeld3
set_option linter.unusedVariables false
set_option linter.unusedSimpArgs false
namespace Go.Proofs.Ytimondpollbdfaa
open Go.RowKit
attribute [local go_sem] Span.val Atl.val Plan.val
attribute [local go_sem high] run_eql_eqP run_neq_eqP run_eql_eqS run_neq_eqS
attribute [local go_sem] eqP_refl eqS_refl

def splitP (sh : Int) (key : ByteArray) : Plan := ⟨2, 0, sh, 0, 0, 0, 0, key⟩
def mergeP (sh : Int) : Plan := ⟨3, 0, sh, 0, 0, 0, 0, ⟨#[]⟩⟩
def moveP (sh group : Int) : Plan := ⟨1, 0, sh, 0, group, 0, 0, ⟨#[]⟩⟩
set_option maxRecDepth 100000 in
set_option maxHeartbeats 4000000 in
theorem back_wrong (w : World) (A : Option Addr) (cap : Nat) (a : Atl) (sh gp : Int) (key : ByteArray) (h : MapIn w A cap a) (x : Int) (hp : place a.sp sh = x) (hm : tr (MapOk a) = false) :
    Calls Try.prog 10 #[a.val (.slice A a.sp.length cap), .int .i64 sh, .string key, .int .i64 gp] w fun e w' => e = .returned (.bool true) ∧ Below w.heap.size w w' := by
  have hPl : ∀ w, MapIn w A cap a → Calls Try.prog 32 #[a.val (.slice A a.sp.length cap), .int .i64 sh] w fun e w' => e = .returned (.int .i64 x) ∧ Below w.heap.size w w' := fun w h => by
    have := rPlace_any w A cap a sh h.row (Nat.le_trans h.ncap h.cmax)
    rw [hp] at this
    exact this
  have hC := fun w h => check_any w A cap a h
  rw [hm] at hC
  have HPl := Lib.hid hPl; have HC := Lib.hid hC; have HI := Lib.hid h; have Hm := Lib.hid hm; have Hp := Lib.hid hp
  clear hPl hC h hm hp
  go_enter Try.func10, Try.ntmps10
  go_upto_region 1 with fail
  change Code.wp _ _ _ _ (w.alloc (a.blk (.slice A a.sp.length cap)))
  have hX0 := heap_alloc_new w (a.blk (.slice A a.sp.length cap))
  have hB0 : Below w.heap.size w (w.alloc (a.blk (.slice A a.sp.length cap))) := al _
  generalize w.alloc (a.blk (.slice A a.sp.length cap)) = w0 at *
  have HA0 := Lib.hid hX0; have HB0 := Lib.hid hB0
  clear hX0 hB0
  go_upto_region 3 with (go_at_call 13
                         refine (awakeA _).mono ?_
                         rintro e w1 ⟨rfl, hb1⟩
                         have HA1 := Lib.hid (blk_below hb1 (lt_of_some HA0.out) HA0.out)
                         have HB1 := Lib.hid (HB0.out.trans (hb1.mono HB0.out.size))
                         clear hb1)
  refine wp_region_lit ?_
  refine wpList_load26 rfl (.tmp 4) rfl (w.heap.size) rfl HA1.out ?_
  simp only [Act.put, List.setIfInBounds_toArray, List.set_cons_zero, List.set_cons_succ]
  refine wpList_step (fun K hK => ?_)
  go_simp
  refine hK _ _ ?_
  clear hK K
  refine wpList_step (fun K hK => ?_)
  go_simp
  go_at_call 32
  refine (HPl.out _ (HI.out.below HB1.out)).mono ?_
  rintro e w2 ⟨rfl, hb2⟩
  refine hK _ _ ?_
  clear hK K
  have HA2 := Lib.hid (blk_below hb2 (lt_of_some HA1.out) HA1.out)
  have HB2 := Lib.hid (HB1.out.trans (hb2.mono HB1.out.size))
  clear hb2
  go_upto_region 4 with fail
  refine wp_region_lit ?_
  refine wpList_load26 rfl (.tmp 4) rfl (w.heap.size) rfl HA2.out ?_
  simp only [Act.put, List.setIfInBounds_toArray, List.set_cons_zero, List.set_cons_succ]
  refine wpList_step (fun K hK => ?_)
  go_simp
  go_at_call 29
  refine (HC.out _ (HI.out.below HB2.out)).mono ?_
  rintro e w3 ⟨rfl, hb3⟩
  refine hK _ _ ?_
  clear hK K
  have HA3 := Lib.hid (blk_below hb3 (lt_of_some HA2.out) HA2.out)
  have HB3 := Lib.hid (HB2.out.trans (hb3.mono HB2.out.size))
  clear hb3
  obtain ⟨m0, m1, m2, m3, m4, m5, m6, m7, m8, m9, m10, mlt⟩ := map_cells HA3.out
  go_wp2_with fail
  go_ret
  exact ⟨rfl, HB3.out⟩
set_option maxRecDepth 100000 in
set_option maxHeartbeats 4000000 in
theorem back_busy (w : World) (A : Option Addr) (cap : Nat) (a : Atl) (sh gp : Int) (key : ByteArray) (h : MapIn w A cap a) (x : Int) (hp : place a.sp sh = x) (hm : tr (MapOk a) = true) (b0 : (a.plan.kind == 0) = false) :
    Calls Try.prog 10 #[a.val (.slice A a.sp.length cap), .int .i64 sh, .string key, .int .i64 gp] w fun e w' => e = .returned (.bool true) ∧ Below w.heap.size w w' := by
  have bn0 : (a.plan.kind != 0) = true := by rw [bne, b0]; rfl
  have hPl : ∀ w, MapIn w A cap a → Calls Try.prog 32 #[a.val (.slice A a.sp.length cap), .int .i64 sh] w fun e w' => e = .returned (.int .i64 x) ∧ Below w.heap.size w w' := fun w h => by
    have := rPlace_any w A cap a sh h.row (Nat.le_trans h.ncap h.cmax)
    rw [hp] at this
    exact this
  have hC := fun w h => check_any w A cap a h
  rw [hm] at hC
  have HPl := Lib.hid hPl; have HC := Lib.hid hC; have HI := Lib.hid h; have Hm := Lib.hid hm; have Hp := Lib.hid hp
  clear hPl hC h hm hp
  go_enter Try.func10, Try.ntmps10
  go_upto_region 1 with fail
  change Code.wp _ _ _ _ (w.alloc (a.blk (.slice A a.sp.length cap)))
  have hX0 := heap_alloc_new w (a.blk (.slice A a.sp.length cap))
  have hB0 : Below w.heap.size w (w.alloc (a.blk (.slice A a.sp.length cap))) := al _
  generalize w.alloc (a.blk (.slice A a.sp.length cap)) = w0 at *
  have HA0 := Lib.hid hX0; have HB0 := Lib.hid hB0
  clear hX0 hB0
  go_upto_region 3 with (go_at_call 13
                         refine (awakeA _).mono ?_
                         rintro e w1 ⟨rfl, hb1⟩
                         have HA1 := Lib.hid (blk_below hb1 (lt_of_some HA0.out) HA0.out)
                         have HB1 := Lib.hid (HB0.out.trans (hb1.mono HB0.out.size))
                         clear hb1)
  refine wp_region_lit ?_
  refine wpList_load26 rfl (.tmp 4) rfl (w.heap.size) rfl HA1.out ?_
  simp only [Act.put, List.setIfInBounds_toArray, List.set_cons_zero, List.set_cons_succ]
  refine wpList_step (fun K hK => ?_)
  go_simp
  refine hK _ _ ?_
  clear hK K
  refine wpList_step (fun K hK => ?_)
  go_simp
  go_at_call 32
  refine (HPl.out _ (HI.out.below HB1.out)).mono ?_
  rintro e w2 ⟨rfl, hb2⟩
  refine hK _ _ ?_
  clear hK K
  have HA2 := Lib.hid (blk_below hb2 (lt_of_some HA1.out) HA1.out)
  have HB2 := Lib.hid (HB1.out.trans (hb2.mono HB1.out.size))
  clear hb2
  go_upto_region 4 with fail
  refine wp_region_lit ?_
  refine wpList_load26 rfl (.tmp 4) rfl (w.heap.size) rfl HA2.out ?_
  simp only [Act.put, List.setIfInBounds_toArray, List.set_cons_zero, List.set_cons_succ]
  refine wpList_step (fun K hK => ?_)
  go_simp
  go_at_call 29
  refine (HC.out _ (HI.out.below HB2.out)).mono ?_
  rintro e w3 ⟨rfl, hb3⟩
  refine hK _ _ ?_
  clear hK K
  have HA3 := Lib.hid (blk_below hb3 (lt_of_some HA2.out) HA2.out)
  have HB3 := Lib.hid (HB2.out.trans (hb3.mono HB2.out.size))
  clear hb3
  obtain ⟨m0, m1, m2, m3, m4, m5, m6, m7, m8, m9, m10, mlt⟩ := map_cells HA3.out
  go_wp2_with fail
  go_ret
  exact ⟨rfl, HB3.out⟩
set_option maxRecDepth 100000 in
set_option maxHeartbeats 4000000 in
theorem back_none (w : World) (A : Option Addr) (cap : Nat) (a : Atl) (sh gp : Int) (key : ByteArray) (h : MapIn w A cap a) (hp : place a.sp sh = -1) (hm : tr (MapOk a) = true) (b0 : (a.plan.kind == 0) = true) :
    Calls Try.prog 10 #[a.val (.slice A a.sp.length cap), .int .i64 sh, .string key, .int .i64 gp] w fun e w' => e = .returned (.bool true) ∧ Below w.heap.size w w' := by
  have bn0 : (a.plan.kind != 0) = false := by rw [bne, b0]; rfl
  have hPl : ∀ w, MapIn w A cap a → Calls Try.prog 32 #[a.val (.slice A a.sp.length cap), .int .i64 sh] w fun e w' => e = .returned (.int .i64 (-1)) ∧ Below w.heap.size w w' := fun w h => by
    have := rPlace_any w A cap a sh h.row (Nat.le_trans h.ncap h.cmax)
    rw [hp] at this
    exact this
  have hC := fun w h => check_any w A cap a h
  rw [hm] at hC
  have HPl := Lib.hid hPl; have HC := Lib.hid hC; have HI := Lib.hid h; have Hm := Lib.hid hm; have Hp := Lib.hid hp
  clear hPl hC h hm hp
  go_enter Try.func10, Try.ntmps10
  go_upto_region 1 with fail
  change Code.wp _ _ _ _ (w.alloc (a.blk (.slice A a.sp.length cap)))
  have hX0 := heap_alloc_new w (a.blk (.slice A a.sp.length cap))
  have hB0 : Below w.heap.size w (w.alloc (a.blk (.slice A a.sp.length cap))) := al _
  generalize w.alloc (a.blk (.slice A a.sp.length cap)) = w0 at *
  have HA0 := Lib.hid hX0; have HB0 := Lib.hid hB0
  clear hX0 hB0
  go_upto_region 3 with (go_at_call 13
                         refine (awakeA _).mono ?_
                         rintro e w1 ⟨rfl, hb1⟩
                         have HA1 := Lib.hid (blk_below hb1 (lt_of_some HA0.out) HA0.out)
                         have HB1 := Lib.hid (HB0.out.trans (hb1.mono HB0.out.size))
                         clear hb1)
  refine wp_region_lit ?_
  refine wpList_load26 rfl (.tmp 4) rfl (w.heap.size) rfl HA1.out ?_
  simp only [Act.put, List.setIfInBounds_toArray, List.set_cons_zero, List.set_cons_succ]
  refine wpList_step (fun K hK => ?_)
  go_simp
  refine hK _ _ ?_
  clear hK K
  refine wpList_step (fun K hK => ?_)
  go_simp
  go_at_call 32
  refine (HPl.out _ (HI.out.below HB1.out)).mono ?_
  rintro e w2 ⟨rfl, hb2⟩
  refine hK _ _ ?_
  clear hK K
  have HA2 := Lib.hid (blk_below hb2 (lt_of_some HA1.out) HA1.out)
  have HB2 := Lib.hid (HB1.out.trans (hb2.mono HB1.out.size))
  clear hb2
  go_upto_region 4 with fail
  refine wp_region_lit ?_
  refine wpList_load26 rfl (.tmp 4) rfl (w.heap.size) rfl HA2.out ?_
  simp only [Act.put, List.setIfInBounds_toArray, List.set_cons_zero, List.set_cons_succ]
  refine wpList_step (fun K hK => ?_)
  go_simp
  go_at_call 29
  refine (HC.out _ (HI.out.below HB2.out)).mono ?_
  rintro e w3 ⟨rfl, hb3⟩
  refine hK _ _ ?_
  clear hK K
  have HA3 := Lib.hid (blk_below hb3 (lt_of_some HA2.out) HA2.out)
  have HB3 := Lib.hid (HB2.out.trans (hb3.mono HB2.out.size))
  clear hb3
  obtain ⟨m0, m1, m2, m3, m4, m5, m6, m7, m8, m9, m10, mlt⟩ := map_cells HA3.out
  go_wp2_with fail
  go_ret
  exact ⟨rfl, HB3.out⟩
set_option maxRecDepth 100000 in
set_option maxHeartbeats 4000000 in
theorem back_no_no (w : World) (A : Option Addr) (cap : Nat) (a : Atl) (sh gp : Int) (key : ByteArray) (h : MapIn w A cap a) (k : Nat) (s : Span) (hk : k < a.sp.length) (hs : a.sp[k] = s) (he1 : 1 ≤ s.ep) (he2 : s.ep ≤ 1099511627776) (hp : place a.sp sh = (k : Int)) (hm : tr (MapOk a) = true) (b0 : (a.plan.kind == 0) = true) (n1 : Int) (b : Atl) (g1 : ¬ n1 = 0) (g2 : (n1 == 0) = false) (hF1 : GivesMap 14 (fun v => #[v, (splitP sh key).val]) A cap a b n1) (y : Atl) (n2 : Int) (g3 : ¬ n2 = 0) (g4 : (n2 == 0) = false) (hM : GivesMap 14 (fun v => #[v, (moveP sh gp).val]) A cap a y n2) :
    Calls Try.prog 10 #[a.val (.slice A a.sp.length cap), .int .i64 sh, .string key, .int .i64 gp] w fun e w' => e = .returned (.bool true) ∧ Below w.heap.size w w' := by
  have HF1 := Lib.hid hF1; clear hF1
  have HM := Lib.hid hM; clear hM
  have bn0 : (a.plan.kind != 0) = false := by rw [bne, b0]; rfl
  have hPl : ∀ w, MapIn w A cap a → Calls Try.prog 32 #[a.val (.slice A a.sp.length cap), .int .i64 sh] w fun e w' => e = .returned (.int .i64 (k : Int)) ∧ Below w.heap.size w w' := fun w h => by
    have := rPlace_any w A cap a sh h.row (Nat.le_trans h.ncap h.cmax)
    rw [hp] at this
    exact this
  have hC := fun w h => check_any w A cap a h
  rw [hm] at hC
  have HPl := Lib.hid hPl; have HC := Lib.hid hC; have HI := Lib.hid h; have Hm := Lib.hid hm; have Hp := Lib.hid hp
  clear hPl hC h hm hp
  go_enter Try.func10, Try.ntmps10
  go_upto_region 1 with fail
  change Code.wp _ _ _ _ (w.alloc (a.blk (.slice A a.sp.length cap)))
  have hX0 := heap_alloc_new w (a.blk (.slice A a.sp.length cap))
  have hB0 : Below w.heap.size w (w.alloc (a.blk (.slice A a.sp.length cap))) := al _
  generalize w.alloc (a.blk (.slice A a.sp.length cap)) = w0 at *
  have HA0 := Lib.hid hX0; have HB0 := Lib.hid hB0
  clear hX0 hB0
  go_upto_region 3 with (go_at_call 13
                         refine (awakeA _).mono ?_
                         rintro e w1 ⟨rfl, hb1⟩
                         have HA1 := Lib.hid (blk_below hb1 (lt_of_some HA0.out) HA0.out)
                         have HB1 := Lib.hid (HB0.out.trans (hb1.mono HB0.out.size))
                         clear hb1)
  refine wp_region_lit ?_
  refine wpList_load26 rfl (.tmp 4) rfl (w.heap.size) rfl HA1.out ?_
  simp only [Act.put, List.setIfInBounds_toArray, List.set_cons_zero, List.set_cons_succ]
  refine wpList_step (fun K hK => ?_)
  go_simp
  refine hK _ _ ?_
  clear hK K
  refine wpList_step (fun K hK => ?_)
  go_simp
  go_at_call 32
  refine (HPl.out _ (HI.out.below HB1.out)).mono ?_
  rintro e w2 ⟨rfl, hb2⟩
  refine hK _ _ ?_
  clear hK K
  have HA2 := Lib.hid (blk_below hb2 (lt_of_some HA1.out) HA1.out)
  have HB2 := Lib.hid (HB1.out.trans (hb2.mono HB1.out.size))
  clear hb2
  go_upto_region 4 with fail
  refine wp_region_lit ?_
  refine wpList_load26 rfl (.tmp 4) rfl (w.heap.size) rfl HA2.out ?_
  simp only [Act.put, List.setIfInBounds_toArray, List.set_cons_zero, List.set_cons_succ]
  refine wpList_step (fun K hK => ?_)
  go_simp
  go_at_call 29
  refine (HC.out _ (HI.out.below HB2.out)).mono ?_
  rintro e w3 ⟨rfl, hb3⟩
  refine hK _ _ ?_
  clear hK K
  have HA3 := Lib.hid (blk_below hb3 (lt_of_some HA2.out) HA2.out)
  have HB3 := Lib.hid (HB2.out.trans (hb3.mono HB2.out.size))
  clear hb3
  obtain ⟨m0, m1, m2, m3, m4, m5, m6, m7, m8, m9, m10, mlt⟩ := map_cells HA3.out
  obtain ⟨b_, off, hAe, blt, p0, p1, p2, p3, p4⟩ := span_cells (HI.out.below HB3.out).row k hk
  rw [hs] at p0 p1 p2 p3 p4
  obtain rfl := hAe
  have hk1 : (0 : Int) ≤ (k : Int) := by omega
  have hk2 : (k : Int) < (a.sp.length : Int) := by omega
  have hw1 : IntKind.i64.wrap (s.ep + 1) = s.ep + 1 := IntWalk.i64_in _ (by omega)
  have hw2 : IntKind.i64.wrap (s.ep + 2) = s.ep + 2 := IntWalk.i64_in _ (by omega)
  have hl16 : a.sp.length ≤ 16 := (of_tr Hm.out).2.2.2.1.1
  have hw3 : IntKind.i64.wrap ((a.sp.length : Int) + 1) = (a.sp.length : Int) + 1 := IntWalk.i64_in _ (by omega)
  go_upto_region 7 with fail
  clear m0 m1 m2 m3 m4 m5 m6 m7 m8 m9 m10 mlt p0 p1 p2 p3 p4
  have HS4 := Lib.hid (heap_alloc_new w3 s.blk)
  have hb4 : Below w3.heap.size w3 (w3.alloc s.blk) := al _
  have hdSA : w.heap.size < w3.heap.size := lt_of_some HA3.out
  change Code.wp _ _ _ _ (w3.alloc s.blk)
  have HA4 := Lib.hid (blk_below hb4 (lt_of_some HA3.out) HA3.out)
  have HB4 := Lib.hid (HB3.out.trans (hb4.mono HB3.out.size))
  clear hb4
  generalize w3.alloc s.blk = w4 at *
  refine wp_region_lit ?_
  refine wpList_load26 rfl (.tmp 4) rfl (w.heap.size) rfl HA4.out ?_
  simp only [Act.put, List.setIfInBounds_toArray, List.set_cons_zero, List.set_cons_succ]
  refine wpList_step (fun K hK => ?_)
  go_simp
  refine hK _ _ ?_
  clear hK K
  refine wpList_step (fun K hK => ?_)
  go_simp
  refine hK _ _ ?_
  clear hK K
  refine wpList_step (fun K hK => ?_)
  go_simp
  refine hK _ _ ?_
  clear hK K
  refine wpList_step (fun K hK => ?_)
  go_simp
  go_at_call 14
  refine (HF1.out _ (HI.out.below HB4.out)).mono ?_
  rintro e w5 ⟨A5, c5, rfl, hI5, hb5⟩
  refine hK _ _ ?_
  clear hK K
  refine wpList_step (fun K hK => ?_)
  go_simp
  refine hK _ _ ?_
  clear hK K
  refine wpList_step (fun K hK => ?_)
  go_simp
  refine hK _ _ ?_
  clear hK K
  refine wpList_step (fun K hK => ?_)
  go_simp
  refine hK _ _ ?_
  clear hK K
  refine wpList_step (fun K hK => ?_)
  go_simp
  refine hK _ _ ?_
  clear hK K
  refine wpList_store26 rfl (.tmp 11) (.tmp 52) rfl w5.heap.size rfl (m := b) (v := (.slice A5 b.sp.length c5)) (m0 := zeroA) (v0 := nilV) rfl rfl (heap_alloc_new w5 _) ?_
  intro w6 hS ho
  simp only [Act.put, List.setIfInBounds_toArray, List.set_cons_zero, List.set_cons_succ]
  have hb : Below w5.heap.size w5 w6 := ho.below (al _) (fun k hk => by omega) (by simp)
  have hl : w5.heap.size < w6.heap.size := lt_of_some hS
  clear ho
  have hdBA : w.heap.size < w5.heap.size := by have := lt_of_some HA4.out; have := hb5.size; omega
  have hdBS : w3.heap.size < w5.heap.size := by have := lt_of_some HS4.out; have := hb5.size; omega
  have hbx : Below w4.heap.size w4 w6 := hb5.trans (hb.mono hb5.size)
  have HA6 := Lib.hid (blk_below hbx (lt_of_some HA4.out) HA4.out)
  have HS6 := Lib.hid (blk_below hbx (lt_of_some HS4.out) HS4.out)
  have HB6 := Lib.hid (HB4.out.trans (hbx.mono HB4.out.size))
  have HIb6 := Lib.hid (hI5.below hb)
  have HQB6 := Lib.hid hS
  clear hb5 hb hbx hI5 hS hl
  go_upto_region 17 with fail
  refine wp_region_lit ?_
  refine wpList_load26 rfl (.tmp 4) rfl (w.heap.size) rfl HA6.out ?_
  simp only [Act.put, List.setIfInBounds_toArray, List.set_cons_zero, List.set_cons_succ]
  refine wpList_step (fun K hK => ?_)
  go_simp
  refine hK _ _ ?_
  clear hK K
  refine wpList_step (fun K hK => ?_)
  go_simp
  refine hK _ _ ?_
  clear hK K
  refine wpList_step (fun K hK => ?_)
  go_simp
  refine hK _ _ ?_
  clear hK K
  refine wpList_step (fun K hK => ?_)
  go_simp
  go_at_call 14
  refine (HM.out _ (HI.out.below HB6.out)).mono ?_
  rintro e w7 ⟨A7, c7, rfl, hI7, hb7⟩
  refine hK _ _ ?_
  clear hK K
  refine wpList_step (fun K hK => ?_)
  go_simp
  refine hK _ _ ?_
  clear hK K
  refine wpList_step (fun K hK => ?_)
  go_simp
  refine hK _ _ ?_
  clear hK K
  refine wpList_step (fun K hK => ?_)
  go_simp
  refine hK _ _ ?_
  clear hK K
  have hA7 := blk_below hb7 (lt_of_some HA6.out) HA6.out
  have hS7 := blk_below hb7 (lt_of_some HS6.out) HS6.out
  have hQB7 := blk_below hb7 (lt_of_some HQB6.out) HQB6.out
  have hB7 := HB6.out.trans (hb7.mono HB6.out.size)
  refine wpList_store26 rfl (.tmp 11) (.tmp 162) rfl w5.heap.size rfl (m := y) (v := .slice A7 y.sp.length c7) (m0 := b) (v0 := (.slice A5 b.sp.length c5)) rfl rfl hQB7 ?_
  intro w8 hN ho
  simp only [Act.put, List.setIfInBounds_toArray, List.set_cons_zero, List.set_cons_succ]
  have HA8 := Lib.hid ((ho.block _ (lt_of_some hA7) (by show ¬ _ = _; omega)).trans hA7)
  have HS8 := Lib.hid ((ho.block _ (lt_of_some hS7) (by show ¬ _ = _; omega)).trans hS7)
  have HQB8 := Lib.hid hN
  have HB8 := Lib.hid (ho.below hB7 (fun q hq => by have hq : q = w5.heap.size := hq; omega) hB7.size)
  have HIy8 := Lib.hid (hI7.setMap hQB7 ho)
  clear hA7 hS7 hQB7 hB7 hI7 hb7 hN ho
  go_wp2_with fail
  go_ret
  exact ⟨rfl, HB8.out⟩
set_option maxRecDepth 100000 in
set_option maxHeartbeats 4000000 in
theorem back_no_yes (w : World) (A : Option Addr) (cap : Nat) (a : Atl) (sh gp : Int) (key : ByteArray) (h : MapIn w A cap a) (k : Nat) (s : Span) (hk : k < a.sp.length) (hs : a.sp[k] = s) (he1 : 1 ≤ s.ep) (he2 : s.ep ≤ 1099511627776) (hp : place a.sp sh = (k : Int)) (hm : tr (MapOk a) = true) (b0 : (a.plan.kind == 0) = true) (n1 : Int) (b : Atl) (g1 : ¬ n1 = 0) (g2 : (n1 == 0) = false) (hF1 : GivesMap 14 (fun v => #[v, (splitP sh key).val]) A cap a b n1) (f : Nat → Atl) (hM : GivesMap 14 (fun v => #[v, (moveP sh gp).val]) A cap a (f 1) 0) (hV : ∀ j : Nat, 1 ≤ j → j ≤ 3 → ∀ A cap, GivesMap 17 (fun v => #[v, .int .i64 (j : Int)]) A cap (f j) (f (j + 1)) 0) (hfz : ((f 4).plan.kind == 0) = true) (hkf : k < (f 4).sp.length) (hfk : (f 4).sp[k] = ⟨s.fr, s.to, s.sh, s.ep + 1, gp⟩) :
    Calls Try.prog 10 #[a.val (.slice A a.sp.length cap), .int .i64 sh, .string key, .int .i64 gp] w fun e w' => e = .returned (.bool true) ∧ Below w.heap.size w w' := by
  have HF1 := Lib.hid hF1; clear hF1
  have HV := Lib.hid hV; have Hfk := Lib.hid hfk; have Hfz := Lib.hid hfz; clear hV hfk hfz
  have HM := Lib.hid hM; clear hM
  have bn0 : (a.plan.kind != 0) = false := by rw [bne, b0]; rfl
  have hPl : ∀ w, MapIn w A cap a → Calls Try.prog 32 #[a.val (.slice A a.sp.length cap), .int .i64 sh] w fun e w' => e = .returned (.int .i64 (k : Int)) ∧ Below w.heap.size w w' := fun w h => by
    have := rPlace_any w A cap a sh h.row (Nat.le_trans h.ncap h.cmax)
    rw [hp] at this
    exact this
  have hC := fun w h => check_any w A cap a h
  rw [hm] at hC
  have HPl := Lib.hid hPl; have HC := Lib.hid hC; have HI := Lib.hid h; have Hm := Lib.hid hm; have Hp := Lib.hid hp
  clear hPl hC h hm hp
  go_enter Try.func10, Try.ntmps10
  go_upto_region 1 with fail
  change Code.wp _ _ _ _ (w.alloc (a.blk (.slice A a.sp.length cap)))
  have hX0 := heap_alloc_new w (a.blk (.slice A a.sp.length cap))
  have hB0 : Below w.heap.size w (w.alloc (a.blk (.slice A a.sp.length cap))) := al _
  generalize w.alloc (a.blk (.slice A a.sp.length cap)) = w0 at *
  have HA0 := Lib.hid hX0; have HB0 := Lib.hid hB0
  clear hX0 hB0
  go_upto_region 3 with (go_at_call 13
                         refine (awakeA _).mono ?_
                         rintro e w1 ⟨rfl, hb1⟩
                         have HA1 := Lib.hid (blk_below hb1 (lt_of_some HA0.out) HA0.out)
                         have HB1 := Lib.hid (HB0.out.trans (hb1.mono HB0.out.size))
                         clear hb1)
  refine wp_region_lit ?_
  refine wpList_load26 rfl (.tmp 4) rfl (w.heap.size) rfl HA1.out ?_
  simp only [Act.put, List.setIfInBounds_toArray, List.set_cons_zero, List.set_cons_succ]
  refine wpList_step (fun K hK => ?_)
  go_simp
  refine hK _ _ ?_
  clear hK K
  refine wpList_step (fun K hK => ?_)
  go_simp
  go_at_call 32
  refine (HPl.out _ (HI.out.below HB1.out)).mono ?_
  rintro e w2 ⟨rfl, hb2⟩
  refine hK _ _ ?_
  clear hK K
  have HA2 := Lib.hid (blk_below hb2 (lt_of_some HA1.out) HA1.out)
  have HB2 := Lib.hid (HB1.out.trans (hb2.mono HB1.out.size))
  clear hb2
  go_upto_region 4 with fail
  refine wp_region_lit ?_
  refine wpList_load26 rfl (.tmp 4) rfl (w.heap.size) rfl HA2.out ?_
  simp only [Act.put, List.setIfInBounds_toArray, List.set_cons_zero, List.set_cons_succ]
  refine wpList_step (fun K hK => ?_)
  go_simp
  go_at_call 29
  refine (HC.out _ (HI.out.below HB2.out)).mono ?_
  rintro e w3 ⟨rfl, hb3⟩
  refine hK _ _ ?_
  clear hK K
  have HA3 := Lib.hid (blk_below hb3 (lt_of_some HA2.out) HA2.out)
  have HB3 := Lib.hid (HB2.out.trans (hb3.mono HB2.out.size))
  clear hb3
  obtain ⟨m0, m1, m2, m3, m4, m5, m6, m7, m8, m9, m10, mlt⟩ := map_cells HA3.out
  obtain ⟨b_, off, hAe, blt, p0, p1, p2, p3, p4⟩ := span_cells (HI.out.below HB3.out).row k hk
  rw [hs] at p0 p1 p2 p3 p4
  obtain rfl := hAe
  have hk1 : (0 : Int) ≤ (k : Int) := by omega
  have hk2 : (k : Int) < (a.sp.length : Int) := by omega
  have hw1 : IntKind.i64.wrap (s.ep + 1) = s.ep + 1 := IntWalk.i64_in _ (by omega)
  have hw2 : IntKind.i64.wrap (s.ep + 2) = s.ep + 2 := IntWalk.i64_in _ (by omega)
  have hl16 : a.sp.length ≤ 16 := (of_tr Hm.out).2.2.2.1.1
  have hw3 : IntKind.i64.wrap ((a.sp.length : Int) + 1) = (a.sp.length : Int) + 1 := IntWalk.i64_in _ (by omega)
  go_upto_region 7 with fail
  clear m0 m1 m2 m3 m4 m5 m6 m7 m8 m9 m10 mlt p0 p1 p2 p3 p4
  have HS4 := Lib.hid (heap_alloc_new w3 s.blk)
  have hb4 : Below w3.heap.size w3 (w3.alloc s.blk) := al _
  have hdSA : w.heap.size < w3.heap.size := lt_of_some HA3.out
  change Code.wp _ _ _ _ (w3.alloc s.blk)
  have HA4 := Lib.hid (blk_below hb4 (lt_of_some HA3.out) HA3.out)
  have HB4 := Lib.hid (HB3.out.trans (hb4.mono HB3.out.size))
  clear hb4
  generalize w3.alloc s.blk = w4 at *
  refine wp_region_lit ?_
  refine wpList_load26 rfl (.tmp 4) rfl (w.heap.size) rfl HA4.out ?_
  simp only [Act.put, List.setIfInBounds_toArray, List.set_cons_zero, List.set_cons_succ]
  refine wpList_step (fun K hK => ?_)
  go_simp
  refine hK _ _ ?_
  clear hK K
  refine wpList_step (fun K hK => ?_)
  go_simp
  refine hK _ _ ?_
  clear hK K
  refine wpList_step (fun K hK => ?_)
  go_simp
  refine hK _ _ ?_
  clear hK K
  refine wpList_step (fun K hK => ?_)
  go_simp
  go_at_call 14
  refine (HF1.out _ (HI.out.below HB4.out)).mono ?_
  rintro e w5 ⟨A5, c5, rfl, hI5, hb5⟩
  refine hK _ _ ?_
  clear hK K
  refine wpList_step (fun K hK => ?_)
  go_simp
  refine hK _ _ ?_
  clear hK K
  refine wpList_step (fun K hK => ?_)
  go_simp
  refine hK _ _ ?_
  clear hK K
  refine wpList_step (fun K hK => ?_)
  go_simp
  refine hK _ _ ?_
  clear hK K
  refine wpList_step (fun K hK => ?_)
  go_simp
  refine hK _ _ ?_
  clear hK K
  refine wpList_store26 rfl (.tmp 11) (.tmp 52) rfl w5.heap.size rfl (m := b) (v := (.slice A5 b.sp.length c5)) (m0 := zeroA) (v0 := nilV) rfl rfl (heap_alloc_new w5 _) ?_
  intro w6 hS ho
  simp only [Act.put, List.setIfInBounds_toArray, List.set_cons_zero, List.set_cons_succ]
  have hb : Below w5.heap.size w5 w6 := ho.below (al _) (fun k hk => by omega) (by simp)
  have hl : w5.heap.size < w6.heap.size := lt_of_some hS
  clear ho
  have hdBA : w.heap.size < w5.heap.size := by have := lt_of_some HA4.out; have := hb5.size; omega
  have hdBS : w3.heap.size < w5.heap.size := by have := lt_of_some HS4.out; have := hb5.size; omega
  have hbx : Below w4.heap.size w4 w6 := hb5.trans (hb.mono hb5.size)
  have HA6 := Lib.hid (blk_below hbx (lt_of_some HA4.out) HA4.out)
  have HS6 := Lib.hid (blk_below hbx (lt_of_some HS4.out) HS4.out)
  have HB6 := Lib.hid (HB4.out.trans (hbx.mono HB4.out.size))
  have HIb6 := Lib.hid (hI5.below hb)
  have HQB6 := Lib.hid hS
  clear hb5 hb hbx hI5 hS hl
  go_upto_region 17 with fail
  refine wp_region_lit ?_
  refine wpList_load26 rfl (.tmp 4) rfl (w.heap.size) rfl HA6.out ?_
  simp only [Act.put, List.setIfInBounds_toArray, List.set_cons_zero, List.set_cons_succ]
  refine wpList_step (fun K hK => ?_)
  go_simp
  refine hK _ _ ?_
  clear hK K
  refine wpList_step (fun K hK => ?_)
  go_simp
  refine hK _ _ ?_
  clear hK K
  refine wpList_step (fun K hK => ?_)
  go_simp
  refine hK _ _ ?_
  clear hK K
  refine wpList_step (fun K hK => ?_)
  go_simp
  go_at_call 14
  refine (HM.out _ (HI.out.below HB6.out)).mono ?_
  rintro e w7 ⟨A7, c7, rfl, hI7, hb7⟩
  refine hK _ _ ?_
  clear hK K
  refine wpList_step (fun K hK => ?_)
  go_simp
  refine hK _ _ ?_
  clear hK K
  refine wpList_step (fun K hK => ?_)
  go_simp
  refine hK _ _ ?_
  clear hK K
  refine wpList_step (fun K hK => ?_)
  go_simp
  refine hK _ _ ?_
  clear hK K
  have hA7 := blk_below hb7 (lt_of_some HA6.out) HA6.out
  have hS7 := blk_below hb7 (lt_of_some HS6.out) HS6.out
  have hQB7 := blk_below hb7 (lt_of_some HQB6.out) HQB6.out
  have hB7 := HB6.out.trans (hb7.mono HB6.out.size)
  refine wpList_store26 rfl (.tmp 11) (.tmp 162) rfl w5.heap.size rfl (m := (f 1)) (v := .slice A7 (f 1).sp.length c7) (m0 := b) (v0 := (.slice A5 b.sp.length c5)) rfl rfl hQB7 ?_
  intro w8 hN ho
  simp only [Act.put, List.setIfInBounds_toArray, List.set_cons_zero, List.set_cons_succ]
  have HA8 := Lib.hid ((ho.block _ (lt_of_some hA7) (by show ¬ _ = _; omega)).trans hA7)
  have HS8 := Lib.hid ((ho.block _ (lt_of_some hS7) (by show ¬ _ = _; omega)).trans hS7)
  have HQB8 := Lib.hid hN
  have HB8 := Lib.hid (ho.below hB7 (fun q hq => by have hq : q = w5.heap.size := hq; omega) hB7.size)
  have HIy8 := Lib.hid (hI7.setMap hQB7 ho)
  clear hA7 hS7 hQB7 hB7 hI7 hb7 hN ho
  go_wp2_with fail
  go_loopw [19] (fun v wr => ∃ (n : Nat) (B : Option Addr) (c : Nat), 1 ≤ n ∧ n ≤ 4 ∧ v = .int .i64 n ∧ wr.heap[w5.heap.size]? = some ((f n).blk (.slice B (f n).sp.length c)) ∧ MapIn wr B c (f n) ∧ wr.heap[w3.heap.size]? = some s.blk ∧ Below w.heap.size w wr) (fun v _ => 4 - (intOf v).toNat)
  case atStart => exact ⟨1, A7, c7, by omega, by omega, rfl, HQB8.out, HIy8.out, HS8.out, HB8.out⟩
  case round =>
    obtain ⟨n, B, c, hn0, hn, rfl, hFn, hIn, hSn, hBn⟩ := hrel
    have hw4 : IntKind.i64.wrap ((n : Int) + 1) = (n : Int) + 1 := IntWalk.i64_in _ (by omega)
    have HFn := Lib.hid hFn; have HIn := Lib.hid hIn; have HSn := Lib.hid hSn; have HBn := Lib.hid hBn
    clear hFn hIn hSn hBn
    by_cases hlt : n ≤ 3
    · go_upto_region 23 with fail
      refine wp_region_lit ?_
      refine wpList_load26 rfl (.tmp 11) rfl (w5.heap.size) rfl HFn.out ?_
      simp only [Act.put, List.setIfInBounds_toArray, List.set_cons_zero, List.set_cons_succ]
      refine wpList_step (fun K hK => ?_)
      go_simp
      refine hK _ _ ?_
      clear hK K
      refine wpList_step (fun K hK => ?_)
      go_simp
      go_at_call 17
      refine (HV.out n hn0 hlt _ _ _ HIn.out).mono ?_
      rintro e w27 ⟨A27, c27, rfl, hI27, hb27⟩
      refine hK _ _ ?_
      clear hK K
      refine wpList_step (fun K hK => ?_)
      go_simp
      refine hK _ _ ?_
      clear hK K
      refine wpList_step (fun K hK => ?_)
      go_simp
      refine hK _ _ ?_
      clear hK K
      refine wpList_step (fun K hK => ?_)
      go_simp
      refine hK _ _ ?_
      clear hK K
      refine wpList_step (fun K hK => ?_)
      go_simp
      refine hK _ _ ?_
      clear hK K
      refine wpList_store26 rfl (.tmp 20) (.tmp 174) rfl w27.heap.size rfl (m := (f (n + 1))) (v := (.slice A27 (f (n + 1)).sp.length c27)) (m0 := zeroA) (v0 := nilV) rfl rfl (heap_alloc_new w27 _) ?_
      intro w28 hT ho
      simp only [Act.put, List.setIfInBounds_toArray, List.set_cons_zero, List.set_cons_succ]
      have hb : Below w27.heap.size w27 w28 := ho.below (al _) (fun k hk => by omega) (by simp)
      have hl : w27.heap.size < w28.heap.size := lt_of_some hT
      clear ho
      have hbx : Below wr.heap.size wr w28 := hb27.trans (hb.mono hb27.size)
      have HF28 := Lib.hid (blk_below hbx (lt_of_some HFn.out) HFn.out)
      have HS28 := Lib.hid (blk_below hbx (lt_of_some HSn.out) HSn.out)
      have HB28 := Lib.hid (HBn.out.trans (hbx.mono HBn.out.size))
      have HI28 := Lib.hid (hI27.below hb)
      have HT28 := Lib.hid hT
      clear hb27 hb hbx hI27 hT
      go_upto_region 26 with fail
      refine wp_region_lit ?_
      refine wpList_load26 rfl (.tmp 20) rfl (w27.heap.size) rfl HT28.out ?_
      simp only [Act.put, List.setIfInBounds_toArray, List.set_cons_zero, List.set_cons_succ]
      refine wpList_store26 rfl (.tmp 11) (.tmp 178) rfl w5.heap.size rfl (m := f (n + 1)) (v := .slice A27 (f (n + 1)).sp.length c27) (m0 := f n) (v0 := .slice B (f n).sp.length c) rfl rfl HF28.out ?_
      intro w29 hN ho
      simp only [Act.put, List.setIfInBounds_toArray, List.set_cons_zero, List.set_cons_succ]
      have HB29 := Lib.hid (ho.below HB28.out (fun q hq => by have hq : q = w5.heap.size := hq; omega) HB28.out.size)
      have HI29 := Lib.hid (HI28.out.setMap HF28.out ho)
      have HS29 := Lib.hid ((ho.block _ (lt_of_some HS28.out) (by show ¬ _ = _; omega)).trans HS28.out)
      have HN29 := Lib.hid hN
      clear hN ho
      go_wp2_with fail
      go_roundw
      case rel => exact ⟨n + 1, A27, c27, by omega, by omega, by go_num, HN29.out, HI29.out, HS29.out, HB29.out⟩
      case measure => simp [intOf]; omega
    · obtain rfl : n = 4 := by omega
      obtain ⟨u0, u1, u2, u3, u4, u5, u6, u7, u8, u9, u10, ult⟩ := map_cells HFn.out
      obtain ⟨s0, s1, s2, s3, s4, slt⟩ := span_blk HSn.out
      obtain ⟨bx2, off2, hA2, blt2, p0, p1, p2, p3, p4⟩ := span_cells HIn.out.row k hkf
      rw [Hfk.out] at p0 p1 p2 p3 p4
      obtain rfl := hA2
      have hkf2 : (k : Int) < ((f 4).sp.length : Int) := by omega
      have hfz := Hfz.out
      have hbl : Below wr.heap.size wr (wr.alloc (.cells #[.string s.fr, .string s.to, .int .i64 s.sh, .int .i64 (s.ep + 1), .int .i64 gp] 50)) := al _
      have Hbl := Lib.hid (HBn.out.trans (hbl.mono HBn.out.size))
      go_wp2_with fail
      go_ret
      exact ⟨rfl, Hbl.out⟩
set_option maxRecDepth 100000 in
set_option maxHeartbeats 4000000 in
theorem back_half_no (w : World) (A : Option Addr) (cap : Nat) (a : Atl) (sh gp : Int) (key : ByteArray) (h : MapIn w A cap a) (k : Nat) (s : Span) (hk : k < a.sp.length) (hs : a.sp[k] = s) (he1 : 1 ≤ s.ep) (he2 : s.ep ≤ 1099511627776) (hp : place a.sp sh = (k : Int)) (hm : tr (MapOk a) = true) (b0 : (a.plan.kind == 0) = true) (b c d : Atl) (hF1 : GivesMap 14 (fun v => #[v, (splitP sh key).val]) A cap a b 0) (hF2 : ∀ A cap, GivesMap 17 (fun v => #[v, .int .i64 1]) A cap b c 0) (hlc : ((c.sp.length : Int) == (a.sp.length : Int) + 1) = true) (hF3 : ∀ A cap, GivesMap 14 (fun v => #[v, (mergeP sh).val]) A cap c d 1) (hlt : ¬ s.ep < 1099511627773) (hlt' : decide (s.ep < 1099511627773) = false) (y : Atl) (n2 : Int) (g3 : ¬ n2 = 0) (g4 : (n2 == 0) = false) (hM : GivesMap 14 (fun v => #[v, (moveP sh gp).val]) A cap a y n2) :
    Calls Try.prog 10 #[a.val (.slice A a.sp.length cap), .int .i64 sh, .string key, .int .i64 gp] w fun e w' => e = .returned (.bool true) ∧ Below w.heap.size w w' := by
  have hlc' : ((c.sp.length : Int) != (a.sp.length : Int) + 1) = false := by rw [bne, hlc]; rfl
  have HF1 := Lib.hid hF1; have HF2 := Lib.hid hF2; clear hF1 hF2
  have HF3 := Lib.hid hF3; clear hF3
  have HM := Lib.hid hM; clear hM
  have bn0 : (a.plan.kind != 0) = false := by rw [bne, b0]; rfl
  have hPl : ∀ w, MapIn w A cap a → Calls Try.prog 32 #[a.val (.slice A a.sp.length cap), .int .i64 sh] w fun e w' => e = .returned (.int .i64 (k : Int)) ∧ Below w.heap.size w w' := fun w h => by
    have := rPlace_any w A cap a sh h.row (Nat.le_trans h.ncap h.cmax)
    rw [hp] at this
    exact this
  have hC := fun w h => check_any w A cap a h
  rw [hm] at hC
  have HPl := Lib.hid hPl; have HC := Lib.hid hC; have HI := Lib.hid h; have Hm := Lib.hid hm; have Hp := Lib.hid hp
  clear hPl hC h hm hp
  go_enter Try.func10, Try.ntmps10
  go_upto_region 1 with fail
  change Code.wp _ _ _ _ (w.alloc (a.blk (.slice A a.sp.length cap)))
  have hX0 := heap_alloc_new w (a.blk (.slice A a.sp.length cap))
  have hB0 : Below w.heap.size w (w.alloc (a.blk (.slice A a.sp.length cap))) := al _
  generalize w.alloc (a.blk (.slice A a.sp.length cap)) = w0 at *
  have HA0 := Lib.hid hX0; have HB0 := Lib.hid hB0
  clear hX0 hB0
  go_upto_region 3 with (go_at_call 13
                         refine (awakeA _).mono ?_
                         rintro e w1 ⟨rfl, hb1⟩
                         have HA1 := Lib.hid (blk_below hb1 (lt_of_some HA0.out) HA0.out)
                         have HB1 := Lib.hid (HB0.out.trans (hb1.mono HB0.out.size))
                         clear hb1)
  refine wp_region_lit ?_
  refine wpList_load26 rfl (.tmp 4) rfl (w.heap.size) rfl HA1.out ?_
  simp only [Act.put, List.setIfInBounds_toArray, List.set_cons_zero, List.set_cons_succ]
  refine wpList_step (fun K hK => ?_)
  go_simp
  refine hK _ _ ?_
  clear hK K
  refine wpList_step (fun K hK => ?_)
  go_simp
  go_at_call 32
  refine (HPl.out _ (HI.out.below HB1.out)).mono ?_
  rintro e w2 ⟨rfl, hb2⟩
  refine hK _ _ ?_
  clear hK K
  have HA2 := Lib.hid (blk_below hb2 (lt_of_some HA1.out) HA1.out)
  have HB2 := Lib.hid (HB1.out.trans (hb2.mono HB1.out.size))
  clear hb2
  go_upto_region 4 with fail
  refine wp_region_lit ?_
  refine wpList_load26 rfl (.tmp 4) rfl (w.heap.size) rfl HA2.out ?_
  simp only [Act.put, List.setIfInBounds_toArray, List.set_cons_zero, List.set_cons_succ]
  refine wpList_step (fun K hK => ?_)
  go_simp
  go_at_call 29
  refine (HC.out _ (HI.out.below HB2.out)).mono ?_
  rintro e w3 ⟨rfl, hb3⟩
  refine hK _ _ ?_
  clear hK K
  have HA3 := Lib.hid (blk_below hb3 (lt_of_some HA2.out) HA2.out)
  have HB3 := Lib.hid (HB2.out.trans (hb3.mono HB2.out.size))
  clear hb3
  obtain ⟨m0, m1, m2, m3, m4, m5, m6, m7, m8, m9, m10, mlt⟩ := map_cells HA3.out
  obtain ⟨b_, off, hAe, blt, p0, p1, p2, p3, p4⟩ := span_cells (HI.out.below HB3.out).row k hk
  rw [hs] at p0 p1 p2 p3 p4
  obtain rfl := hAe
  have hk1 : (0 : Int) ≤ (k : Int) := by omega
  have hk2 : (k : Int) < (a.sp.length : Int) := by omega
  have hw1 : IntKind.i64.wrap (s.ep + 1) = s.ep + 1 := IntWalk.i64_in _ (by omega)
  have hw2 : IntKind.i64.wrap (s.ep + 2) = s.ep + 2 := IntWalk.i64_in _ (by omega)
  have hl16 : a.sp.length ≤ 16 := (of_tr Hm.out).2.2.2.1.1
  have hw3 : IntKind.i64.wrap ((a.sp.length : Int) + 1) = (a.sp.length : Int) + 1 := IntWalk.i64_in _ (by omega)
  go_upto_region 7 with fail
  clear m0 m1 m2 m3 m4 m5 m6 m7 m8 m9 m10 mlt p0 p1 p2 p3 p4
  have HS4 := Lib.hid (heap_alloc_new w3 s.blk)
  have hb4 : Below w3.heap.size w3 (w3.alloc s.blk) := al _
  have hdSA : w.heap.size < w3.heap.size := lt_of_some HA3.out
  change Code.wp _ _ _ _ (w3.alloc s.blk)
  have HA4 := Lib.hid (blk_below hb4 (lt_of_some HA3.out) HA3.out)
  have HB4 := Lib.hid (HB3.out.trans (hb4.mono HB3.out.size))
  clear hb4
  generalize w3.alloc s.blk = w4 at *
  refine wp_region_lit ?_
  refine wpList_load26 rfl (.tmp 4) rfl (w.heap.size) rfl HA4.out ?_
  simp only [Act.put, List.setIfInBounds_toArray, List.set_cons_zero, List.set_cons_succ]
  refine wpList_step (fun K hK => ?_)
  go_simp
  refine hK _ _ ?_
  clear hK K
  refine wpList_step (fun K hK => ?_)
  go_simp
  refine hK _ _ ?_
  clear hK K
  refine wpList_step (fun K hK => ?_)
  go_simp
  refine hK _ _ ?_
  clear hK K
  refine wpList_step (fun K hK => ?_)
  go_simp
  go_at_call 14
  refine (HF1.out _ (HI.out.below HB4.out)).mono ?_
  rintro e w5 ⟨A5, c5, rfl, hI5, hb5⟩
  refine hK _ _ ?_
  clear hK K
  refine wpList_step (fun K hK => ?_)
  go_simp
  refine hK _ _ ?_
  clear hK K
  refine wpList_step (fun K hK => ?_)
  go_simp
  refine hK _ _ ?_
  clear hK K
  refine wpList_step (fun K hK => ?_)
  go_simp
  refine hK _ _ ?_
  clear hK K
  refine wpList_step (fun K hK => ?_)
  go_simp
  refine hK _ _ ?_
  clear hK K
  refine wpList_store26 rfl (.tmp 11) (.tmp 52) rfl w5.heap.size rfl (m := b) (v := (.slice A5 b.sp.length c5)) (m0 := zeroA) (v0 := nilV) rfl rfl (heap_alloc_new w5 _) ?_
  intro w6 hS ho
  simp only [Act.put, List.setIfInBounds_toArray, List.set_cons_zero, List.set_cons_succ]
  have hb : Below w5.heap.size w5 w6 := ho.below (al _) (fun k hk => by omega) (by simp)
  have hl : w5.heap.size < w6.heap.size := lt_of_some hS
  clear ho
  have hdBA : w.heap.size < w5.heap.size := by have := lt_of_some HA4.out; have := hb5.size; omega
  have hdBS : w3.heap.size < w5.heap.size := by have := lt_of_some HS4.out; have := hb5.size; omega
  have hbx : Below w4.heap.size w4 w6 := hb5.trans (hb.mono hb5.size)
  have HA6 := Lib.hid (blk_below hbx (lt_of_some HA4.out) HA4.out)
  have HS6 := Lib.hid (blk_below hbx (lt_of_some HS4.out) HS4.out)
  have HB6 := Lib.hid (HB4.out.trans (hbx.mono HB4.out.size))
  have HIb6 := Lib.hid (hI5.below hb)
  have HQB6 := Lib.hid hS
  clear hb5 hb hbx hI5 hS hl
  go_upto_region 9 with fail
  refine wp_region_lit ?_
  refine wpList_load26 rfl (.tmp 11) rfl (w5.heap.size) rfl HQB6.out ?_
  simp only [Act.put, List.setIfInBounds_toArray, List.set_cons_zero, List.set_cons_succ]
  refine wpList_step (fun K hK => ?_)
  go_simp
  go_at_call 17
  refine (HF2.out _ _ _ HIb6.out).mono ?_
  rintro e w7 ⟨A7, c7, rfl, hI7, hb7⟩
  refine hK _ _ ?_
  clear hK K
  refine wpList_step (fun K hK => ?_)
  go_simp
  refine hK _ _ ?_
  clear hK K
  refine wpList_step (fun K hK => ?_)
  go_simp
  refine hK _ _ ?_
  clear hK K
  refine wpList_step (fun K hK => ?_)
  go_simp
  refine hK _ _ ?_
  clear hK K
  refine wpList_step (fun K hK => ?_)
  go_simp
  refine hK _ _ ?_
  clear hK K
  refine wpList_store26 rfl (.tmp 13) (.tmp 59) rfl w7.heap.size rfl (m := c) (v := (.slice A7 c.sp.length c7)) (m0 := zeroA) (v0 := nilV) rfl rfl (heap_alloc_new w7 _) ?_
  intro w8 hS ho
  simp only [Act.put, List.setIfInBounds_toArray, List.set_cons_zero, List.set_cons_succ]
  have hb : Below w7.heap.size w7 w8 := ho.below (al _) (fun k hk => by omega) (by simp)
  have hl : w7.heap.size < w8.heap.size := lt_of_some hS
  clear ho
  have hdCA : w.heap.size < w7.heap.size := by have := lt_of_some HA6.out; have := hb7.size; omega
  have hdCS : w3.heap.size < w7.heap.size := by have := lt_of_some HS6.out; have := hb7.size; omega
  have hdCB : w5.heap.size < w7.heap.size := by have := lt_of_some HQB6.out; have := hb7.size; omega
  have hbx : Below w6.heap.size w6 w8 := hb7.trans (hb.mono hb7.size)
  have HA8 := Lib.hid (blk_below hbx (lt_of_some HA6.out) HA6.out)
  have HS8 := Lib.hid (blk_below hbx (lt_of_some HS6.out) HS6.out)
  have HQB8 := Lib.hid (blk_below hbx (lt_of_some HQB6.out) HQB6.out)
  have HIb8 := Lib.hid (HIb6.out.below hbx)
  have HB8 := Lib.hid (HB6.out.trans (hbx.mono HB6.out.size))
  have HIc8 := Lib.hid (hI7.below hb)
  have HQC8 := Lib.hid hS
  clear hb7 hb hbx hI7 hS hl
  go_upto_region 10 with fail
  refine wp_region_lit ?_
  refine wpList_load26 rfl (.tmp 13) rfl (w7.heap.size) rfl HQC8.out ?_
  simp only [Act.put, List.setIfInBounds_toArray, List.set_cons_zero, List.set_cons_succ]
  refine wpList_step (fun K hK => ?_)
  go_simp
  refine hK _ _ ?_
  clear hK K
  refine wpList_step (fun K hK => ?_)
  go_simp
  refine hK _ _ ?_
  clear hK K
  refine wpList_step (fun K hK => ?_)
  go_simp
  go_at_call 14
  refine (HF3.out _ _ _ HIc8.out).mono ?_
  rintro e w9 ⟨A9, c9, rfl, hI9, hb9⟩
  refine hK _ _ ?_
  clear hK K
  refine wpList_step (fun K hK => ?_)
  go_simp
  refine hK _ _ ?_
  clear hK K
  refine wpList_step (fun K hK => ?_)
  go_simp
  refine hK _ _ ?_
  clear hK K
  refine wpList_step (fun K hK => ?_)
  go_simp
  refine hK _ _ ?_
  clear hK K
  refine wpList_step (fun K hK => ?_)
  go_simp
  refine hK _ _ ?_
  clear hK K
  refine wpList_store26 rfl (.tmp 15) (.tmp 66) rfl w9.heap.size rfl (m := d) (v := (.slice A9 d.sp.length c9)) (m0 := zeroA) (v0 := nilV) rfl rfl (heap_alloc_new w9 _) ?_
  intro w10 hS ho
  simp only [Act.put, List.setIfInBounds_toArray, List.set_cons_zero, List.set_cons_succ]
  have hb : Below w9.heap.size w9 w10 := ho.below (al _) (fun k hk => by omega) (by simp)
  have hl : w9.heap.size < w10.heap.size := lt_of_some hS
  clear ho
  have hdDA : w.heap.size < w9.heap.size := by have := lt_of_some HA8.out; have := hb9.size; omega
  have hdDS : w3.heap.size < w9.heap.size := by have := lt_of_some HS8.out; have := hb9.size; omega
  have hdDB : w5.heap.size < w9.heap.size := by have := lt_of_some HQB8.out; have := hb9.size; omega
  have hdDC : w7.heap.size < w9.heap.size := by have := lt_of_some HQC8.out; have := hb9.size; omega
  have hbx : Below w8.heap.size w8 w10 := hb9.trans (hb.mono hb9.size)
  have HA10 := Lib.hid (blk_below hbx (lt_of_some HA8.out) HA8.out)
  have HS10 := Lib.hid (blk_below hbx (lt_of_some HS8.out) HS8.out)
  have HQB10 := Lib.hid (blk_below hbx (lt_of_some HQB8.out) HQB8.out)
  have HQC10 := Lib.hid (blk_below hbx (lt_of_some HQC8.out) HQC8.out)
  have HIb10 := Lib.hid (HIb8.out.below hbx)
  have HIc10 := Lib.hid (HIc8.out.below hbx)
  have HB10 := Lib.hid (HB8.out.trans (hbx.mono HB8.out.size))
  have HId10 := Lib.hid (hI9.below hb)
  have HQD10 := Lib.hid hS
  clear hb9 hb hbx hI9 hS hl
  obtain ⟨m0, m1, m2, m3, m4, m5, m6, m7, m8, m9, m10, mlt⟩ := map_cells HA10.out
  obtain ⟨u0, u1, u2, u3, u4, u5, u6, u7, u8, u9, u10, ult⟩ := map_cells HQC10.out
  obtain ⟨s0, s1, s2, s3, s4, slt⟩ := span_blk HS10.out
  go_upto_region 17 with fail
  clear m0 m1 m2 m3 m4 m5 m6 m7 m8 m9 m10 mlt u0 u1 u2 u3 u4 u5 u6 u7 u8 u9 u10 ult s0 s1 s2 s3 s4 slt
  refine wp_region_lit ?_
  refine wpList_load26 rfl (.tmp 4) rfl (w.heap.size) rfl HA10.out ?_
  simp only [Act.put, List.setIfInBounds_toArray, List.set_cons_zero, List.set_cons_succ]
  refine wpList_step (fun K hK => ?_)
  go_simp
  refine hK _ _ ?_
  clear hK K
  refine wpList_step (fun K hK => ?_)
  go_simp
  refine hK _ _ ?_
  clear hK K
  refine wpList_step (fun K hK => ?_)
  go_simp
  refine hK _ _ ?_
  clear hK K
  refine wpList_step (fun K hK => ?_)
  go_simp
  go_at_call 14
  refine (HM.out _ (HI.out.below HB10.out)).mono ?_
  rintro e w11 ⟨A11, c11, rfl, hI11, hb11⟩
  refine hK _ _ ?_
  clear hK K
  refine wpList_step (fun K hK => ?_)
  go_simp
  refine hK _ _ ?_
  clear hK K
  refine wpList_step (fun K hK => ?_)
  go_simp
  refine hK _ _ ?_
  clear hK K
  refine wpList_step (fun K hK => ?_)
  go_simp
  refine hK _ _ ?_
  clear hK K
  have hA11 := blk_below hb11 (lt_of_some HA10.out) HA10.out
  have hS11 := blk_below hb11 (lt_of_some HS10.out) HS10.out
  have hQB11 := blk_below hb11 (lt_of_some HQB10.out) HQB10.out
  have hQC11 := blk_below hb11 (lt_of_some HQC10.out) HQC10.out
  have hQD11 := blk_below hb11 (lt_of_some HQD10.out) HQD10.out
  have hB11 := HB10.out.trans (hb11.mono HB10.out.size)
  refine wpList_store26 rfl (.tmp 11) (.tmp 162) rfl w5.heap.size rfl (m := y) (v := .slice A11 y.sp.length c11) (m0 := b) (v0 := (.slice A5 b.sp.length c5)) rfl rfl hQB11 ?_
  intro w12 hN ho
  simp only [Act.put, List.setIfInBounds_toArray, List.set_cons_zero, List.set_cons_succ]
  have HA12 := Lib.hid ((ho.block _ (lt_of_some hA11) (by show ¬ _ = _; omega)).trans hA11)
  have HS12 := Lib.hid ((ho.block _ (lt_of_some hS11) (by show ¬ _ = _; omega)).trans hS11)
  have HQB12 := Lib.hid hN
  have HB12 := Lib.hid (ho.below hB11 (fun q hq => by have hq : q = w5.heap.size := hq; omega) hB11.size)
  have HIy12 := Lib.hid (hI11.setMap hQB11 ho)
  clear hA11 hS11 hQB11 hQC11 hQD11 hB11 hI11 hb11 hN ho
  go_wp2_with fail
  go_ret
  exact ⟨rfl, HB12.out⟩
set_option maxRecDepth 100000 in
set_option maxHeartbeats 4000000 in
theorem back_half_yes (w : World) (A : Option Addr) (cap : Nat) (a : Atl) (sh gp : Int) (key : ByteArray) (h : MapIn w A cap a) (k : Nat) (s : Span) (hk : k < a.sp.length) (hs : a.sp[k] = s) (he1 : 1 ≤ s.ep) (he2 : s.ep ≤ 1099511627776) (hp : place a.sp sh = (k : Int)) (hm : tr (MapOk a) = true) (b0 : (a.plan.kind == 0) = true) (b c d : Atl) (hF1 : GivesMap 14 (fun v => #[v, (splitP sh key).val]) A cap a b 0) (hF2 : ∀ A cap, GivesMap 17 (fun v => #[v, .int .i64 1]) A cap b c 0) (hlc : ((c.sp.length : Int) == (a.sp.length : Int) + 1) = true) (hF3 : ∀ A cap, GivesMap 14 (fun v => #[v, (mergeP sh).val]) A cap c d 1) (hlt : ¬ s.ep < 1099511627773) (hlt' : decide (s.ep < 1099511627773) = false) (f : Nat → Atl) (hM : GivesMap 14 (fun v => #[v, (moveP sh gp).val]) A cap a (f 1) 0) (hV : ∀ j : Nat, 1 ≤ j → j ≤ 3 → ∀ A cap, GivesMap 17 (fun v => #[v, .int .i64 (j : Int)]) A cap (f j) (f (j + 1)) 0) (hfz : ((f 4).plan.kind == 0) = true) (hkf : k < (f 4).sp.length) (hfk : (f 4).sp[k] = ⟨s.fr, s.to, s.sh, s.ep + 1, gp⟩) :
    Calls Try.prog 10 #[a.val (.slice A a.sp.length cap), .int .i64 sh, .string key, .int .i64 gp] w fun e w' => e = .returned (.bool true) ∧ Below w.heap.size w w' := by
  have hlc' : ((c.sp.length : Int) != (a.sp.length : Int) + 1) = false := by rw [bne, hlc]; rfl
  have HF1 := Lib.hid hF1; have HF2 := Lib.hid hF2; clear hF1 hF2
  have HF3 := Lib.hid hF3; clear hF3
  have HV := Lib.hid hV; have Hfk := Lib.hid hfk; have Hfz := Lib.hid hfz; clear hV hfk hfz
  have HM := Lib.hid hM; clear hM
  have bn0 : (a.plan.kind != 0) = false := by rw [bne, b0]; rfl
  have hPl : ∀ w, MapIn w A cap a → Calls Try.prog 32 #[a.val (.slice A a.sp.length cap), .int .i64 sh] w fun e w' => e = .returned (.int .i64 (k : Int)) ∧ Below w.heap.size w w' := fun w h => by
    have := rPlace_any w A cap a sh h.row (Nat.le_trans h.ncap h.cmax)
    rw [hp] at this
    exact this
  have hC := fun w h => check_any w A cap a h
  rw [hm] at hC
  have HPl := Lib.hid hPl; have HC := Lib.hid hC; have HI := Lib.hid h; have Hm := Lib.hid hm; have Hp := Lib.hid hp
  clear hPl hC h hm hp
  go_enter Try.func10, Try.ntmps10
  go_upto_region 1 with fail
  change Code.wp _ _ _ _ (w.alloc (a.blk (.slice A a.sp.length cap)))
  have hX0 := heap_alloc_new w (a.blk (.slice A a.sp.length cap))
  have hB0 : Below w.heap.size w (w.alloc (a.blk (.slice A a.sp.length cap))) := al _
  generalize w.alloc (a.blk (.slice A a.sp.length cap)) = w0 at *
  have HA0 := Lib.hid hX0; have HB0 := Lib.hid hB0
  clear hX0 hB0
  go_upto_region 3 with (go_at_call 13
                         refine (awakeA _).mono ?_
                         rintro e w1 ⟨rfl, hb1⟩
                         have HA1 := Lib.hid (blk_below hb1 (lt_of_some HA0.out) HA0.out)
                         have HB1 := Lib.hid (HB0.out.trans (hb1.mono HB0.out.size))
                         clear hb1)
  refine wp_region_lit ?_
  refine wpList_load26 rfl (.tmp 4) rfl (w.heap.size) rfl HA1.out ?_
  simp only [Act.put, List.setIfInBounds_toArray, List.set_cons_zero, List.set_cons_succ]
  refine wpList_step (fun K hK => ?_)
  go_simp
  refine hK _ _ ?_
  clear hK K
  refine wpList_step (fun K hK => ?_)
  go_simp
  go_at_call 32
  refine (HPl.out _ (HI.out.below HB1.out)).mono ?_
  rintro e w2 ⟨rfl, hb2⟩
  refine hK _ _ ?_
  clear hK K
  have HA2 := Lib.hid (blk_below hb2 (lt_of_some HA1.out) HA1.out)
  have HB2 := Lib.hid (HB1.out.trans (hb2.mono HB1.out.size))
  clear hb2
  go_upto_region 4 with fail
  refine wp_region_lit ?_
  refine wpList_load26 rfl (.tmp 4) rfl (w.heap.size) rfl HA2.out ?_
  simp only [Act.put, List.setIfInBounds_toArray, List.set_cons_zero, List.set_cons_succ]
  refine wpList_step (fun K hK => ?_)
  go_simp
  go_at_call 29
  refine (HC.out _ (HI.out.below HB2.out)).mono ?_
  rintro e w3 ⟨rfl, hb3⟩
  refine hK _ _ ?_
  clear hK K
  have HA3 := Lib.hid (blk_below hb3 (lt_of_some HA2.out) HA2.out)
  have HB3 := Lib.hid (HB2.out.trans (hb3.mono HB2.out.size))
  clear hb3
  obtain ⟨m0, m1, m2, m3, m4, m5, m6, m7, m8, m9, m10, mlt⟩ := map_cells HA3.out
  obtain ⟨b_, off, hAe, blt, p0, p1, p2, p3, p4⟩ := span_cells (HI.out.below HB3.out).row k hk
  rw [hs] at p0 p1 p2 p3 p4
  obtain rfl := hAe
  have hk1 : (0 : Int) ≤ (k : Int) := by omega
  have hk2 : (k : Int) < (a.sp.length : Int) := by omega
  have hw1 : IntKind.i64.wrap (s.ep + 1) = s.ep + 1 := IntWalk.i64_in _ (by omega)
  have hw2 : IntKind.i64.wrap (s.ep + 2) = s.ep + 2 := IntWalk.i64_in _ (by omega)
  have hl16 : a.sp.length ≤ 16 := (of_tr Hm.out).2.2.2.1.1
  have hw3 : IntKind.i64.wrap ((a.sp.length : Int) + 1) = (a.sp.length : Int) + 1 := IntWalk.i64_in _ (by omega)
  go_upto_region 7 with fail
  clear m0 m1 m2 m3 m4 m5 m6 m7 m8 m9 m10 mlt p0 p1 p2 p3 p4
  have HS4 := Lib.hid (heap_alloc_new w3 s.blk)
  have hb4 : Below w3.heap.size w3 (w3.alloc s.blk) := al _
  have hdSA : w.heap.size < w3.heap.size := lt_of_some HA3.out
  change Code.wp _ _ _ _ (w3.alloc s.blk)
  have HA4 := Lib.hid (blk_below hb4 (lt_of_some HA3.out) HA3.out)
  have HB4 := Lib.hid (HB3.out.trans (hb4.mono HB3.out.size))
  clear hb4
  generalize w3.alloc s.blk = w4 at *
  refine wp_region_lit ?_
  refine wpList_load26 rfl (.tmp 4) rfl (w.heap.size) rfl HA4.out ?_
  simp only [Act.put, List.setIfInBounds_toArray, List.set_cons_zero, List.set_cons_succ]
  refine wpList_step (fun K hK => ?_)
  go_simp
  refine hK _ _ ?_
  clear hK K
  refine wpList_step (fun K hK => ?_)
  go_simp
  refine hK _ _ ?_
  clear hK K
  refine wpList_step (fun K hK => ?_)
  go_simp
  refine hK _ _ ?_
  clear hK K
  refine wpList_step (fun K hK => ?_)
  go_simp
  go_at_call 14
  refine (HF1.out _ (HI.out.below HB4.out)).mono ?_
  rintro e w5 ⟨A5, c5, rfl, hI5, hb5⟩
  refine hK _ _ ?_
  clear hK K
  refine wpList_step (fun K hK => ?_)
  go_simp
  refine hK _ _ ?_
  clear hK K
  refine wpList_step (fun K hK => ?_)
  go_simp
  refine hK _ _ ?_
  clear hK K
  refine wpList_step (fun K hK => ?_)
  go_simp
  refine hK _ _ ?_
  clear hK K
  refine wpList_step (fun K hK => ?_)
  go_simp
  refine hK _ _ ?_
  clear hK K
  refine wpList_store26 rfl (.tmp 11) (.tmp 52) rfl w5.heap.size rfl (m := b) (v := (.slice A5 b.sp.length c5)) (m0 := zeroA) (v0 := nilV) rfl rfl (heap_alloc_new w5 _) ?_
  intro w6 hS ho
  simp only [Act.put, List.setIfInBounds_toArray, List.set_cons_zero, List.set_cons_succ]
  have hb : Below w5.heap.size w5 w6 := ho.below (al _) (fun k hk => by omega) (by simp)
  have hl : w5.heap.size < w6.heap.size := lt_of_some hS
  clear ho
  have hdBA : w.heap.size < w5.heap.size := by have := lt_of_some HA4.out; have := hb5.size; omega
  have hdBS : w3.heap.size < w5.heap.size := by have := lt_of_some HS4.out; have := hb5.size; omega
  have hbx : Below w4.heap.size w4 w6 := hb5.trans (hb.mono hb5.size)
  have HA6 := Lib.hid (blk_below hbx (lt_of_some HA4.out) HA4.out)
  have HS6 := Lib.hid (blk_below hbx (lt_of_some HS4.out) HS4.out)
  have HB6 := Lib.hid (HB4.out.trans (hbx.mono HB4.out.size))
  have HIb6 := Lib.hid (hI5.below hb)
  have HQB6 := Lib.hid hS
  clear hb5 hb hbx hI5 hS hl
  go_upto_region 9 with fail
  refine wp_region_lit ?_
  refine wpList_load26 rfl (.tmp 11) rfl (w5.heap.size) rfl HQB6.out ?_
  simp only [Act.put, List.setIfInBounds_toArray, List.set_cons_zero, List.set_cons_succ]
  refine wpList_step (fun K hK => ?_)
  go_simp
  go_at_call 17
  refine (HF2.out _ _ _ HIb6.out).mono ?_
  rintro e w7 ⟨A7, c7, rfl, hI7, hb7⟩
  refine hK _ _ ?_
  clear hK K
  refine wpList_step (fun K hK => ?_)
  go_simp
  refine hK _ _ ?_
  clear hK K
  refine wpList_step (fun K hK => ?_)
  go_simp
  refine hK _ _ ?_
  clear hK K
  refine wpList_step (fun K hK => ?_)
  go_simp
  refine hK _ _ ?_
  clear hK K
  refine wpList_step (fun K hK => ?_)
  go_simp
  refine hK _ _ ?_
  clear hK K
  refine wpList_store26 rfl (.tmp 13) (.tmp 59) rfl w7.heap.size rfl (m := c) (v := (.slice A7 c.sp.length c7)) (m0 := zeroA) (v0 := nilV) rfl rfl (heap_alloc_new w7 _) ?_
  intro w8 hS ho
  simp only [Act.put, List.setIfInBounds_toArray, List.set_cons_zero, List.set_cons_succ]
  have hb : Below w7.heap.size w7 w8 := ho.below (al _) (fun k hk => by omega) (by simp)
  have hl : w7.heap.size < w8.heap.size := lt_of_some hS
  clear ho
  have hdCA : w.heap.size < w7.heap.size := by have := lt_of_some HA6.out; have := hb7.size; omega
  have hdCS : w3.heap.size < w7.heap.size := by have := lt_of_some HS6.out; have := hb7.size; omega
  have hdCB : w5.heap.size < w7.heap.size := by have := lt_of_some HQB6.out; have := hb7.size; omega
  have hbx : Below w6.heap.size w6 w8 := hb7.trans (hb.mono hb7.size)
  have HA8 := Lib.hid (blk_below hbx (lt_of_some HA6.out) HA6.out)
  have HS8 := Lib.hid (blk_below hbx (lt_of_some HS6.out) HS6.out)
  have HQB8 := Lib.hid (blk_below hbx (lt_of_some HQB6.out) HQB6.out)
  have HIb8 := Lib.hid (HIb6.out.below hbx)
  have HB8 := Lib.hid (HB6.out.trans (hbx.mono HB6.out.size))
  have HIc8 := Lib.hid (hI7.below hb)
  have HQC8 := Lib.hid hS
  clear hb7 hb hbx hI7 hS hl
  go_upto_region 10 with fail
  refine wp_region_lit ?_
  refine wpList_load26 rfl (.tmp 13) rfl (w7.heap.size) rfl HQC8.out ?_
  simp only [Act.put, List.setIfInBounds_toArray, List.set_cons_zero, List.set_cons_succ]
  refine wpList_step (fun K hK => ?_)
  go_simp
  refine hK _ _ ?_
  clear hK K
  refine wpList_step (fun K hK => ?_)
  go_simp
  refine hK _ _ ?_
  clear hK K
  refine wpList_step (fun K hK => ?_)
  go_simp
  go_at_call 14
  refine (HF3.out _ _ _ HIc8.out).mono ?_
  rintro e w9 ⟨A9, c9, rfl, hI9, hb9⟩
  refine hK _ _ ?_
  clear hK K
  refine wpList_step (fun K hK => ?_)
  go_simp
  refine hK _ _ ?_
  clear hK K
  refine wpList_step (fun K hK => ?_)
  go_simp
  refine hK _ _ ?_
  clear hK K
  refine wpList_step (fun K hK => ?_)
  go_simp
  refine hK _ _ ?_
  clear hK K
  refine wpList_step (fun K hK => ?_)
  go_simp
  refine hK _ _ ?_
  clear hK K
  refine wpList_store26 rfl (.tmp 15) (.tmp 66) rfl w9.heap.size rfl (m := d) (v := (.slice A9 d.sp.length c9)) (m0 := zeroA) (v0 := nilV) rfl rfl (heap_alloc_new w9 _) ?_
  intro w10 hS ho
  simp only [Act.put, List.setIfInBounds_toArray, List.set_cons_zero, List.set_cons_succ]
  have hb : Below w9.heap.size w9 w10 := ho.below (al _) (fun k hk => by omega) (by simp)
  have hl : w9.heap.size < w10.heap.size := lt_of_some hS
  clear ho
  have hdDA : w.heap.size < w9.heap.size := by have := lt_of_some HA8.out; have := hb9.size; omega
  have hdDS : w3.heap.size < w9.heap.size := by have := lt_of_some HS8.out; have := hb9.size; omega
  have hdDB : w5.heap.size < w9.heap.size := by have := lt_of_some HQB8.out; have := hb9.size; omega
  have hdDC : w7.heap.size < w9.heap.size := by have := lt_of_some HQC8.out; have := hb9.size; omega
  have hbx : Below w8.heap.size w8 w10 := hb9.trans (hb.mono hb9.size)
  have HA10 := Lib.hid (blk_below hbx (lt_of_some HA8.out) HA8.out)
  have HS10 := Lib.hid (blk_below hbx (lt_of_some HS8.out) HS8.out)
  have HQB10 := Lib.hid (blk_below hbx (lt_of_some HQB8.out) HQB8.out)
  have HQC10 := Lib.hid (blk_below hbx (lt_of_some HQC8.out) HQC8.out)
  have HIb10 := Lib.hid (HIb8.out.below hbx)
  have HIc10 := Lib.hid (HIc8.out.below hbx)
  have HB10 := Lib.hid (HB8.out.trans (hbx.mono HB8.out.size))
  have HId10 := Lib.hid (hI9.below hb)
  have HQD10 := Lib.hid hS
  clear hb9 hb hbx hI9 hS hl
  obtain ⟨m0, m1, m2, m3, m4, m5, m6, m7, m8, m9, m10, mlt⟩ := map_cells HA10.out
  obtain ⟨u0, u1, u2, u3, u4, u5, u6, u7, u8, u9, u10, ult⟩ := map_cells HQC10.out
  obtain ⟨s0, s1, s2, s3, s4, slt⟩ := span_blk HS10.out
  go_upto_region 17 with fail
  clear m0 m1 m2 m3 m4 m5 m6 m7 m8 m9 m10 mlt u0 u1 u2 u3 u4 u5 u6 u7 u8 u9 u10 ult s0 s1 s2 s3 s4 slt
  refine wp_region_lit ?_
  refine wpList_load26 rfl (.tmp 4) rfl (w.heap.size) rfl HA10.out ?_
  simp only [Act.put, List.setIfInBounds_toArray, List.set_cons_zero, List.set_cons_succ]
  refine wpList_step (fun K hK => ?_)
  go_simp
  refine hK _ _ ?_
  clear hK K
  refine wpList_step (fun K hK => ?_)
  go_simp
  refine hK _ _ ?_
  clear hK K
  refine wpList_step (fun K hK => ?_)
  go_simp
  refine hK _ _ ?_
  clear hK K
  refine wpList_step (fun K hK => ?_)
  go_simp
  go_at_call 14
  refine (HM.out _ (HI.out.below HB10.out)).mono ?_
  rintro e w11 ⟨A11, c11, rfl, hI11, hb11⟩
  refine hK _ _ ?_
  clear hK K
  refine wpList_step (fun K hK => ?_)
  go_simp
  refine hK _ _ ?_
  clear hK K
  refine wpList_step (fun K hK => ?_)
  go_simp
  refine hK _ _ ?_
  clear hK K
  refine wpList_step (fun K hK => ?_)
  go_simp
  refine hK _ _ ?_
  clear hK K
  have hA11 := blk_below hb11 (lt_of_some HA10.out) HA10.out
  have hS11 := blk_below hb11 (lt_of_some HS10.out) HS10.out
  have hQB11 := blk_below hb11 (lt_of_some HQB10.out) HQB10.out
  have hQC11 := blk_below hb11 (lt_of_some HQC10.out) HQC10.out
  have hQD11 := blk_below hb11 (lt_of_some HQD10.out) HQD10.out
  have hB11 := HB10.out.trans (hb11.mono HB10.out.size)
  refine wpList_store26 rfl (.tmp 11) (.tmp 162) rfl w5.heap.size rfl (m := (f 1)) (v := .slice A11 (f 1).sp.length c11) (m0 := b) (v0 := (.slice A5 b.sp.length c5)) rfl rfl hQB11 ?_
  intro w12 hN ho
  simp only [Act.put, List.setIfInBounds_toArray, List.set_cons_zero, List.set_cons_succ]
  have HA12 := Lib.hid ((ho.block _ (lt_of_some hA11) (by show ¬ _ = _; omega)).trans hA11)
  have HS12 := Lib.hid ((ho.block _ (lt_of_some hS11) (by show ¬ _ = _; omega)).trans hS11)
  have HQB12 := Lib.hid hN
  have HB12 := Lib.hid (ho.below hB11 (fun q hq => by have hq : q = w5.heap.size := hq; omega) hB11.size)
  have HIy12 := Lib.hid (hI11.setMap hQB11 ho)
  clear hA11 hS11 hQB11 hQC11 hQD11 hB11 hI11 hb11 hN ho
  go_wp2_with fail
  go_loopw [19] (fun v wr => ∃ (n : Nat) (B : Option Addr) (c : Nat), 1 ≤ n ∧ n ≤ 4 ∧ v = .int .i64 n ∧ wr.heap[w5.heap.size]? = some ((f n).blk (.slice B (f n).sp.length c)) ∧ MapIn wr B c (f n) ∧ wr.heap[w3.heap.size]? = some s.blk ∧ Below w.heap.size w wr) (fun v _ => 4 - (intOf v).toNat)
  case atStart => exact ⟨1, A11, c11, by omega, by omega, rfl, HQB12.out, HIy12.out, HS12.out, HB12.out⟩
  case round =>
    obtain ⟨n, B, c, hn0, hn, rfl, hFn, hIn, hSn, hBn⟩ := hrel
    have hw4 : IntKind.i64.wrap ((n : Int) + 1) = (n : Int) + 1 := IntWalk.i64_in _ (by omega)
    have HFn := Lib.hid hFn; have HIn := Lib.hid hIn; have HSn := Lib.hid hSn; have HBn := Lib.hid hBn
    clear hFn hIn hSn hBn
    by_cases hlt : n ≤ 3
    · go_upto_region 23 with fail
      refine wp_region_lit ?_
      refine wpList_load26 rfl (.tmp 11) rfl (w5.heap.size) rfl HFn.out ?_
      simp only [Act.put, List.setIfInBounds_toArray, List.set_cons_zero, List.set_cons_succ]
      refine wpList_step (fun K hK => ?_)
      go_simp
      refine hK _ _ ?_
      clear hK K
      refine wpList_step (fun K hK => ?_)
      go_simp
      go_at_call 17
      refine (HV.out n hn0 hlt _ _ _ HIn.out).mono ?_
      rintro e w27 ⟨A27, c27, rfl, hI27, hb27⟩
      refine hK _ _ ?_
      clear hK K
      refine wpList_step (fun K hK => ?_)
      go_simp
      refine hK _ _ ?_
      clear hK K
      refine wpList_step (fun K hK => ?_)
      go_simp
      refine hK _ _ ?_
      clear hK K
      refine wpList_step (fun K hK => ?_)
      go_simp
      refine hK _ _ ?_
      clear hK K
      refine wpList_step (fun K hK => ?_)
      go_simp
      refine hK _ _ ?_
      clear hK K
      refine wpList_store26 rfl (.tmp 20) (.tmp 174) rfl w27.heap.size rfl (m := (f (n + 1))) (v := (.slice A27 (f (n + 1)).sp.length c27)) (m0 := zeroA) (v0 := nilV) rfl rfl (heap_alloc_new w27 _) ?_
      intro w28 hT ho
      simp only [Act.put, List.setIfInBounds_toArray, List.set_cons_zero, List.set_cons_succ]
      have hb : Below w27.heap.size w27 w28 := ho.below (al _) (fun k hk => by omega) (by simp)
      have hl : w27.heap.size < w28.heap.size := lt_of_some hT
      clear ho
      have hbx : Below wr.heap.size wr w28 := hb27.trans (hb.mono hb27.size)
      have HF28 := Lib.hid (blk_below hbx (lt_of_some HFn.out) HFn.out)
      have HS28 := Lib.hid (blk_below hbx (lt_of_some HSn.out) HSn.out)
      have HB28 := Lib.hid (HBn.out.trans (hbx.mono HBn.out.size))
      have HI28 := Lib.hid (hI27.below hb)
      have HT28 := Lib.hid hT
      clear hb27 hb hbx hI27 hT
      go_upto_region 26 with fail
      refine wp_region_lit ?_
      refine wpList_load26 rfl (.tmp 20) rfl (w27.heap.size) rfl HT28.out ?_
      simp only [Act.put, List.setIfInBounds_toArray, List.set_cons_zero, List.set_cons_succ]
      refine wpList_store26 rfl (.tmp 11) (.tmp 178) rfl w5.heap.size rfl (m := f (n + 1)) (v := .slice A27 (f (n + 1)).sp.length c27) (m0 := f n) (v0 := .slice B (f n).sp.length c) rfl rfl HF28.out ?_
      intro w29 hN ho
      simp only [Act.put, List.setIfInBounds_toArray, List.set_cons_zero, List.set_cons_succ]
      have HB29 := Lib.hid (ho.below HB28.out (fun q hq => by have hq : q = w5.heap.size := hq; omega) HB28.out.size)
      have HI29 := Lib.hid (HI28.out.setMap HF28.out ho)
      have HS29 := Lib.hid ((ho.block _ (lt_of_some HS28.out) (by show ¬ _ = _; omega)).trans HS28.out)
      have HN29 := Lib.hid hN
      clear hN ho
      go_wp2_with fail
      go_roundw
      case rel => exact ⟨n + 1, A27, c27, by omega, by omega, by go_num, HN29.out, HI29.out, HS29.out, HB29.out⟩
      case measure => simp [intOf]; omega
    · obtain rfl : n = 4 := by omega
      obtain ⟨u0, u1, u2, u3, u4, u5, u6, u7, u8, u9, u10, ult⟩ := map_cells HFn.out
      obtain ⟨s0, s1, s2, s3, s4, slt⟩ := span_blk HSn.out
      obtain ⟨bx2, off2, hA2, blt2, p0, p1, p2, p3, p4⟩ := span_cells HIn.out.row k hkf
      rw [Hfk.out] at p0 p1 p2 p3 p4
      obtain rfl := hA2
      have hkf2 : (k : Int) < ((f 4).sp.length : Int) := by omega
      have hfz := Hfz.out
      have hbl : Below wr.heap.size wr (wr.alloc (.cells #[.string s.fr, .string s.to, .int .i64 s.sh, .int .i64 (s.ep + 1), .int .i64 gp] 50)) := al _
      have Hbl := Lib.hid (HBn.out.trans (hbl.mono HBn.out.size))
      go_wp2_with fail
      go_ret
      exact ⟨rfl, Hbl.out⟩
set_option maxRecDepth 100000 in
set_option maxHeartbeats 4000000 in
theorem back_full_no (w : World) (A : Option Addr) (cap : Nat) (a : Atl) (sh gp : Int) (key : ByteArray) (h : MapIn w A cap a) (k : Nat) (s : Span) (hk : k < a.sp.length) (hs : a.sp[k] = s) (he1 : 1 ≤ s.ep) (he2 : s.ep ≤ 1099511627776) (hp : place a.sp sh = (k : Int)) (hm : tr (MapOk a) = true) (b0 : (a.plan.kind == 0) = true) (b c d : Atl) (hF1 : GivesMap 14 (fun v => #[v, (splitP sh key).val]) A cap a b 0) (hF2 : ∀ A cap, GivesMap 17 (fun v => #[v, .int .i64 1]) A cap b c 0) (hlc : ((c.sp.length : Int) == (a.sp.length : Int) + 1) = true) (x : Atl) (hF3 : ∀ A cap, GivesMap 14 (fun v => #[v, (mergeP sh).val]) A cap c d 0) (hF4 : ∀ A cap, GivesMap 17 (fun v => #[v, .int .i64 1]) A cap d x 0) (hlx : ((x.sp.length : Int) == (a.sp.length : Int)) = true) (hkx : k < x.sp.length) (hxk : x.sp[k] = ⟨s.fr, s.to, s.sh, s.ep + 2, s.gr⟩) (y : Atl) (n2 : Int) (g3 : ¬ n2 = 0) (g4 : (n2 == 0) = false) (hM : GivesMap 14 (fun v => #[v, (moveP sh gp).val]) A cap a y n2) :
    Calls Try.prog 10 #[a.val (.slice A a.sp.length cap), .int .i64 sh, .string key, .int .i64 gp] w fun e w' => e = .returned (.bool true) ∧ Below w.heap.size w w' := by
  have hlx' : ((x.sp.length : Int) != (a.sp.length : Int)) = false := by rw [bne, hlx]; rfl
  have hlc' : ((c.sp.length : Int) != (a.sp.length : Int) + 1) = false := by rw [bne, hlc]; rfl
  have HF1 := Lib.hid hF1; have HF2 := Lib.hid hF2; clear hF1 hF2
  have HF4 := Lib.hid hF4; have Hxk := Lib.hid hxk; clear hF4 hxk
  have HF3 := Lib.hid hF3; clear hF3
  have HM := Lib.hid hM; clear hM
  have bn0 : (a.plan.kind != 0) = false := by rw [bne, b0]; rfl
  have hPl : ∀ w, MapIn w A cap a → Calls Try.prog 32 #[a.val (.slice A a.sp.length cap), .int .i64 sh] w fun e w' => e = .returned (.int .i64 (k : Int)) ∧ Below w.heap.size w w' := fun w h => by
    have := rPlace_any w A cap a sh h.row (Nat.le_trans h.ncap h.cmax)
    rw [hp] at this
    exact this
  have hC := fun w h => check_any w A cap a h
  rw [hm] at hC
  have HPl := Lib.hid hPl; have HC := Lib.hid hC; have HI := Lib.hid h; have Hm := Lib.hid hm; have Hp := Lib.hid hp
  clear hPl hC h hm hp
  go_enter Try.func10, Try.ntmps10
  go_upto_region 1 with fail
  change Code.wp _ _ _ _ (w.alloc (a.blk (.slice A a.sp.length cap)))
  have hX0 := heap_alloc_new w (a.blk (.slice A a.sp.length cap))
  have hB0 : Below w.heap.size w (w.alloc (a.blk (.slice A a.sp.length cap))) := al _
  generalize w.alloc (a.blk (.slice A a.sp.length cap)) = w0 at *
  have HA0 := Lib.hid hX0; have HB0 := Lib.hid hB0
  clear hX0 hB0
  go_upto_region 3 with (go_at_call 13
                         refine (awakeA _).mono ?_
                         rintro e w1 ⟨rfl, hb1⟩
                         have HA1 := Lib.hid (blk_below hb1 (lt_of_some HA0.out) HA0.out)
                         have HB1 := Lib.hid (HB0.out.trans (hb1.mono HB0.out.size))
                         clear hb1)
  refine wp_region_lit ?_
  refine wpList_load26 rfl (.tmp 4) rfl (w.heap.size) rfl HA1.out ?_
  simp only [Act.put, List.setIfInBounds_toArray, List.set_cons_zero, List.set_cons_succ]
  refine wpList_step (fun K hK => ?_)
  go_simp
  refine hK _ _ ?_
  clear hK K
  refine wpList_step (fun K hK => ?_)
  go_simp
  go_at_call 32
  refine (HPl.out _ (HI.out.below HB1.out)).mono ?_
  rintro e w2 ⟨rfl, hb2⟩
  refine hK _ _ ?_
  clear hK K
  have HA2 := Lib.hid (blk_below hb2 (lt_of_some HA1.out) HA1.out)
  have HB2 := Lib.hid (HB1.out.trans (hb2.mono HB1.out.size))
  clear hb2
  go_upto_region 4 with fail
  refine wp_region_lit ?_
  refine wpList_load26 rfl (.tmp 4) rfl (w.heap.size) rfl HA2.out ?_
  simp only [Act.put, List.setIfInBounds_toArray, List.set_cons_zero, List.set_cons_succ]
  refine wpList_step (fun K hK => ?_)
  go_simp
  go_at_call 29
  refine (HC.out _ (HI.out.below HB2.out)).mono ?_
  rintro e w3 ⟨rfl, hb3⟩
  refine hK _ _ ?_
  clear hK K
  have HA3 := Lib.hid (blk_below hb3 (lt_of_some HA2.out) HA2.out)
  have HB3 := Lib.hid (HB2.out.trans (hb3.mono HB2.out.size))
  clear hb3
  obtain ⟨m0, m1, m2, m3, m4, m5, m6, m7, m8, m9, m10, mlt⟩ := map_cells HA3.out
  obtain ⟨b_, off, hAe, blt, p0, p1, p2, p3, p4⟩ := span_cells (HI.out.below HB3.out).row k hk
  rw [hs] at p0 p1 p2 p3 p4
  obtain rfl := hAe
  have hk1 : (0 : Int) ≤ (k : Int) := by omega
  have hk2 : (k : Int) < (a.sp.length : Int) := by omega
  have hw1 : IntKind.i64.wrap (s.ep + 1) = s.ep + 1 := IntWalk.i64_in _ (by omega)
  have hw2 : IntKind.i64.wrap (s.ep + 2) = s.ep + 2 := IntWalk.i64_in _ (by omega)
  have hl16 : a.sp.length ≤ 16 := (of_tr Hm.out).2.2.2.1.1
  have hw3 : IntKind.i64.wrap ((a.sp.length : Int) + 1) = (a.sp.length : Int) + 1 := IntWalk.i64_in _ (by omega)
  go_upto_region 7 with fail
  clear m0 m1 m2 m3 m4 m5 m6 m7 m8 m9 m10 mlt p0 p1 p2 p3 p4
  have HS4 := Lib.hid (heap_alloc_new w3 s.blk)
  have hb4 : Below w3.heap.size w3 (w3.alloc s.blk) := al _
  have hdSA : w.heap.size < w3.heap.size := lt_of_some HA3.out
  change Code.wp _ _ _ _ (w3.alloc s.blk)
  have HA4 := Lib.hid (blk_below hb4 (lt_of_some HA3.out) HA3.out)
  have HB4 := Lib.hid (HB3.out.trans (hb4.mono HB3.out.size))
  clear hb4
  generalize w3.alloc s.blk = w4 at *
  refine wp_region_lit ?_
  refine wpList_load26 rfl (.tmp 4) rfl (w.heap.size) rfl HA4.out ?_
  simp only [Act.put, List.setIfInBounds_toArray, List.set_cons_zero, List.set_cons_succ]
  refine wpList_step (fun K hK => ?_)
  go_simp
  refine hK _ _ ?_
  clear hK K
  refine wpList_step (fun K hK => ?_)
  go_simp
  refine hK _ _ ?_
  clear hK K
  refine wpList_step (fun K hK => ?_)
  go_simp
  refine hK _ _ ?_
  clear hK K
  refine wpList_step (fun K hK => ?_)
  go_simp
  go_at_call 14
  refine (HF1.out _ (HI.out.below HB4.out)).mono ?_
  rintro e w5 ⟨A5, c5, rfl, hI5, hb5⟩
  refine hK _ _ ?_
  clear hK K
  refine wpList_step (fun K hK => ?_)
  go_simp
  refine hK _ _ ?_
  clear hK K
  refine wpList_step (fun K hK => ?_)
  go_simp
  refine hK _ _ ?_
  clear hK K
  refine wpList_step (fun K hK => ?_)
  go_simp
  refine hK _ _ ?_
  clear hK K
  refine wpList_step (fun K hK => ?_)
  go_simp
  refine hK _ _ ?_
  clear hK K
  refine wpList_store26 rfl (.tmp 11) (.tmp 52) rfl w5.heap.size rfl (m := b) (v := (.slice A5 b.sp.length c5)) (m0 := zeroA) (v0 := nilV) rfl rfl (heap_alloc_new w5 _) ?_
  intro w6 hS ho
  simp only [Act.put, List.setIfInBounds_toArray, List.set_cons_zero, List.set_cons_succ]
  have hb : Below w5.heap.size w5 w6 := ho.below (al _) (fun k hk => by omega) (by simp)
  have hl : w5.heap.size < w6.heap.size := lt_of_some hS
  clear ho
  have hdBA : w.heap.size < w5.heap.size := by have := lt_of_some HA4.out; have := hb5.size; omega
  have hdBS : w3.heap.size < w5.heap.size := by have := lt_of_some HS4.out; have := hb5.size; omega
  have hbx : Below w4.heap.size w4 w6 := hb5.trans (hb.mono hb5.size)
  have HA6 := Lib.hid (blk_below hbx (lt_of_some HA4.out) HA4.out)
  have HS6 := Lib.hid (blk_below hbx (lt_of_some HS4.out) HS4.out)
  have HB6 := Lib.hid (HB4.out.trans (hbx.mono HB4.out.size))
  have HIb6 := Lib.hid (hI5.below hb)
  have HQB6 := Lib.hid hS
  clear hb5 hb hbx hI5 hS hl
  go_upto_region 9 with fail
  refine wp_region_lit ?_
  refine wpList_load26 rfl (.tmp 11) rfl (w5.heap.size) rfl HQB6.out ?_
  simp only [Act.put, List.setIfInBounds_toArray, List.set_cons_zero, List.set_cons_succ]
  refine wpList_step (fun K hK => ?_)
  go_simp
  go_at_call 17
  refine (HF2.out _ _ _ HIb6.out).mono ?_
  rintro e w7 ⟨A7, c7, rfl, hI7, hb7⟩
  refine hK _ _ ?_
  clear hK K
  refine wpList_step (fun K hK => ?_)
  go_simp
  refine hK _ _ ?_
  clear hK K
  refine wpList_step (fun K hK => ?_)
  go_simp
  refine hK _ _ ?_
  clear hK K
  refine wpList_step (fun K hK => ?_)
  go_simp
  refine hK _ _ ?_
  clear hK K
  refine wpList_step (fun K hK => ?_)
  go_simp
  refine hK _ _ ?_
  clear hK K
  refine wpList_store26 rfl (.tmp 13) (.tmp 59) rfl w7.heap.size rfl (m := c) (v := (.slice A7 c.sp.length c7)) (m0 := zeroA) (v0 := nilV) rfl rfl (heap_alloc_new w7 _) ?_
  intro w8 hS ho
  simp only [Act.put, List.setIfInBounds_toArray, List.set_cons_zero, List.set_cons_succ]
  have hb : Below w7.heap.size w7 w8 := ho.below (al _) (fun k hk => by omega) (by simp)
  have hl : w7.heap.size < w8.heap.size := lt_of_some hS
  clear ho
  have hdCA : w.heap.size < w7.heap.size := by have := lt_of_some HA6.out; have := hb7.size; omega
  have hdCS : w3.heap.size < w7.heap.size := by have := lt_of_some HS6.out; have := hb7.size; omega
  have hdCB : w5.heap.size < w7.heap.size := by have := lt_of_some HQB6.out; have := hb7.size; omega
  have hbx : Below w6.heap.size w6 w8 := hb7.trans (hb.mono hb7.size)
  have HA8 := Lib.hid (blk_below hbx (lt_of_some HA6.out) HA6.out)
  have HS8 := Lib.hid (blk_below hbx (lt_of_some HS6.out) HS6.out)
  have HQB8 := Lib.hid (blk_below hbx (lt_of_some HQB6.out) HQB6.out)
  have HIb8 := Lib.hid (HIb6.out.below hbx)
  have HB8 := Lib.hid (HB6.out.trans (hbx.mono HB6.out.size))
  have HIc8 := Lib.hid (hI7.below hb)
  have HQC8 := Lib.hid hS
  clear hb7 hb hbx hI7 hS hl
  go_upto_region 10 with fail
  refine wp_region_lit ?_
  refine wpList_load26 rfl (.tmp 13) rfl (w7.heap.size) rfl HQC8.out ?_
  simp only [Act.put, List.setIfInBounds_toArray, List.set_cons_zero, List.set_cons_succ]
  refine wpList_step (fun K hK => ?_)
  go_simp
  refine hK _ _ ?_
  clear hK K
  refine wpList_step (fun K hK => ?_)
  go_simp
  refine hK _ _ ?_
  clear hK K
  refine wpList_step (fun K hK => ?_)
  go_simp
  go_at_call 14
  refine (HF3.out _ _ _ HIc8.out).mono ?_
  rintro e w9 ⟨A9, c9, rfl, hI9, hb9⟩
  refine hK _ _ ?_
  clear hK K
  refine wpList_step (fun K hK => ?_)
  go_simp
  refine hK _ _ ?_
  clear hK K
  refine wpList_step (fun K hK => ?_)
  go_simp
  refine hK _ _ ?_
  clear hK K
  refine wpList_step (fun K hK => ?_)
  go_simp
  refine hK _ _ ?_
  clear hK K
  refine wpList_step (fun K hK => ?_)
  go_simp
  refine hK _ _ ?_
  clear hK K
  refine wpList_store26 rfl (.tmp 15) (.tmp 66) rfl w9.heap.size rfl (m := d) (v := (.slice A9 d.sp.length c9)) (m0 := zeroA) (v0 := nilV) rfl rfl (heap_alloc_new w9 _) ?_
  intro w10 hS ho
  simp only [Act.put, List.setIfInBounds_toArray, List.set_cons_zero, List.set_cons_succ]
  have hb : Below w9.heap.size w9 w10 := ho.below (al _) (fun k hk => by omega) (by simp)
  have hl : w9.heap.size < w10.heap.size := lt_of_some hS
  clear ho
  have hdDA : w.heap.size < w9.heap.size := by have := lt_of_some HA8.out; have := hb9.size; omega
  have hdDS : w3.heap.size < w9.heap.size := by have := lt_of_some HS8.out; have := hb9.size; omega
  have hdDB : w5.heap.size < w9.heap.size := by have := lt_of_some HQB8.out; have := hb9.size; omega
  have hdDC : w7.heap.size < w9.heap.size := by have := lt_of_some HQC8.out; have := hb9.size; omega
  have hbx : Below w8.heap.size w8 w10 := hb9.trans (hb.mono hb9.size)
  have HA10 := Lib.hid (blk_below hbx (lt_of_some HA8.out) HA8.out)
  have HS10 := Lib.hid (blk_below hbx (lt_of_some HS8.out) HS8.out)
  have HQB10 := Lib.hid (blk_below hbx (lt_of_some HQB8.out) HQB8.out)
  have HQC10 := Lib.hid (blk_below hbx (lt_of_some HQC8.out) HQC8.out)
  have HIb10 := Lib.hid (HIb8.out.below hbx)
  have HIc10 := Lib.hid (HIc8.out.below hbx)
  have HB10 := Lib.hid (HB8.out.trans (hbx.mono HB8.out.size))
  have HId10 := Lib.hid (hI9.below hb)
  have HQD10 := Lib.hid hS
  clear hb9 hb hbx hI9 hS hl
  obtain ⟨m0, m1, m2, m3, m4, m5, m6, m7, m8, m9, m10, mlt⟩ := map_cells HA10.out
  obtain ⟨u0, u1, u2, u3, u4, u5, u6, u7, u8, u9, u10, ult⟩ := map_cells HQC10.out
  obtain ⟨s0, s1, s2, s3, s4, slt⟩ := span_blk HS10.out
  go_upto_region 14 with fail
  clear m0 m1 m2 m3 m4 m5 m6 m7 m8 m9 m10 mlt u0 u1 u2 u3 u4 u5 u6 u7 u8 u9 u10 ult s0 s1 s2 s3 s4 slt
  refine wp_region_lit ?_
  refine wpList_load26 rfl (.tmp 15) rfl (w9.heap.size) rfl HQD10.out ?_
  simp only [Act.put, List.setIfInBounds_toArray, List.set_cons_zero, List.set_cons_succ]
  refine wpList_step (fun K hK => ?_)
  go_simp
  go_at_call 17
  refine (HF4.out _ _ _ HId10.out).mono ?_
  rintro e w11 ⟨A11, c11, rfl, hI11, hb11⟩
  refine hK _ _ ?_
  clear hK K
  refine wpList_step (fun K hK => ?_)
  go_simp
  refine hK _ _ ?_
  clear hK K
  refine wpList_step (fun K hK => ?_)
  go_simp
  refine hK _ _ ?_
  clear hK K
  refine wpList_step (fun K hK => ?_)
  go_simp
  refine hK _ _ ?_
  clear hK K
  refine wpList_step (fun K hK => ?_)
  go_simp
  refine hK _ _ ?_
  clear hK K
  refine wpList_store26 rfl (.tmp 17) (.tmp 98) rfl w11.heap.size rfl (m := x) (v := (.slice A11 x.sp.length c11)) (m0 := zeroA) (v0 := nilV) rfl rfl (heap_alloc_new w11 _) ?_
  intro w12 hS ho
  simp only [Act.put, List.setIfInBounds_toArray, List.set_cons_zero, List.set_cons_succ]
  have hb : Below w11.heap.size w11 w12 := ho.below (al _) (fun k hk => by omega) (by simp)
  have hl : w11.heap.size < w12.heap.size := lt_of_some hS
  clear ho
  have hdXA : w.heap.size < w11.heap.size := by have := lt_of_some HA10.out; have := hb11.size; omega
  have hdXS : w3.heap.size < w11.heap.size := by have := lt_of_some HS10.out; have := hb11.size; omega
  have hdXB : w5.heap.size < w11.heap.size := by have := lt_of_some HQB10.out; have := hb11.size; omega
  have hdXC : w7.heap.size < w11.heap.size := by have := lt_of_some HQC10.out; have := hb11.size; omega
  have hdXD : w9.heap.size < w11.heap.size := by have := lt_of_some HQD10.out; have := hb11.size; omega
  have hbx : Below w10.heap.size w10 w12 := hb11.trans (hb.mono hb11.size)
  have HA12 := Lib.hid (blk_below hbx (lt_of_some HA10.out) HA10.out)
  have HS12 := Lib.hid (blk_below hbx (lt_of_some HS10.out) HS10.out)
  have HQB12 := Lib.hid (blk_below hbx (lt_of_some HQB10.out) HQB10.out)
  have HQC12 := Lib.hid (blk_below hbx (lt_of_some HQC10.out) HQC10.out)
  have HQD12 := Lib.hid (blk_below hbx (lt_of_some HQD10.out) HQD10.out)
  have HIb12 := Lib.hid (HIb10.out.below hbx)
  have HIc12 := Lib.hid (HIc10.out.below hbx)
  have HId12 := Lib.hid (HId10.out.below hbx)
  have HB12 := Lib.hid (HB10.out.trans (hbx.mono HB10.out.size))
  have HIx12 := Lib.hid (hI11.below hb)
  have HQX12 := Lib.hid hS
  clear hb11 hb hbx hI11 hS hl
  obtain ⟨m0, m1, m2, m3, m4, m5, m6, m7, m8, m9, m10, mlt⟩ := map_cells HA12.out
  obtain ⟨u0, u1, u2, u3, u4, u5, u6, u7, u8, u9, u10, ult⟩ := map_cells HQX12.out
  obtain ⟨s0, s1, s2, s3, s4, slt⟩ := span_blk HS12.out
  obtain ⟨bx_, offx, hAx, bltx, p0, p1, p2, p3, p4⟩ := span_cells HIx12.out.row k hkx
  rw [Hxk.out] at p0 p1 p2 p3 p4
  obtain rfl := hAx
  have hkx2 : (k : Int) < (x.sp.length : Int) := by omega
  go_upto_region 15 with fail
  go_quiet (fail)
  go_upto_region 17 with fail
  clear m0 m1 m2 m3 m4 m5 m6 m7 m8 m9 m10 mlt u0 u1 u2 u3 u4 u5 u6 u7 u8 u9 u10 ult s0 s1 s2 s3 s4 slt p0 p1 p2 p3 p4
  have hdr : Below w12.heap.size w12 (w12.drewN nq) := ⟨rfl, rfl, rfl, Nat.le_refl _, fun _ _ => rfl⟩
  generalize w12.drewN nq = w13 at *
  have HA13 := Lib.hid (blk_below hdr (lt_of_some HA12.out) HA12.out)
  have HS13 := Lib.hid (blk_below hdr (lt_of_some HS12.out) HS12.out)
  have HQB13 := Lib.hid (blk_below hdr (lt_of_some HQB12.out) HQB12.out)
  have HQC13 := Lib.hid (blk_below hdr (lt_of_some HQC12.out) HQC12.out)
  have HQD13 := Lib.hid (blk_below hdr (lt_of_some HQD12.out) HQD12.out)
  have HQX13 := Lib.hid (blk_below hdr (lt_of_some HQX12.out) HQX12.out)
  have HIb13 := Lib.hid (HIb12.out.below hdr)
  have HIc13 := Lib.hid (HIc12.out.below hdr)
  have HId13 := Lib.hid (HId12.out.below hdr)
  have HIx13 := Lib.hid (HIx12.out.below hdr)
  have HB13 := Lib.hid (HB12.out.trans (hdr.mono HB12.out.size))
  clear hdr
  refine wp_region_lit ?_
  refine wpList_load26 rfl (.tmp 4) rfl (w.heap.size) rfl HA13.out ?_
  simp only [Act.put, List.setIfInBounds_toArray, List.set_cons_zero, List.set_cons_succ]
  refine wpList_step (fun K hK => ?_)
  go_simp
  refine hK _ _ ?_
  clear hK K
  refine wpList_step (fun K hK => ?_)
  go_simp
  refine hK _ _ ?_
  clear hK K
  refine wpList_step (fun K hK => ?_)
  go_simp
  refine hK _ _ ?_
  clear hK K
  refine wpList_step (fun K hK => ?_)
  go_simp
  go_at_call 14
  refine (HM.out _ (HI.out.below HB13.out)).mono ?_
  rintro e w14 ⟨A14, c14, rfl, hI14, hb14⟩
  refine hK _ _ ?_
  clear hK K
  refine wpList_step (fun K hK => ?_)
  go_simp
  refine hK _ _ ?_
  clear hK K
  refine wpList_step (fun K hK => ?_)
  go_simp
  refine hK _ _ ?_
  clear hK K
  refine wpList_step (fun K hK => ?_)
  go_simp
  refine hK _ _ ?_
  clear hK K
  have hA14 := blk_below hb14 (lt_of_some HA13.out) HA13.out
  have hS14 := blk_below hb14 (lt_of_some HS13.out) HS13.out
  have hQB14 := blk_below hb14 (lt_of_some HQB13.out) HQB13.out
  have hQC14 := blk_below hb14 (lt_of_some HQC13.out) HQC13.out
  have hQD14 := blk_below hb14 (lt_of_some HQD13.out) HQD13.out
  have hQX14 := blk_below hb14 (lt_of_some HQX13.out) HQX13.out
  have hB14 := HB13.out.trans (hb14.mono HB13.out.size)
  refine wpList_store26 rfl (.tmp 11) (.tmp 162) rfl w5.heap.size rfl (m := y) (v := .slice A14 y.sp.length c14) (m0 := b) (v0 := (.slice A5 b.sp.length c5)) rfl rfl hQB14 ?_
  intro w15 hN ho
  simp only [Act.put, List.setIfInBounds_toArray, List.set_cons_zero, List.set_cons_succ]
  have HA15 := Lib.hid ((ho.block _ (lt_of_some hA14) (by show ¬ _ = _; omega)).trans hA14)
  have HS15 := Lib.hid ((ho.block _ (lt_of_some hS14) (by show ¬ _ = _; omega)).trans hS14)
  have HQB15 := Lib.hid hN
  have HB15 := Lib.hid (ho.below hB14 (fun q hq => by have hq : q = w5.heap.size := hq; omega) hB14.size)
  have HIy15 := Lib.hid (hI14.setMap hQB14 ho)
  clear hA14 hS14 hQB14 hQC14 hQD14 hQX14 hB14 hI14 hb14 hN ho
  go_wp2_with fail
  go_ret
  exact ⟨rfl, HB15.out⟩
set_option maxRecDepth 100000 in
set_option maxHeartbeats 4000000 in
theorem back_full_yes (w : World) (A : Option Addr) (cap : Nat) (a : Atl) (sh gp : Int) (key : ByteArray) (h : MapIn w A cap a) (k : Nat) (s : Span) (hk : k < a.sp.length) (hs : a.sp[k] = s) (he1 : 1 ≤ s.ep) (he2 : s.ep ≤ 1099511627776) (hp : place a.sp sh = (k : Int)) (hm : tr (MapOk a) = true) (b0 : (a.plan.kind == 0) = true) (b c d : Atl) (hF1 : GivesMap 14 (fun v => #[v, (splitP sh key).val]) A cap a b 0) (hF2 : ∀ A cap, GivesMap 17 (fun v => #[v, .int .i64 1]) A cap b c 0) (hlc : ((c.sp.length : Int) == (a.sp.length : Int) + 1) = true) (x : Atl) (hF3 : ∀ A cap, GivesMap 14 (fun v => #[v, (mergeP sh).val]) A cap c d 0) (hF4 : ∀ A cap, GivesMap 17 (fun v => #[v, .int .i64 1]) A cap d x 0) (hlx : ((x.sp.length : Int) == (a.sp.length : Int)) = true) (hkx : k < x.sp.length) (hxk : x.sp[k] = ⟨s.fr, s.to, s.sh, s.ep + 2, s.gr⟩) (f : Nat → Atl) (hM : GivesMap 14 (fun v => #[v, (moveP sh gp).val]) A cap a (f 1) 0) (hV : ∀ j : Nat, 1 ≤ j → j ≤ 3 → ∀ A cap, GivesMap 17 (fun v => #[v, .int .i64 (j : Int)]) A cap (f j) (f (j + 1)) 0) (hfz : ((f 4).plan.kind == 0) = true) (hkf : k < (f 4).sp.length) (hfk : (f 4).sp[k] = ⟨s.fr, s.to, s.sh, s.ep + 1, gp⟩) :
    Calls Try.prog 10 #[a.val (.slice A a.sp.length cap), .int .i64 sh, .string key, .int .i64 gp] w fun e w' => e = .returned (.bool true) ∧ Below w.heap.size w w' := by
  have hlx' : ((x.sp.length : Int) != (a.sp.length : Int)) = false := by rw [bne, hlx]; rfl
  have hlc' : ((c.sp.length : Int) != (a.sp.length : Int) + 1) = false := by rw [bne, hlc]; rfl
  have HF1 := Lib.hid hF1; have HF2 := Lib.hid hF2; clear hF1 hF2
  have HF4 := Lib.hid hF4; have Hxk := Lib.hid hxk; clear hF4 hxk
  have HF3 := Lib.hid hF3; clear hF3
  have HV := Lib.hid hV; have Hfk := Lib.hid hfk; have Hfz := Lib.hid hfz; clear hV hfk hfz
  have HM := Lib.hid hM; clear hM
  have bn0 : (a.plan.kind != 0) = false := by rw [bne, b0]; rfl
  have hPl : ∀ w, MapIn w A cap a → Calls Try.prog 32 #[a.val (.slice A a.sp.length cap), .int .i64 sh] w fun e w' => e = .returned (.int .i64 (k : Int)) ∧ Below w.heap.size w w' := fun w h => by
    have := rPlace_any w A cap a sh h.row (Nat.le_trans h.ncap h.cmax)
    rw [hp] at this
    exact this
  have hC := fun w h => check_any w A cap a h
  rw [hm] at hC
  have HPl := Lib.hid hPl; have HC := Lib.hid hC; have HI := Lib.hid h; have Hm := Lib.hid hm; have Hp := Lib.hid hp
  clear hPl hC h hm hp
  go_enter Try.func10, Try.ntmps10
  go_upto_region 1 with fail
  change Code.wp _ _ _ _ (w.alloc (a.blk (.slice A a.sp.length cap)))
  have hX0 := heap_alloc_new w (a.blk (.slice A a.sp.length cap))
  have hB0 : Below w.heap.size w (w.alloc (a.blk (.slice A a.sp.length cap))) := al _
  generalize w.alloc (a.blk (.slice A a.sp.length cap)) = w0 at *
  have HA0 := Lib.hid hX0; have HB0 := Lib.hid hB0
  clear hX0 hB0
  go_upto_region 3 with (go_at_call 13
                         refine (awakeA _).mono ?_
                         rintro e w1 ⟨rfl, hb1⟩
                         have HA1 := Lib.hid (blk_below hb1 (lt_of_some HA0.out) HA0.out)
                         have HB1 := Lib.hid (HB0.out.trans (hb1.mono HB0.out.size))
                         clear hb1)
  refine wp_region_lit ?_
  refine wpList_load26 rfl (.tmp 4) rfl (w.heap.size) rfl HA1.out ?_
  simp only [Act.put, List.setIfInBounds_toArray, List.set_cons_zero, List.set_cons_succ]
  refine wpList_step (fun K hK => ?_)
  go_simp
  refine hK _ _ ?_
  clear hK K
  refine wpList_step (fun K hK => ?_)
  go_simp
  go_at_call 32
  refine (HPl.out _ (HI.out.below HB1.out)).mono ?_
  rintro e w2 ⟨rfl, hb2⟩
  refine hK _ _ ?_
  clear hK K
  have HA2 := Lib.hid (blk_below hb2 (lt_of_some HA1.out) HA1.out)
  have HB2 := Lib.hid (HB1.out.trans (hb2.mono HB1.out.size))
  clear hb2
  go_upto_region 4 with fail
  refine wp_region_lit ?_
  refine wpList_load26 rfl (.tmp 4) rfl (w.heap.size) rfl HA2.out ?_
  simp only [Act.put, List.setIfInBounds_toArray, List.set_cons_zero, List.set_cons_succ]
  refine wpList_step (fun K hK => ?_)
  go_simp
  go_at_call 29
  refine (HC.out _ (HI.out.below HB2.out)).mono ?_
  rintro e w3 ⟨rfl, hb3⟩
  refine hK _ _ ?_
  clear hK K
  have HA3 := Lib.hid (blk_below hb3 (lt_of_some HA2.out) HA2.out)
  have HB3 := Lib.hid (HB2.out.trans (hb3.mono HB2.out.size))
  clear hb3
  obtain ⟨m0, m1, m2, m3, m4, m5, m6, m7, m8, m9, m10, mlt⟩ := map_cells HA3.out
  obtain ⟨b_, off, hAe, blt, p0, p1, p2, p3, p4⟩ := span_cells (HI.out.below HB3.out).row k hk
  rw [hs] at p0 p1 p2 p3 p4
  obtain rfl := hAe
  have hk1 : (0 : Int) ≤ (k : Int) := by omega
  have hk2 : (k : Int) < (a.sp.length : Int) := by omega
  have hw1 : IntKind.i64.wrap (s.ep + 1) = s.ep + 1 := IntWalk.i64_in _ (by omega)
  have hw2 : IntKind.i64.wrap (s.ep + 2) = s.ep + 2 := IntWalk.i64_in _ (by omega)
  have hl16 : a.sp.length ≤ 16 := (of_tr Hm.out).2.2.2.1.1
  have hw3 : IntKind.i64.wrap ((a.sp.length : Int) + 1) = (a.sp.length : Int) + 1 := IntWalk.i64_in _ (by omega)
  go_upto_region 7 with fail
  clear m0 m1 m2 m3 m4 m5 m6 m7 m8 m9 m10 mlt p0 p1 p2 p3 p4
  have HS4 := Lib.hid (heap_alloc_new w3 s.blk)
  have hb4 : Below w3.heap.size w3 (w3.alloc s.blk) := al _
  have hdSA : w.heap.size < w3.heap.size := lt_of_some HA3.out
  change Code.wp _ _ _ _ (w3.alloc s.blk)
  have HA4 := Lib.hid (blk_below hb4 (lt_of_some HA3.out) HA3.out)
  have HB4 := Lib.hid (HB3.out.trans (hb4.mono HB3.out.size))
  clear hb4
  generalize w3.alloc s.blk = w4 at *
  refine wp_region_lit ?_
  refine wpList_load26 rfl (.tmp 4) rfl (w.heap.size) rfl HA4.out ?_
  simp only [Act.put, List.setIfInBounds_toArray, List.set_cons_zero, List.set_cons_succ]
  refine wpList_step (fun K hK => ?_)
  go_simp
  refine hK _ _ ?_
  clear hK K
  refine wpList_step (fun K hK => ?_)
  go_simp
  refine hK _ _ ?_
  clear hK K
  refine wpList_step (fun K hK => ?_)
  go_simp
  refine hK _ _ ?_
  clear hK K
  refine wpList_step (fun K hK => ?_)
  go_simp
  go_at_call 14
  refine (HF1.out _ (HI.out.below HB4.out)).mono ?_
  rintro e w5 ⟨A5, c5, rfl, hI5, hb5⟩
  refine hK _ _ ?_
  clear hK K
  refine wpList_step (fun K hK => ?_)
  go_simp
  refine hK _ _ ?_
  clear hK K
  refine wpList_step (fun K hK => ?_)
  go_simp
  refine hK _ _ ?_
  clear hK K
  refine wpList_step (fun K hK => ?_)
  go_simp
  refine hK _ _ ?_
  clear hK K
  refine wpList_step (fun K hK => ?_)
  go_simp
  refine hK _ _ ?_
  clear hK K
  refine wpList_store26 rfl (.tmp 11) (.tmp 52) rfl w5.heap.size rfl (m := b) (v := (.slice A5 b.sp.length c5)) (m0 := zeroA) (v0 := nilV) rfl rfl (heap_alloc_new w5 _) ?_
  intro w6 hS ho
  simp only [Act.put, List.setIfInBounds_toArray, List.set_cons_zero, List.set_cons_succ]
  have hb : Below w5.heap.size w5 w6 := ho.below (al _) (fun k hk => by omega) (by simp)
  have hl : w5.heap.size < w6.heap.size := lt_of_some hS
  clear ho
  have hdBA : w.heap.size < w5.heap.size := by have := lt_of_some HA4.out; have := hb5.size; omega
  have hdBS : w3.heap.size < w5.heap.size := by have := lt_of_some HS4.out; have := hb5.size; omega
  have hbx : Below w4.heap.size w4 w6 := hb5.trans (hb.mono hb5.size)
  have HA6 := Lib.hid (blk_below hbx (lt_of_some HA4.out) HA4.out)
  have HS6 := Lib.hid (blk_below hbx (lt_of_some HS4.out) HS4.out)
  have HB6 := Lib.hid (HB4.out.trans (hbx.mono HB4.out.size))
  have HIb6 := Lib.hid (hI5.below hb)
  have HQB6 := Lib.hid hS
  clear hb5 hb hbx hI5 hS hl
  go_upto_region 9 with fail
  refine wp_region_lit ?_
  refine wpList_load26 rfl (.tmp 11) rfl (w5.heap.size) rfl HQB6.out ?_
  simp only [Act.put, List.setIfInBounds_toArray, List.set_cons_zero, List.set_cons_succ]
  refine wpList_step (fun K hK => ?_)
  go_simp
  go_at_call 17
  refine (HF2.out _ _ _ HIb6.out).mono ?_
  rintro e w7 ⟨A7, c7, rfl, hI7, hb7⟩
  refine hK _ _ ?_
  clear hK K
  refine wpList_step (fun K hK => ?_)
  go_simp
  refine hK _ _ ?_
  clear hK K
  refine wpList_step (fun K hK => ?_)
  go_simp
  refine hK _ _ ?_
  clear hK K
  refine wpList_step (fun K hK => ?_)
  go_simp
  refine hK _ _ ?_
  clear hK K
  refine wpList_step (fun K hK => ?_)
  go_simp
  refine hK _ _ ?_
  clear hK K
  refine wpList_store26 rfl (.tmp 13) (.tmp 59) rfl w7.heap.size rfl (m := c) (v := (.slice A7 c.sp.length c7)) (m0 := zeroA) (v0 := nilV) rfl rfl (heap_alloc_new w7 _) ?_
  intro w8 hS ho
  simp only [Act.put, List.setIfInBounds_toArray, List.set_cons_zero, List.set_cons_succ]
  have hb : Below w7.heap.size w7 w8 := ho.below (al _) (fun k hk => by omega) (by simp)
  have hl : w7.heap.size < w8.heap.size := lt_of_some hS
  clear ho
  have hdCA : w.heap.size < w7.heap.size := by have := lt_of_some HA6.out; have := hb7.size; omega
  have hdCS : w3.heap.size < w7.heap.size := by have := lt_of_some HS6.out; have := hb7.size; omega
  have hdCB : w5.heap.size < w7.heap.size := by have := lt_of_some HQB6.out; have := hb7.size; omega
  have hbx : Below w6.heap.size w6 w8 := hb7.trans (hb.mono hb7.size)
  have HA8 := Lib.hid (blk_below hbx (lt_of_some HA6.out) HA6.out)
  have HS8 := Lib.hid (blk_below hbx (lt_of_some HS6.out) HS6.out)
  have HQB8 := Lib.hid (blk_below hbx (lt_of_some HQB6.out) HQB6.out)
  have HIb8 := Lib.hid (HIb6.out.below hbx)
  have HB8 := Lib.hid (HB6.out.trans (hbx.mono HB6.out.size))
  have HIc8 := Lib.hid (hI7.below hb)
  have HQC8 := Lib.hid hS
  clear hb7 hb hbx hI7 hS hl
  go_upto_region 10 with fail
  refine wp_region_lit ?_
  refine wpList_load26 rfl (.tmp 13) rfl (w7.heap.size) rfl HQC8.out ?_
  simp only [Act.put, List.setIfInBounds_toArray, List.set_cons_zero, List.set_cons_succ]
  refine wpList_step (fun K hK => ?_)
  go_simp
  refine hK _ _ ?_
  clear hK K
  refine wpList_step (fun K hK => ?_)
  go_simp
  refine hK _ _ ?_
  clear hK K
  refine wpList_step (fun K hK => ?_)
  go_simp
  go_at_call 14
  refine (HF3.out _ _ _ HIc8.out).mono ?_
  rintro e w9 ⟨A9, c9, rfl, hI9, hb9⟩
  refine hK _ _ ?_
  clear hK K
  refine wpList_step (fun K hK => ?_)
  go_simp
  refine hK _ _ ?_
  clear hK K
  refine wpList_step (fun K hK => ?_)
  go_simp
  refine hK _ _ ?_
  clear hK K
  refine wpList_step (fun K hK => ?_)
  go_simp
  refine hK _ _ ?_
  clear hK K
  refine wpList_step (fun K hK => ?_)
  go_simp
  refine hK _ _ ?_
  clear hK K
  refine wpList_store26 rfl (.tmp 15) (.tmp 66) rfl w9.heap.size rfl (m := d) (v := (.slice A9 d.sp.length c9)) (m0 := zeroA) (v0 := nilV) rfl rfl (heap_alloc_new w9 _) ?_
  intro w10 hS ho
  simp only [Act.put, List.setIfInBounds_toArray, List.set_cons_zero, List.set_cons_succ]
  have hb : Below w9.heap.size w9 w10 := ho.below (al _) (fun k hk => by omega) (by simp)
  have hl : w9.heap.size < w10.heap.size := lt_of_some hS
  clear ho
  have hdDA : w.heap.size < w9.heap.size := by have := lt_of_some HA8.out; have := hb9.size; omega
  have hdDS : w3.heap.size < w9.heap.size := by have := lt_of_some HS8.out; have := hb9.size; omega
  have hdDB : w5.heap.size < w9.heap.size := by have := lt_of_some HQB8.out; have := hb9.size; omega
  have hdDC : w7.heap.size < w9.heap.size := by have := lt_of_some HQC8.out; have := hb9.size; omega
  have hbx : Below w8.heap.size w8 w10 := hb9.trans (hb.mono hb9.size)
  have HA10 := Lib.hid (blk_below hbx (lt_of_some HA8.out) HA8.out)
  have HS10 := Lib.hid (blk_below hbx (lt_of_some HS8.out) HS8.out)
  have HQB10 := Lib.hid (blk_below hbx (lt_of_some HQB8.out) HQB8.out)
  have HQC10 := Lib.hid (blk_below hbx (lt_of_some HQC8.out) HQC8.out)
  have HIb10 := Lib.hid (HIb8.out.below hbx)
  have HIc10 := Lib.hid (HIc8.out.below hbx)
  have HB10 := Lib.hid (HB8.out.trans (hbx.mono HB8.out.size))
  have HId10 := Lib.hid (hI9.below hb)
  have HQD10 := Lib.hid hS
  clear hb9 hb hbx hI9 hS hl
  obtain ⟨m0, m1, m2, m3, m4, m5, m6, m7, m8, m9, m10, mlt⟩ := map_cells HA10.out
  obtain ⟨u0, u1, u2, u3, u4, u5, u6, u7, u8, u9, u10, ult⟩ := map_cells HQC10.out
  obtain ⟨s0, s1, s2, s3, s4, slt⟩ := span_blk HS10.out
  go_upto_region 14 with fail
  clear m0 m1 m2 m3 m4 m5 m6 m7 m8 m9 m10 mlt u0 u1 u2 u3 u4 u5 u6 u7 u8 u9 u10 ult s0 s1 s2 s3 s4 slt
  refine wp_region_lit ?_
  refine wpList_load26 rfl (.tmp 15) rfl (w9.heap.size) rfl HQD10.out ?_
  simp only [Act.put, List.setIfInBounds_toArray, List.set_cons_zero, List.set_cons_succ]
  refine wpList_step (fun K hK => ?_)
  go_simp
  go_at_call 17
  refine (HF4.out _ _ _ HId10.out).mono ?_
  rintro e w11 ⟨A11, c11, rfl, hI11, hb11⟩
  refine hK _ _ ?_
  clear hK K
  refine wpList_step (fun K hK => ?_)
  go_simp
  refine hK _ _ ?_
  clear hK K
  refine wpList_step (fun K hK => ?_)
  go_simp
  refine hK _ _ ?_
  clear hK K
  refine wpList_step (fun K hK => ?_)
  go_simp
  refine hK _ _ ?_
  clear hK K
  refine wpList_step (fun K hK => ?_)
  go_simp
  refine hK _ _ ?_
  clear hK K
  refine wpList_store26 rfl (.tmp 17) (.tmp 98) rfl w11.heap.size rfl (m := x) (v := (.slice A11 x.sp.length c11)) (m0 := zeroA) (v0 := nilV) rfl rfl (heap_alloc_new w11 _) ?_
  intro w12 hS ho
  simp only [Act.put, List.setIfInBounds_toArray, List.set_cons_zero, List.set_cons_succ]
  have hb : Below w11.heap.size w11 w12 := ho.below (al _) (fun k hk => by omega) (by simp)
  have hl : w11.heap.size < w12.heap.size := lt_of_some hS
  clear ho
  have hdXA : w.heap.size < w11.heap.size := by have := lt_of_some HA10.out; have := hb11.size; omega
  have hdXS : w3.heap.size < w11.heap.size := by have := lt_of_some HS10.out; have := hb11.size; omega
  have hdXB : w5.heap.size < w11.heap.size := by have := lt_of_some HQB10.out; have := hb11.size; omega
  have hdXC : w7.heap.size < w11.heap.size := by have := lt_of_some HQC10.out; have := hb11.size; omega
  have hdXD : w9.heap.size < w11.heap.size := by have := lt_of_some HQD10.out; have := hb11.size; omega
  have hbx : Below w10.heap.size w10 w12 := hb11.trans (hb.mono hb11.size)
  have HA12 := Lib.hid (blk_below hbx (lt_of_some HA10.out) HA10.out)
  have HS12 := Lib.hid (blk_below hbx (lt_of_some HS10.out) HS10.out)
  have HQB12 := Lib.hid (blk_below hbx (lt_of_some HQB10.out) HQB10.out)
  have HQC12 := Lib.hid (blk_below hbx (lt_of_some HQC10.out) HQC10.out)
  have HQD12 := Lib.hid (blk_below hbx (lt_of_some HQD10.out) HQD10.out)
  have HIb12 := Lib.hid (HIb10.out.below hbx)
  have HIc12 := Lib.hid (HIc10.out.below hbx)
  have HId12 := Lib.hid (HId10.out.below hbx)
  have HB12 := Lib.hid (HB10.out.trans (hbx.mono HB10.out.size))
  have HIx12 := Lib.hid (hI11.below hb)
  have HQX12 := Lib.hid hS
  clear hb11 hb hbx hI11 hS hl
  obtain ⟨m0, m1, m2, m3, m4, m5, m6, m7, m8, m9, m10, mlt⟩ := map_cells HA12.out
  obtain ⟨u0, u1, u2, u3, u4, u5, u6, u7, u8, u9, u10, ult⟩ := map_cells HQX12.out
  obtain ⟨s0, s1, s2, s3, s4, slt⟩ := span_blk HS12.out
  obtain ⟨bx_, offx, hAx, bltx, p0, p1, p2, p3, p4⟩ := span_cells HIx12.out.row k hkx
  rw [Hxk.out] at p0 p1 p2 p3 p4
  obtain rfl := hAx
  have hkx2 : (k : Int) < (x.sp.length : Int) := by omega
  go_upto_region 15 with fail
  go_quiet (fail)
  go_upto_region 17 with fail
  clear m0 m1 m2 m3 m4 m5 m6 m7 m8 m9 m10 mlt u0 u1 u2 u3 u4 u5 u6 u7 u8 u9 u10 ult s0 s1 s2 s3 s4 slt p0 p1 p2 p3 p4
  have hdr : Below w12.heap.size w12 (w12.drewN nq) := ⟨rfl, rfl, rfl, Nat.le_refl _, fun _ _ => rfl⟩
  generalize w12.drewN nq = w13 at *
  have HA13 := Lib.hid (blk_below hdr (lt_of_some HA12.out) HA12.out)
  have HS13 := Lib.hid (blk_below hdr (lt_of_some HS12.out) HS12.out)
  have HQB13 := Lib.hid (blk_below hdr (lt_of_some HQB12.out) HQB12.out)
  have HQC13 := Lib.hid (blk_below hdr (lt_of_some HQC12.out) HQC12.out)
  have HQD13 := Lib.hid (blk_below hdr (lt_of_some HQD12.out) HQD12.out)
  have HQX13 := Lib.hid (blk_below hdr (lt_of_some HQX12.out) HQX12.out)
  have HIb13 := Lib.hid (HIb12.out.below hdr)
  have HIc13 := Lib.hid (HIc12.out.below hdr)
  have HId13 := Lib.hid (HId12.out.below hdr)
  have HIx13 := Lib.hid (HIx12.out.below hdr)
  have HB13 := Lib.hid (HB12.out.trans (hdr.mono HB12.out.size))
  clear hdr
  refine wp_region_lit ?_
  refine wpList_load26 rfl (.tmp 4) rfl (w.heap.size) rfl HA13.out ?_
  simp only [Act.put, List.setIfInBounds_toArray, List.set_cons_zero, List.set_cons_succ]
  refine wpList_step (fun K hK => ?_)
  go_simp
  refine hK _ _ ?_
  clear hK K
  refine wpList_step (fun K hK => ?_)
  go_simp
  refine hK _ _ ?_
  clear hK K
  refine wpList_step (fun K hK => ?_)
  go_simp
  refine hK _ _ ?_
  clear hK K
  refine wpList_step (fun K hK => ?_)
  go_simp
  go_at_call 14
  refine (HM.out _ (HI.out.below HB13.out)).mono ?_
  rintro e w14 ⟨A14, c14, rfl, hI14, hb14⟩
  refine hK _ _ ?_
  clear hK K
  refine wpList_step (fun K hK => ?_)
  go_simp
  refine hK _ _ ?_
  clear hK K
  refine wpList_step (fun K hK => ?_)
  go_simp
  refine hK _ _ ?_
  clear hK K
  refine wpList_step (fun K hK => ?_)
  go_simp
  refine hK _ _ ?_
  clear hK K
  have hA14 := blk_below hb14 (lt_of_some HA13.out) HA13.out
  have hS14 := blk_below hb14 (lt_of_some HS13.out) HS13.out
  have hQB14 := blk_below hb14 (lt_of_some HQB13.out) HQB13.out
  have hQC14 := blk_below hb14 (lt_of_some HQC13.out) HQC13.out
  have hQD14 := blk_below hb14 (lt_of_some HQD13.out) HQD13.out
  have hQX14 := blk_below hb14 (lt_of_some HQX13.out) HQX13.out
  have hB14 := HB13.out.trans (hb14.mono HB13.out.size)
  refine wpList_store26 rfl (.tmp 11) (.tmp 162) rfl w5.heap.size rfl (m := (f 1)) (v := .slice A14 (f 1).sp.length c14) (m0 := b) (v0 := (.slice A5 b.sp.length c5)) rfl rfl hQB14 ?_
  intro w15 hN ho
  simp only [Act.put, List.setIfInBounds_toArray, List.set_cons_zero, List.set_cons_succ]
  have HA15 := Lib.hid ((ho.block _ (lt_of_some hA14) (by show ¬ _ = _; omega)).trans hA14)
  have HS15 := Lib.hid ((ho.block _ (lt_of_some hS14) (by show ¬ _ = _; omega)).trans hS14)
  have HQB15 := Lib.hid hN
  have HB15 := Lib.hid (ho.below hB14 (fun q hq => by have hq : q = w5.heap.size := hq; omega) hB14.size)
  have HIy15 := Lib.hid (hI14.setMap hQB14 ho)
  clear hA14 hS14 hQB14 hQC14 hQD14 hQX14 hB14 hI14 hb14 hN ho
  go_wp2_with fail
  go_loopw [19] (fun v wr => ∃ (n : Nat) (B : Option Addr) (c : Nat), 1 ≤ n ∧ n ≤ 4 ∧ v = .int .i64 n ∧ wr.heap[w5.heap.size]? = some ((f n).blk (.slice B (f n).sp.length c)) ∧ MapIn wr B c (f n) ∧ wr.heap[w3.heap.size]? = some s.blk ∧ Below w.heap.size w wr) (fun v _ => 4 - (intOf v).toNat)
  case atStart => exact ⟨1, A14, c14, by omega, by omega, rfl, HQB15.out, HIy15.out, HS15.out, HB15.out⟩
  case round =>
    obtain ⟨n, B, c, hn0, hn, rfl, hFn, hIn, hSn, hBn⟩ := hrel
    have hw4 : IntKind.i64.wrap ((n : Int) + 1) = (n : Int) + 1 := IntWalk.i64_in _ (by omega)
    have HFn := Lib.hid hFn; have HIn := Lib.hid hIn; have HSn := Lib.hid hSn; have HBn := Lib.hid hBn
    clear hFn hIn hSn hBn
    by_cases hlt : n ≤ 3
    · go_upto_region 23 with fail
      refine wp_region_lit ?_
      refine wpList_load26 rfl (.tmp 11) rfl (w5.heap.size) rfl HFn.out ?_
      simp only [Act.put, List.setIfInBounds_toArray, List.set_cons_zero, List.set_cons_succ]
      refine wpList_step (fun K hK => ?_)
      go_simp
      refine hK _ _ ?_
      clear hK K
      refine wpList_step (fun K hK => ?_)
      go_simp
      go_at_call 17
      refine (HV.out n hn0 hlt _ _ _ HIn.out).mono ?_
      rintro e w27 ⟨A27, c27, rfl, hI27, hb27⟩
      refine hK _ _ ?_
      clear hK K
      refine wpList_step (fun K hK => ?_)
      go_simp
      refine hK _ _ ?_
      clear hK K
      refine wpList_step (fun K hK => ?_)
      go_simp
      refine hK _ _ ?_
      clear hK K
      refine wpList_step (fun K hK => ?_)
      go_simp
      refine hK _ _ ?_
      clear hK K
      refine wpList_step (fun K hK => ?_)
      go_simp
      refine hK _ _ ?_
      clear hK K
      refine wpList_store26 rfl (.tmp 20) (.tmp 174) rfl w27.heap.size rfl (m := (f (n + 1))) (v := (.slice A27 (f (n + 1)).sp.length c27)) (m0 := zeroA) (v0 := nilV) rfl rfl (heap_alloc_new w27 _) ?_
      intro w28 hT ho
      simp only [Act.put, List.setIfInBounds_toArray, List.set_cons_zero, List.set_cons_succ]
      have hb : Below w27.heap.size w27 w28 := ho.below (al _) (fun k hk => by omega) (by simp)
      have hl : w27.heap.size < w28.heap.size := lt_of_some hT
      clear ho
      have hbx : Below wr.heap.size wr w28 := hb27.trans (hb.mono hb27.size)
      have HF28 := Lib.hid (blk_below hbx (lt_of_some HFn.out) HFn.out)
      have HS28 := Lib.hid (blk_below hbx (lt_of_some HSn.out) HSn.out)
      have HB28 := Lib.hid (HBn.out.trans (hbx.mono HBn.out.size))
      have HI28 := Lib.hid (hI27.below hb)
      have HT28 := Lib.hid hT
      clear hb27 hb hbx hI27 hT
      go_upto_region 26 with fail
      refine wp_region_lit ?_
      refine wpList_load26 rfl (.tmp 20) rfl (w27.heap.size) rfl HT28.out ?_
      simp only [Act.put, List.setIfInBounds_toArray, List.set_cons_zero, List.set_cons_succ]
      refine wpList_store26 rfl (.tmp 11) (.tmp 178) rfl w5.heap.size rfl (m := f (n + 1)) (v := .slice A27 (f (n + 1)).sp.length c27) (m0 := f n) (v0 := .slice B (f n).sp.length c) rfl rfl HF28.out ?_
      intro w29 hN ho
      simp only [Act.put, List.setIfInBounds_toArray, List.set_cons_zero, List.set_cons_succ]
      have HB29 := Lib.hid (ho.below HB28.out (fun q hq => by have hq : q = w5.heap.size := hq; omega) HB28.out.size)
      have HI29 := Lib.hid (HI28.out.setMap HF28.out ho)
      have HS29 := Lib.hid ((ho.block _ (lt_of_some HS28.out) (by show ¬ _ = _; omega)).trans HS28.out)
      have HN29 := Lib.hid hN
      clear hN ho
      go_wp2_with fail
      go_roundw
      case rel => exact ⟨n + 1, A27, c27, by omega, by omega, by go_num, HN29.out, HI29.out, HS29.out, HB29.out⟩
      case measure => simp [intOf]; omega
    · obtain rfl : n = 4 := by omega
      obtain ⟨u0, u1, u2, u3, u4, u5, u6, u7, u8, u9, u10, ult⟩ := map_cells HFn.out
      obtain ⟨s0, s1, s2, s3, s4, slt⟩ := span_blk HSn.out
      obtain ⟨bx2, off2, hA2, blt2, p0, p1, p2, p3, p4⟩ := span_cells HIn.out.row k hkf
      rw [Hfk.out] at p0 p1 p2 p3 p4
      obtain rfl := hA2
      have hkf2 : (k : Int) < ((f 4).sp.length : Int) := by omega
      have hfz := Hfz.out
      have hbl : Below wr.heap.size wr (wr.alloc (.cells #[.string s.fr, .string s.to, .int .i64 s.sh, .int .i64 (s.ep + 1), .int .i64 gp] 50)) := al _
      have Hbl := Lib.hid (HBn.out.trans (hbl.mono HBn.out.size))
      go_wp2_with fail
      go_ret
      exact ⟨rfl, Hbl.out⟩
end Go.Proofs.Ytimondpollbdfaa
