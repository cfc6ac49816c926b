/- What is proved: AtlasFinds answers yes, whatever the map and the three names, case by case. -/
import Derived.Test.YtimondpollbdfaaFindsLaw
import Derived.Deep.RegionHeld3
set_option linter.unusedVariables false
set_option linter.unusedSimpArgs false
namespace Go.Proofs.Ytimondpollbdfaa
open Go.RowKit
attribute [local go_sem] Span.val Atl.val Plan.val
attribute [local go_sem high] run_eql_eqP run_neq_eqP run_eql_eqS run_neq_eqS
attribute [local go_sem] eqP_refl eqS_refl

/-- What the round reads: the map, and where its span begins. -/
def RoundCells (g b o : Nat) (a : Atl) (V : Value) (fr : ByteArray) (w : World) : Prop :=
  w.cell? ⟨g, 0, none⟩ = some (.int .i64 a.groups) ∧ w.cell? ⟨g, 1, none⟩ = some (.int .i64 a.last) ∧ w.cell? ⟨g, 2, none⟩ = some V ∧ w.cell? ⟨g, 3, none⟩ = some (.int .i64 a.plan.kind) ∧ w.cell? ⟨g, 4, none⟩ = some (.int .i64 a.plan.phase) ∧ w.cell? ⟨g, 5, none⟩ = some (.int .i64 a.plan.shard) ∧ w.cell? ⟨g, 6, none⟩ = some (.int .i64 a.plan.other) ∧ w.cell? ⟨g, 7, none⟩ = some (.int .i64 a.plan.group) ∧ w.cell? ⟨g, 8, none⟩ = some (.int .i64 a.plan.past) ∧ w.cell? ⟨g, 9, none⟩ = some (.int .i64 a.plan.epoch) ∧ w.cell? ⟨g, 10, none⟩ = some (.string a.plan.key) ∧ w.cell? ⟨b, o, none⟩ = some (.string fr)
theorem below_drewN {w8 wr W : World} (h1 : Below w8.heap.size w8 wr) (h2 : Below wr.heap.size wr W) (n : Nat) : Below w8.heap.size w8 (W.drewN n) :=
  h1.trans ((h2.trans (show Below wr.heap.size W (W.drewN n) from ⟨rfl, rfl, rfl, Nat.le_refl _, fun _ _ => rfl⟩)).mono h1.size)
theorem RoundCells.below {g b o B : Nat} {a : Atl} {V : Value} {fr : ByteArray} {w w' : World} (h : RoundCells g b o a V fr w) (hb : Below B w w') (h1 : g < B) (h2 : b < B) : RoundCells g b o a V fr w' := by
  unfold RoundCells at *
  have e : ∀ i, w'.cell? ⟨g, i, none⟩ = w.cell? ⟨g, i, none⟩ := fun i => hb.cell h1
  rw [e, e, e, e, e, e, e, e, e, e, e, show w'.cell? ⟨b, o, none⟩ = w.cell? ⟨b, o, none⟩ from hb.cell h2]
  exact h
set_option maxRecDepth 100000 in
set_option maxHeartbeats 8000000 in
theorem finds_wrong (w : World) (A : Option Addr) (cap : Nat) (a : Atl) (x y z : ByteArray) (h : MapIn w A cap a) (hfr : ∀ s ∈ a.sp, s.fr.size ≤ 9223372036854775807) (S T U : Span) (o1 o2 o3 : Bool) (h1 : FoundIs A cap a x S o1) (h2 : FoundIs A cap a z T o2) (h3 : FoundIs A cap a y U o3) (hm : tr (MapOk a) = false) (q1 : o1 = false) (q2 : o2 = false) (q3 : o3 = false) :
    Calls Try.prog 11 #[a.val (.slice A a.sp.length cap), .string x, .string y, .string z] w fun e w' => e = .returned (.bool true) ∧ Below w.heap.size w w' := by
  subst q1; subst q2; subst q3
  have hC1 := fun w h => check_any w A cap a h
  rw [hm] at hC1
  have H1 := Lib.hid h1; have H2 := Lib.hid h2; have H3 := Lib.hid h3; have HC := Lib.hid hC1; have HI := Lib.hid h; have Hfr := Lib.hid hfr; have Hm := Lib.hid hm
  clear h1 h2 h3 hC1 h hfr hm
  go_enter Try.func11, Try.ntmps11
  go_upto_region 1 with fail
  change Code.wp _ _ _ _ (w.alloc (a.blk (.slice A a.sp.length cap)))
  have hX0 := heap_alloc_new w (a.blk (.slice A a.sp.length cap))
  have hB0 : Below w.heap.size w (w.alloc (a.blk (.slice A a.sp.length cap))) := al _
  generalize w.alloc (a.blk (.slice A a.sp.length cap)) = w0 at *
  have HX0 := Lib.hid hX0; have HB0 := Lib.hid hB0
  clear hX0 hB0
  go_upto_region 3 with (go_at_call 13
                         refine (awakeA _).mono ?_
                         rintro e w1 ⟨rfl, hb1⟩
                         have HX1 := Lib.hid (blk_below hb1 (lt_of_some HX0.out) HX0.out)
                         have HB1 := Lib.hid (HB0.out.trans (hb1.mono HB0.out.size))
                         clear hb1)
  refine wp_region_lit ?_
  refine wpList_load26 rfl (.tmp 4) rfl (w.heap.size) rfl HX1.out ?_
  simp only [Act.put, List.setIfInBounds_toArray, List.set_cons_zero, List.set_cons_succ]
  refine wpList_step (fun K hK => ?_)
  go_simp
  refine hK _ _ ?_
  clear hK K
  refine wpList_step (fun K hK => ?_)
  go_simp
  go_at_call 30
  refine (H1.out _ (HI.out.below HB1.out)).mono ?_
  rintro e w2 ⟨rfl, hb2⟩
  refine hK _ _ ?_
  clear hK K
  refine wpList_step (fun K hK => ?_)
  go_simp
  refine hK _ _ ?_
  clear hK K
  refine wpList_step (fun K hK => ?_)
  go_simp
  refine hK _ _ ?_
  clear hK K
  refine wpList_step (fun K hK => ?_)
  go_simp
  refine hK _ _ ?_
  clear hK K
  refine wpList_step (fun K hK => ?_)
  go_simp
  refine hK _ _ ?_
  clear hK K
  refine wpList_store50 rfl (.tmp 9) (.tmp 24) rfl w2.heap.size rfl (p := S) (p0 := zeroS) rfl (heap_alloc_new w2 _) ?_
  intro w3 hS ho
  simp only [Act.put, List.setIfInBounds_toArray, List.set_cons_zero, List.set_cons_succ]
  have hb : Below w2.heap.size w2 w3 := ho.below (al _) (fun k hk => by omega) (by simp)
  have hbx : Below w1.heap.size w1 w3 := hb2.trans (hb.mono hb2.size)
  have HX3 := Lib.hid (blk_below hbx (lt_of_some HX1.out) HX1.out)
  have HB3 := Lib.hid (HB1.out.trans (hbx.mono HB1.out.size))
  have HS3 := Lib.hid hS
  clear hb2 hb hbx hS ho
  go_upto_region 4 with fail
  refine wp_region_lit ?_
  refine wpList_load26 rfl (.tmp 4) rfl (w.heap.size) rfl HX3.out ?_
  simp only [Act.put, List.setIfInBounds_toArray, List.set_cons_zero, List.set_cons_succ]
  refine wpList_step (fun K hK => ?_)
  go_simp
  refine hK _ _ ?_
  clear hK K
  refine wpList_step (fun K hK => ?_)
  go_simp
  go_at_call 30
  refine (H2.out _ (HI.out.below HB3.out)).mono ?_
  rintro e w4 ⟨rfl, hb4⟩
  refine hK _ _ ?_
  clear hK K
  refine wpList_step (fun K hK => ?_)
  go_simp
  refine hK _ _ ?_
  clear hK K
  refine wpList_step (fun K hK => ?_)
  go_simp
  refine hK _ _ ?_
  clear hK K
  refine wpList_step (fun K hK => ?_)
  go_simp
  refine hK _ _ ?_
  clear hK K
  refine wpList_step (fun K hK => ?_)
  go_simp
  refine hK _ _ ?_
  clear hK K
  refine wpList_store50 rfl (.tmp 11) (.tmp 30) rfl w4.heap.size rfl (p := T) (p0 := zeroS) rfl (heap_alloc_new w4 _) ?_
  intro w5 hT ho
  simp only [Act.put, List.setIfInBounds_toArray, List.set_cons_zero, List.set_cons_succ]
  have hb : Below w4.heap.size w4 w5 := ho.below (al _) (fun k hk => by omega) (by simp)
  have hbx : Below w3.heap.size w3 w5 := hb4.trans (hb.mono hb4.size)
  have HX5 := Lib.hid (blk_below hbx (lt_of_some HX3.out) HX3.out)
  have HB5 := Lib.hid (HB3.out.trans (hbx.mono HB3.out.size))
  have HS5 := Lib.hid (blk_below hbx (lt_of_some HS3.out) HS3.out)
  have HT5 := Lib.hid hT
  clear hb4 hb hbx hT ho
  go_upto_region 5 with fail
  refine wp_region_lit ?_
  refine wpList_load26 rfl (.tmp 4) rfl (w.heap.size) rfl HX5.out ?_
  simp only [Act.put, List.setIfInBounds_toArray, List.set_cons_zero, List.set_cons_succ]
  refine wpList_step (fun K hK => ?_)
  go_simp
  refine hK _ _ ?_
  clear hK K
  refine wpList_step (fun K hK => ?_)
  go_simp
  go_at_call 30
  refine (H3.out _ (HI.out.below HB5.out)).mono ?_
  rintro e w6 ⟨rfl, hb6⟩
  refine hK _ _ ?_
  clear hK K
  refine wpList_step (fun K hK => ?_)
  go_simp
  refine hK _ _ ?_
  clear hK K
  refine wpList_step (fun K hK => ?_)
  go_simp
  refine hK _ _ ?_
  clear hK K
  refine wpList_step (fun K hK => ?_)
  go_simp
  refine hK _ _ ?_
  clear hK K
  refine wpList_step (fun K hK => ?_)
  go_simp
  refine hK _ _ ?_
  clear hK K
  refine wpList_store50 rfl (.tmp 13) (.tmp 36) rfl w6.heap.size rfl (p := U) (p0 := zeroS) rfl (heap_alloc_new w6 _) ?_
  intro w7 hU ho
  simp only [Act.put, List.setIfInBounds_toArray, List.set_cons_zero, List.set_cons_succ]
  have hb : Below w6.heap.size w6 w7 := ho.below (al _) (fun k hk => by omega) (by simp)
  have hbx : Below w5.heap.size w5 w7 := hb6.trans (hb.mono hb6.size)
  have HX7 := Lib.hid (blk_below hbx (lt_of_some HX5.out) HX5.out)
  have HB7 := Lib.hid (HB5.out.trans (hbx.mono HB5.out.size))
  have HS7 := Lib.hid (blk_below hbx (lt_of_some HS5.out) HS5.out)
  have HT7 := Lib.hid (blk_below hbx (lt_of_some HT5.out) HT5.out)
  have HU7 := Lib.hid hU
  clear hb6 hb hbx hU ho
  go_upto_region 6 with fail
  obtain ⟨s0, s1, s2, s3, s4, slt⟩ := span_blk HS7.out
  obtain ⟨t0, t1, t2, t3, t4, tlt⟩ := span_blk HT7.out
  obtain ⟨u0, u1, u2, u3, u4, ult⟩ := span_blk HU7.out
  obtain ⟨m0, m1, m2, m3, m4, m5, m6, m7, m8, m9, m10, mlt⟩ := map_cells HX7.out
  go_upto_region 9 with (go_at_call 29
                         refine (HC.out _ (HI.out.below HB7.out)).mono ?_
                         rintro e w8 ⟨rfl, hb8⟩
                         have HX8 := Lib.hid (blk_below hb8 (lt_of_some HX7.out) HX7.out)
                         have HB8 := Lib.hid (HB7.out.trans (hb8.mono HB7.out.size))
                         clear hb8)
  go_wp2_with fail
  go_ret
  exact ⟨rfl, HB8.out⟩
set_option maxRecDepth 100000 in
set_option maxHeartbeats 8000000 in
theorem finds_x (w : World) (A : Option Addr) (cap : Nat) (a : Atl) (x y z : ByteArray) (h : MapIn w A cap a) (hfr : ∀ s ∈ a.sp, s.fr.size ≤ 9223372036854775807) (S T U : Span) (o1 o2 o3 : Bool) (h1 : FoundIs A cap a x S o1) (h2 : FoundIs A cap a z T o2) (h3 : FoundIs A cap a y U o3) (hm : tr (MapOk a) = true) (q1 : o1 = false)  :
    Calls Try.prog 11 #[a.val (.slice A a.sp.length cap), .string x, .string y, .string z] w fun e w' => e = .returned (.bool true) ∧ Below w.heap.size w w' := by
  subst q1
  have hC1 := fun w h => check_any w A cap a h
  rw [hm] at hC1
  have H1 := Lib.hid h1; have H2 := Lib.hid h2; have H3 := Lib.hid h3; have HC := Lib.hid hC1; have HI := Lib.hid h; have Hfr := Lib.hid hfr; have Hm := Lib.hid hm
  clear h1 h2 h3 hC1 h hfr hm
  go_enter Try.func11, Try.ntmps11
  go_upto_region 1 with fail
  change Code.wp _ _ _ _ (w.alloc (a.blk (.slice A a.sp.length cap)))
  have hX0 := heap_alloc_new w (a.blk (.slice A a.sp.length cap))
  have hB0 : Below w.heap.size w (w.alloc (a.blk (.slice A a.sp.length cap))) := al _
  generalize w.alloc (a.blk (.slice A a.sp.length cap)) = w0 at *
  have HX0 := Lib.hid hX0; have HB0 := Lib.hid hB0
  clear hX0 hB0
  go_upto_region 3 with (go_at_call 13
                         refine (awakeA _).mono ?_
                         rintro e w1 ⟨rfl, hb1⟩
                         have HX1 := Lib.hid (blk_below hb1 (lt_of_some HX0.out) HX0.out)
                         have HB1 := Lib.hid (HB0.out.trans (hb1.mono HB0.out.size))
                         clear hb1)
  refine wp_region_lit ?_
  refine wpList_load26 rfl (.tmp 4) rfl (w.heap.size) rfl HX1.out ?_
  simp only [Act.put, List.setIfInBounds_toArray, List.set_cons_zero, List.set_cons_succ]
  refine wpList_step (fun K hK => ?_)
  go_simp
  refine hK _ _ ?_
  clear hK K
  refine wpList_step (fun K hK => ?_)
  go_simp
  go_at_call 30
  refine (H1.out _ (HI.out.below HB1.out)).mono ?_
  rintro e w2 ⟨rfl, hb2⟩
  refine hK _ _ ?_
  clear hK K
  refine wpList_step (fun K hK => ?_)
  go_simp
  refine hK _ _ ?_
  clear hK K
  refine wpList_step (fun K hK => ?_)
  go_simp
  refine hK _ _ ?_
  clear hK K
  refine wpList_step (fun K hK => ?_)
  go_simp
  refine hK _ _ ?_
  clear hK K
  refine wpList_step (fun K hK => ?_)
  go_simp
  refine hK _ _ ?_
  clear hK K
  refine wpList_store50 rfl (.tmp 9) (.tmp 24) rfl w2.heap.size rfl (p := S) (p0 := zeroS) rfl (heap_alloc_new w2 _) ?_
  intro w3 hS ho
  simp only [Act.put, List.setIfInBounds_toArray, List.set_cons_zero, List.set_cons_succ]
  have hb : Below w2.heap.size w2 w3 := ho.below (al _) (fun k hk => by omega) (by simp)
  have hbx : Below w1.heap.size w1 w3 := hb2.trans (hb.mono hb2.size)
  have HX3 := Lib.hid (blk_below hbx (lt_of_some HX1.out) HX1.out)
  have HB3 := Lib.hid (HB1.out.trans (hbx.mono HB1.out.size))
  have HS3 := Lib.hid hS
  clear hb2 hb hbx hS ho
  go_upto_region 4 with fail
  refine wp_region_lit ?_
  refine wpList_load26 rfl (.tmp 4) rfl (w.heap.size) rfl HX3.out ?_
  simp only [Act.put, List.setIfInBounds_toArray, List.set_cons_zero, List.set_cons_succ]
  refine wpList_step (fun K hK => ?_)
  go_simp
  refine hK _ _ ?_
  clear hK K
  refine wpList_step (fun K hK => ?_)
  go_simp
  go_at_call 30
  refine (H2.out _ (HI.out.below HB3.out)).mono ?_
  rintro e w4 ⟨rfl, hb4⟩
  refine hK _ _ ?_
  clear hK K
  refine wpList_step (fun K hK => ?_)
  go_simp
  refine hK _ _ ?_
  clear hK K
  refine wpList_step (fun K hK => ?_)
  go_simp
  refine hK _ _ ?_
  clear hK K
  refine wpList_step (fun K hK => ?_)
  go_simp
  refine hK _ _ ?_
  clear hK K
  refine wpList_step (fun K hK => ?_)
  go_simp
  refine hK _ _ ?_
  clear hK K
  refine wpList_store50 rfl (.tmp 11) (.tmp 30) rfl w4.heap.size rfl (p := T) (p0 := zeroS) rfl (heap_alloc_new w4 _) ?_
  intro w5 hT ho
  simp only [Act.put, List.setIfInBounds_toArray, List.set_cons_zero, List.set_cons_succ]
  have hb : Below w4.heap.size w4 w5 := ho.below (al _) (fun k hk => by omega) (by simp)
  have hbx : Below w3.heap.size w3 w5 := hb4.trans (hb.mono hb4.size)
  have HX5 := Lib.hid (blk_below hbx (lt_of_some HX3.out) HX3.out)
  have HB5 := Lib.hid (HB3.out.trans (hbx.mono HB3.out.size))
  have HS5 := Lib.hid (blk_below hbx (lt_of_some HS3.out) HS3.out)
  have HT5 := Lib.hid hT
  clear hb4 hb hbx hT ho
  go_upto_region 5 with fail
  refine wp_region_lit ?_
  refine wpList_load26 rfl (.tmp 4) rfl (w.heap.size) rfl HX5.out ?_
  simp only [Act.put, List.setIfInBounds_toArray, List.set_cons_zero, List.set_cons_succ]
  refine wpList_step (fun K hK => ?_)
  go_simp
  refine hK _ _ ?_
  clear hK K
  refine wpList_step (fun K hK => ?_)
  go_simp
  go_at_call 30
  refine (H3.out _ (HI.out.below HB5.out)).mono ?_
  rintro e w6 ⟨rfl, hb6⟩
  refine hK _ _ ?_
  clear hK K
  refine wpList_step (fun K hK => ?_)
  go_simp
  refine hK _ _ ?_
  clear hK K
  refine wpList_step (fun K hK => ?_)
  go_simp
  refine hK _ _ ?_
  clear hK K
  refine wpList_step (fun K hK => ?_)
  go_simp
  refine hK _ _ ?_
  clear hK K
  refine wpList_step (fun K hK => ?_)
  go_simp
  refine hK _ _ ?_
  clear hK K
  refine wpList_store50 rfl (.tmp 13) (.tmp 36) rfl w6.heap.size rfl (p := U) (p0 := zeroS) rfl (heap_alloc_new w6 _) ?_
  intro w7 hU ho
  simp only [Act.put, List.setIfInBounds_toArray, List.set_cons_zero, List.set_cons_succ]
  have hb : Below w6.heap.size w6 w7 := ho.below (al _) (fun k hk => by omega) (by simp)
  have hbx : Below w5.heap.size w5 w7 := hb6.trans (hb.mono hb6.size)
  have HX7 := Lib.hid (blk_below hbx (lt_of_some HX5.out) HX5.out)
  have HB7 := Lib.hid (HB5.out.trans (hbx.mono HB5.out.size))
  have HS7 := Lib.hid (blk_below hbx (lt_of_some HS5.out) HS5.out)
  have HT7 := Lib.hid (blk_below hbx (lt_of_some HT5.out) HT5.out)
  have HU7 := Lib.hid hU
  clear hb6 hb hbx hU ho
  go_upto_region 6 with fail
  obtain ⟨s0, s1, s2, s3, s4, slt⟩ := span_blk HS7.out
  obtain ⟨t0, t1, t2, t3, t4, tlt⟩ := span_blk HT7.out
  obtain ⟨u0, u1, u2, u3, u4, ult⟩ := span_blk HU7.out
  obtain ⟨m0, m1, m2, m3, m4, m5, m6, m7, m8, m9, m10, mlt⟩ := map_cells HX7.out
  go_upto_region 10 with (go_at_call 29
                          refine (HC.out _ (HI.out.below HB7.out)).mono ?_
                          rintro e w8 ⟨rfl, hb8⟩
                          have HX8 := Lib.hid (blk_below hb8 (lt_of_some HX7.out) HX7.out)
                          have HB8 := Lib.hid (HB7.out.trans (hb8.mono HB7.out.size))
                          clear hb8)
  clear s0 s1 s2 s3 s4 slt t0 t1 t2 t3 t4 tlt u0 u1 u2 u3 u4 ult m0 m1 m2 m3 m4 m5 m6 m7 m8 m9 m10 mlt
  have hm := of_tr Hm.out
  have h16 : a.sp.length ≤ 16 := hm.2.2.2.1.1
  obtain ⟨b, off, rfl⟩ : ∃ b off, A = some ⟨b, off, none⟩ := by
    obtain ⟨b, off, hA, _⟩ := span_cells HI.out.row 0 hm.2.2.2.1.2.1
    exact ⟨b, off, hA⟩
  have Hmk := Lib.hid hm
  clear hm
  go_wp2_with fail
  go_loopw [15] (fun v wr => ∃ k : Nat, 1 ≤ k ∧ k ≤ a.sp.length ∧ v = .int .i64 k ∧ Below w8.heap.size w8 wr) (fun v _ => a.sp.length - (intOf v).toNat)
  case atStart => exact ⟨1, Nat.le_refl _, Hmk.out.2.2.2.1.2.1, rfl, Below.refl _ _⟩
  case round =>
    obtain ⟨k, hk0, hk, rfl, hbel⟩ := hrel
    have hXr := blk_below hbel (lt_of_some HX8.out) HX8.out
    have hBr := HB8.out.trans (hbel.mono HB8.out.size)
    obtain ⟨m0, m1, m2, m3, m4, m5, m6, m7, m8, m9, m10, mlt⟩ := map_cells hXr
    have hw1 : IntKind.i64.wrap ((k : Int) + 1) = (k : Int) + 1 := IntWalk.i64_in _ (by omega)
    by_cases hlt : k < a.sp.length
    · obtain ⟨_, _, he, blt, p0, p1, p2, p3, p4⟩ := span_cells (HI.out.below hBr).row k hlt
      injection he with he
      injection he with hx1 hx2
      subst hx1; subst hx2
      have hk1 : (0 : Int) ≤ (k : Int) := by omega
      have hk2 : (k : Int) < (a.sp.length : Int) := by omega
      have hf : FoundIs (some ⟨b, off, none⟩) cap a a.sp[k].fr a.sp[k] true := fun w h => find_some w _ cap a a.sp[k].fr k h Hm.out (Hfr.out _ (List.getElem_mem hlt)) (by
        have := (sp_next Hmk.out.2.2.2.1 (k - 1) (by omega)).2
        simpa only [show k - 1 + 1 = k by omega] using this) hlt (found_self Hmk.out.2.2.2.1 k hlt)
      have HF := Lib.hid hf; have HBr := Lib.hid hBr; have HXr := Lib.hid hXr; have Hbel := Lib.hid hbel
      go_wp2_with fail
      have hr0 : RoundCells w.heap.size b (off + k * 5) a (.slice (some ⟨b, off, none⟩) a.sp.length cap) a.sp[k].fr wr := ⟨m0, m1, m2, m3, m4, m5, m6, m7, m8, m9, m10, p0⟩
      have HR0 := Lib.hid (show wr.drew.cell? ⟨w.heap.size, 0, none⟩ = some (.int .i64 a.groups) ∧ wr.drew.cell? ⟨w.heap.size, 1, none⟩ = some (.int .i64 a.last) ∧ wr.drew.cell? ⟨w.heap.size, 2, none⟩ = some (.slice (some ⟨b, off, none⟩) a.sp.length cap) ∧ wr.drew.cell? ⟨w.heap.size, 3, none⟩ = some (.int .i64 a.plan.kind) ∧ wr.drew.cell? ⟨w.heap.size, 4, none⟩ = some (.int .i64 a.plan.phase) ∧ wr.drew.cell? ⟨w.heap.size, 5, none⟩ = some (.int .i64 a.plan.shard) ∧ wr.drew.cell? ⟨w.heap.size, 6, none⟩ = some (.int .i64 a.plan.other) ∧ wr.drew.cell? ⟨w.heap.size, 7, none⟩ = some (.int .i64 a.plan.group) ∧ wr.drew.cell? ⟨w.heap.size, 8, none⟩ = some (.int .i64 a.plan.past) ∧ wr.drew.cell? ⟨w.heap.size, 9, none⟩ = some (.int .i64 a.plan.epoch) ∧ wr.drew.cell? ⟨w.heap.size, 10, none⟩ = some (.string a.plan.key) ∧ wr.drew.cell? ⟨b, off + k * 5, none⟩ = some (.string a.sp[k].fr) from hr0)
      have hrz : RoundCells w.heap.size b (off + k * 5) a (.slice (some ⟨b, off, none⟩) a.sp.length cap) a.sp[k].fr (wr.alloc zeroS.blk) := hr0.below (al _) mlt blt
      have HRz := Lib.hid (show (wr.alloc (.cells #[.string ⟨#[]⟩, .string ⟨#[]⟩, .int .i64 0, .int .i64 0, .int .i64 0] 50)).drew.cell? ⟨w.heap.size, 0, none⟩ = some (.int .i64 a.groups) ∧ (wr.alloc (.cells #[.string ⟨#[]⟩, .string ⟨#[]⟩, .int .i64 0, .int .i64 0, .int .i64 0] 50)).drew.cell? ⟨w.heap.size, 1, none⟩ = some (.int .i64 a.last) ∧ (wr.alloc (.cells #[.string ⟨#[]⟩, .string ⟨#[]⟩, .int .i64 0, .int .i64 0, .int .i64 0] 50)).drew.cell? ⟨w.heap.size, 2, none⟩ = some (.slice (some ⟨b, off, none⟩) a.sp.length cap) ∧ (wr.alloc (.cells #[.string ⟨#[]⟩, .string ⟨#[]⟩, .int .i64 0, .int .i64 0, .int .i64 0] 50)).drew.cell? ⟨w.heap.size, 3, none⟩ = some (.int .i64 a.plan.kind) ∧ (wr.alloc (.cells #[.string ⟨#[]⟩, .string ⟨#[]⟩, .int .i64 0, .int .i64 0, .int .i64 0] 50)).drew.cell? ⟨w.heap.size, 4, none⟩ = some (.int .i64 a.plan.phase) ∧ (wr.alloc (.cells #[.string ⟨#[]⟩, .string ⟨#[]⟩, .int .i64 0, .int .i64 0, .int .i64 0] 50)).drew.cell? ⟨w.heap.size, 5, none⟩ = some (.int .i64 a.plan.shard) ∧ (wr.alloc (.cells #[.string ⟨#[]⟩, .string ⟨#[]⟩, .int .i64 0, .int .i64 0, .int .i64 0] 50)).drew.cell? ⟨w.heap.size, 6, none⟩ = some (.int .i64 a.plan.other) ∧ (wr.alloc (.cells #[.string ⟨#[]⟩, .string ⟨#[]⟩, .int .i64 0, .int .i64 0, .int .i64 0] 50)).drew.cell? ⟨w.heap.size, 7, none⟩ = some (.int .i64 a.plan.group) ∧ (wr.alloc (.cells #[.string ⟨#[]⟩, .string ⟨#[]⟩, .int .i64 0, .int .i64 0, .int .i64 0] 50)).drew.cell? ⟨w.heap.size, 8, none⟩ = some (.int .i64 a.plan.past) ∧ (wr.alloc (.cells #[.string ⟨#[]⟩, .string ⟨#[]⟩, .int .i64 0, .int .i64 0, .int .i64 0] 50)).drew.cell? ⟨w.heap.size, 9, none⟩ = some (.int .i64 a.plan.epoch) ∧ (wr.alloc (.cells #[.string ⟨#[]⟩, .string ⟨#[]⟩, .int .i64 0, .int .i64 0, .int .i64 0] 50)).drew.cell? ⟨w.heap.size, 10, none⟩ = some (.string a.plan.key) ∧ (wr.alloc (.cells #[.string ⟨#[]⟩, .string ⟨#[]⟩, .int .i64 0, .int .i64 0, .int .i64 0] 50)).drew.cell? ⟨b, off + k * 5, none⟩ = some (.string a.sp[k].fr) from hrz)
      have hbz : Below wr.heap.size wr (wr.alloc (.cells #[.string ⟨#[]⟩, .string ⟨#[]⟩, .int .i64 0, .int .i64 0, .int .i64 0] 50)).drew := (al (w := wr) zeroS.blk).drew
      have hzz : (wr.alloc (.cells #[.string ⟨#[]⟩, .string ⟨#[]⟩, .int .i64 0, .int .i64 0, .int .i64 0] 50)).drew.heap[wr.heap.size]? = some zeroS.blk := heap_alloc_new wr _
      have Hbz := Lib.hid hbz; have Hzz := Lib.hid hzz
      clear hf hBr hXr hbel hrz hbz hzz hr0
      go_region_held3 (fun w' => w'.cell? ⟨w.heap.size, 0, none⟩ = some (.int .i64 a.groups) ∧ w'.cell? ⟨w.heap.size, 1, none⟩ = some (.int .i64 a.last) ∧ w'.cell? ⟨w.heap.size, 2, none⟩ = some (.slice (some ⟨b, off, none⟩) a.sp.length cap) ∧ w'.cell? ⟨w.heap.size, 3, none⟩ = some (.int .i64 a.plan.kind) ∧ w'.cell? ⟨w.heap.size, 4, none⟩ = some (.int .i64 a.plan.phase) ∧ w'.cell? ⟨w.heap.size, 5, none⟩ = some (.int .i64 a.plan.shard) ∧ w'.cell? ⟨w.heap.size, 6, none⟩ = some (.int .i64 a.plan.other) ∧ w'.cell? ⟨w.heap.size, 7, none⟩ = some (.int .i64 a.plan.group) ∧ w'.cell? ⟨w.heap.size, 8, none⟩ = some (.int .i64 a.plan.past) ∧ w'.cell? ⟨w.heap.size, 9, none⟩ = some (.int .i64 a.plan.epoch) ∧ w'.cell? ⟨w.heap.size, 10, none⟩ = some (.string a.plan.key) ∧ w'.cell? ⟨b, off + k * 5, none⟩ = some (.string a.sp[k].fr))
        (first | with_reducible exact HR0.out | with_reducible exact HRz.out | with_reducible exact HR1.out | with_reducible exact HR2.out | with_reducible exact HR3.out)
        (first
          | (go_at_call 30
             refine (HF.out wr.drew ((HI.out.below HBr.out).below ((Below.refl _ wr).drew))).mono ?_
             rintro e wc ⟨rfl, hbc⟩
             have hbc' : Below wr.heap.size wr wc := ((Below.refl _ wr).drew).trans hbc
             have hr1 : RoundCells w.heap.size b (off + k * 5) a (.slice (some ⟨b, off, none⟩) a.sp.length cap) a.sp[k].fr wc := RoundCells.below (w := wr.drew) HR0.out hbc mlt blt
             have HR1 := Lib.hid (show wc.cell? ⟨w.heap.size, 0, none⟩ = some (.int .i64 a.groups) ∧ wc.cell? ⟨w.heap.size, 1, none⟩ = some (.int .i64 a.last) ∧ wc.cell? ⟨w.heap.size, 2, none⟩ = some (.slice (some ⟨b, off, none⟩) a.sp.length cap) ∧ wc.cell? ⟨w.heap.size, 3, none⟩ = some (.int .i64 a.plan.kind) ∧ wc.cell? ⟨w.heap.size, 4, none⟩ = some (.int .i64 a.plan.phase) ∧ wc.cell? ⟨w.heap.size, 5, none⟩ = some (.int .i64 a.plan.shard) ∧ wc.cell? ⟨w.heap.size, 6, none⟩ = some (.int .i64 a.plan.other) ∧ wc.cell? ⟨w.heap.size, 7, none⟩ = some (.int .i64 a.plan.group) ∧ wc.cell? ⟨w.heap.size, 8, none⟩ = some (.int .i64 a.plan.past) ∧ wc.cell? ⟨w.heap.size, 9, none⟩ = some (.int .i64 a.plan.epoch) ∧ wc.cell? ⟨w.heap.size, 10, none⟩ = some (.string a.plan.key) ∧ wc.cell? ⟨b, off + k * 5, none⟩ = some (.string a.sp[k].fr) from hr1)
             have hr2 : RoundCells w.heap.size b (off + k * 5) a (.slice (some ⟨b, off, none⟩) a.sp.length cap) a.sp[k].fr (wc.alloc (zeroS.blk)) := hr1.below (al _) (Nat.lt_of_lt_of_le mlt hbc'.size) (Nat.lt_of_lt_of_le blt hbc'.size)
             have HR2 := Lib.hid (show (wc.alloc (.cells #[.string ⟨#[]⟩, .string ⟨#[]⟩, .int .i64 0, .int .i64 0, .int .i64 0] 50)).cell? ⟨w.heap.size, 0, none⟩ = some (.int .i64 a.groups) ∧ (wc.alloc (.cells #[.string ⟨#[]⟩, .string ⟨#[]⟩, .int .i64 0, .int .i64 0, .int .i64 0] 50)).cell? ⟨w.heap.size, 1, none⟩ = some (.int .i64 a.last) ∧ (wc.alloc (.cells #[.string ⟨#[]⟩, .string ⟨#[]⟩, .int .i64 0, .int .i64 0, .int .i64 0] 50)).cell? ⟨w.heap.size, 2, none⟩ = some (.slice (some ⟨b, off, none⟩) a.sp.length cap) ∧ (wc.alloc (.cells #[.string ⟨#[]⟩, .string ⟨#[]⟩, .int .i64 0, .int .i64 0, .int .i64 0] 50)).cell? ⟨w.heap.size, 3, none⟩ = some (.int .i64 a.plan.kind) ∧ (wc.alloc (.cells #[.string ⟨#[]⟩, .string ⟨#[]⟩, .int .i64 0, .int .i64 0, .int .i64 0] 50)).cell? ⟨w.heap.size, 4, none⟩ = some (.int .i64 a.plan.phase) ∧ (wc.alloc (.cells #[.string ⟨#[]⟩, .string ⟨#[]⟩, .int .i64 0, .int .i64 0, .int .i64 0] 50)).cell? ⟨w.heap.size, 5, none⟩ = some (.int .i64 a.plan.shard) ∧ (wc.alloc (.cells #[.string ⟨#[]⟩, .string ⟨#[]⟩, .int .i64 0, .int .i64 0, .int .i64 0] 50)).cell? ⟨w.heap.size, 6, none⟩ = some (.int .i64 a.plan.other) ∧ (wc.alloc (.cells #[.string ⟨#[]⟩, .string ⟨#[]⟩, .int .i64 0, .int .i64 0, .int .i64 0] 50)).cell? ⟨w.heap.size, 7, none⟩ = some (.int .i64 a.plan.group) ∧ (wc.alloc (.cells #[.string ⟨#[]⟩, .string ⟨#[]⟩, .int .i64 0, .int .i64 0, .int .i64 0] 50)).cell? ⟨w.heap.size, 8, none⟩ = some (.int .i64 a.plan.past) ∧ (wc.alloc (.cells #[.string ⟨#[]⟩, .string ⟨#[]⟩, .int .i64 0, .int .i64 0, .int .i64 0] 50)).cell? ⟨w.heap.size, 9, none⟩ = some (.int .i64 a.plan.epoch) ∧ (wc.alloc (.cells #[.string ⟨#[]⟩, .string ⟨#[]⟩, .int .i64 0, .int .i64 0, .int .i64 0] 50)).cell? ⟨w.heap.size, 10, none⟩ = some (.string a.plan.key) ∧ (wc.alloc (.cells #[.string ⟨#[]⟩, .string ⟨#[]⟩, .int .i64 0, .int .i64 0, .int .i64 0] 50)).cell? ⟨b, off + k * 5, none⟩ = some (.string a.sp[k].fr) from hr2)
             have hr3 : RoundCells w.heap.size b (off + k * 5) a (.slice (some ⟨b, off, none⟩) a.sp.length cap) a.sp[k].fr (wc.alloc (a.sp[k].blk)) := hr1.below (al _) (Nat.lt_of_lt_of_le mlt hbc'.size) (Nat.lt_of_lt_of_le blt hbc'.size)
             have HR3 := Lib.hid (show (wc.alloc (.cells #[.string a.sp[k].fr, .string a.sp[k].to, .int .i64 a.sp[k].sh, .int .i64 a.sp[k].ep, .int .i64 a.sp[k].gr] 50)).cell? ⟨w.heap.size, 0, none⟩ = some (.int .i64 a.groups) ∧ (wc.alloc (.cells #[.string a.sp[k].fr, .string a.sp[k].to, .int .i64 a.sp[k].sh, .int .i64 a.sp[k].ep, .int .i64 a.sp[k].gr] 50)).cell? ⟨w.heap.size, 1, none⟩ = some (.int .i64 a.last) ∧ (wc.alloc (.cells #[.string a.sp[k].fr, .string a.sp[k].to, .int .i64 a.sp[k].sh, .int .i64 a.sp[k].ep, .int .i64 a.sp[k].gr] 50)).cell? ⟨w.heap.size, 2, none⟩ = some (.slice (some ⟨b, off, none⟩) a.sp.length cap) ∧ (wc.alloc (.cells #[.string a.sp[k].fr, .string a.sp[k].to, .int .i64 a.sp[k].sh, .int .i64 a.sp[k].ep, .int .i64 a.sp[k].gr] 50)).cell? ⟨w.heap.size, 3, none⟩ = some (.int .i64 a.plan.kind) ∧ (wc.alloc (.cells #[.string a.sp[k].fr, .string a.sp[k].to, .int .i64 a.sp[k].sh, .int .i64 a.sp[k].ep, .int .i64 a.sp[k].gr] 50)).cell? ⟨w.heap.size, 4, none⟩ = some (.int .i64 a.plan.phase) ∧ (wc.alloc (.cells #[.string a.sp[k].fr, .string a.sp[k].to, .int .i64 a.sp[k].sh, .int .i64 a.sp[k].ep, .int .i64 a.sp[k].gr] 50)).cell? ⟨w.heap.size, 5, none⟩ = some (.int .i64 a.plan.shard) ∧ (wc.alloc (.cells #[.string a.sp[k].fr, .string a.sp[k].to, .int .i64 a.sp[k].sh, .int .i64 a.sp[k].ep, .int .i64 a.sp[k].gr] 50)).cell? ⟨w.heap.size, 6, none⟩ = some (.int .i64 a.plan.other) ∧ (wc.alloc (.cells #[.string a.sp[k].fr, .string a.sp[k].to, .int .i64 a.sp[k].sh, .int .i64 a.sp[k].ep, .int .i64 a.sp[k].gr] 50)).cell? ⟨w.heap.size, 7, none⟩ = some (.int .i64 a.plan.group) ∧ (wc.alloc (.cells #[.string a.sp[k].fr, .string a.sp[k].to, .int .i64 a.sp[k].sh, .int .i64 a.sp[k].ep, .int .i64 a.sp[k].gr] 50)).cell? ⟨w.heap.size, 8, none⟩ = some (.int .i64 a.plan.past) ∧ (wc.alloc (.cells #[.string a.sp[k].fr, .string a.sp[k].to, .int .i64 a.sp[k].sh, .int .i64 a.sp[k].ep, .int .i64 a.sp[k].gr] 50)).cell? ⟨w.heap.size, 9, none⟩ = some (.int .i64 a.plan.epoch) ∧ (wc.alloc (.cells #[.string a.sp[k].fr, .string a.sp[k].to, .int .i64 a.sp[k].sh, .int .i64 a.sp[k].ep, .int .i64 a.sp[k].gr] 50)).cell? ⟨w.heap.size, 10, none⟩ = some (.string a.plan.key) ∧ (wc.alloc (.cells #[.string a.sp[k].fr, .string a.sp[k].to, .int .i64 a.sp[k].sh, .int .i64 a.sp[k].ep, .int .i64 a.sp[k].gr] 50)).cell? ⟨b, off + k * 5, none⟩ = some (.string a.sp[k].fr) from hr3)
             have hbw : Below wr.heap.size wr (wc.alloc (.cells #[.string a.sp[k].fr, .string a.sp[k].to, .int .i64 a.sp[k].sh, .int .i64 a.sp[k].ep, .int .i64 a.sp[k].gr] 50)) := hbc'.trans ((al (w := wc) a.sp[k].blk).mono hbc'.size)
             have hsw : (wc.alloc (.cells #[.string a.sp[k].fr, .string a.sp[k].to, .int .i64 a.sp[k].sh, .int .i64 a.sp[k].ep, .int .i64 a.sp[k].gr] 50)).heap[wc.heap.size]? = some a.sp[k].blk := heap_alloc_new wc _
             have Hbw := Lib.hid hbw; have Hsw := Lib.hid hsw
             clear hr1 hr2 hr3 hbc hbc' hbw hsw)
          | (go_at_call 30
             refine (HF.out (wr.alloc (.cells #[.string ⟨#[]⟩, .string ⟨#[]⟩, .int .i64 0, .int .i64 0, .int .i64 0] 50)).drew ((HI.out.below HBr.out).below Hbz.out)).mono ?_
             rintro e wc ⟨rfl, hbc⟩
             have hbc' : Below wr.heap.size wr wc := Hbz.out.trans (hbc.mono Hbz.out.size)
             have hr1 : RoundCells w.heap.size b (off + k * 5) a (.slice (some ⟨b, off, none⟩) a.sp.length cap) a.sp[k].fr wc := RoundCells.below (w := (wr.alloc (.cells #[.string ⟨#[]⟩, .string ⟨#[]⟩, .int .i64 0, .int .i64 0, .int .i64 0] 50)).drew) HRz.out hbc (Nat.lt_of_lt_of_le mlt Hbz.out.size) (Nat.lt_of_lt_of_le blt Hbz.out.size)
             have HR1 := Lib.hid (show wc.cell? ⟨w.heap.size, 0, none⟩ = some (.int .i64 a.groups) ∧ wc.cell? ⟨w.heap.size, 1, none⟩ = some (.int .i64 a.last) ∧ wc.cell? ⟨w.heap.size, 2, none⟩ = some (.slice (some ⟨b, off, none⟩) a.sp.length cap) ∧ wc.cell? ⟨w.heap.size, 3, none⟩ = some (.int .i64 a.plan.kind) ∧ wc.cell? ⟨w.heap.size, 4, none⟩ = some (.int .i64 a.plan.phase) ∧ wc.cell? ⟨w.heap.size, 5, none⟩ = some (.int .i64 a.plan.shard) ∧ wc.cell? ⟨w.heap.size, 6, none⟩ = some (.int .i64 a.plan.other) ∧ wc.cell? ⟨w.heap.size, 7, none⟩ = some (.int .i64 a.plan.group) ∧ wc.cell? ⟨w.heap.size, 8, none⟩ = some (.int .i64 a.plan.past) ∧ wc.cell? ⟨w.heap.size, 9, none⟩ = some (.int .i64 a.plan.epoch) ∧ wc.cell? ⟨w.heap.size, 10, none⟩ = some (.string a.plan.key) ∧ wc.cell? ⟨b, off + k * 5, none⟩ = some (.string a.sp[k].fr) from hr1)
             have hzc := blk_below hbc (lt_of_some Hzz.out) Hzz.out
             obtain ⟨z0, z1, z2, z3, z4, zlt⟩ := span_blk hzc
             have fz0 := fz_blk hzc 0; have fz1 := fz_blk hzc 1; have fz2 := fz_blk hzc 2; have fz3 := fz_blk hzc 3; have fz4 := fz_blk hzc 4
             simp only [zeroS] at z0 z1 z2 z3 z4
             have hon : Only (· = wr.heap.size) wc (((((wc.setCell ⟨wr.heap.size, 0, none⟩ (.string a.sp[k].fr)).setCell ⟨wr.heap.size, 1, none⟩ (.string a.sp[k].to)).setCell ⟨wr.heap.size, 2, none⟩ (.int .i64 a.sp[k].sh)).setCell ⟨wr.heap.size, 3, none⟩ (.int .i64 a.sp[k].ep)).setCell ⟨wr.heap.size, 4, none⟩ (.int .i64 a.sp[k].gr)) := (((((only_setCell wc ⟨wr.heap.size, 0, none⟩ (.string a.sp[k].fr)).trans (only_setCell (wc.setCell ⟨wr.heap.size, 0, none⟩ (.string a.sp[k].fr)) ⟨wr.heap.size, 1, none⟩ (.string a.sp[k].to)) (fun _ _ h => h)).trans (only_setCell ((wc.setCell ⟨wr.heap.size, 0, none⟩ (.string a.sp[k].fr)).setCell ⟨wr.heap.size, 1, none⟩ (.string a.sp[k].to)) ⟨wr.heap.size, 2, none⟩ (.int .i64 a.sp[k].sh)) (fun _ _ h => h)).trans (only_setCell (((wc.setCell ⟨wr.heap.size, 0, none⟩ (.string a.sp[k].fr)).setCell ⟨wr.heap.size, 1, none⟩ (.string a.sp[k].to)).setCell ⟨wr.heap.size, 2, none⟩ (.int .i64 a.sp[k].sh)) ⟨wr.heap.size, 3, none⟩ (.int .i64 a.sp[k].ep)) (fun _ _ h => h)).trans (only_setCell ((((wc.setCell ⟨wr.heap.size, 0, none⟩ (.string a.sp[k].fr)).setCell ⟨wr.heap.size, 1, none⟩ (.string a.sp[k].to)).setCell ⟨wr.heap.size, 2, none⟩ (.int .i64 a.sp[k].sh)).setCell ⟨wr.heap.size, 3, none⟩ (.int .i64 a.sp[k].ep)) ⟨wr.heap.size, 4, none⟩ (.int .i64 a.sp[k].gr)) (fun _ _ h => h))
             have hr2 : RoundCells w.heap.size b (off + k * 5) a (.slice (some ⟨b, off, none⟩) a.sp.length cap) a.sp[k].fr (((((wc.setCell ⟨wr.heap.size, 0, none⟩ (.string a.sp[k].fr)).setCell ⟨wr.heap.size, 1, none⟩ (.string a.sp[k].to)).setCell ⟨wr.heap.size, 2, none⟩ (.int .i64 a.sp[k].sh)).setCell ⟨wr.heap.size, 3, none⟩ (.int .i64 a.sp[k].ep)).setCell ⟨wr.heap.size, 4, none⟩ (.int .i64 a.sp[k].gr)) := hr1.below (hon.below (B := wr.heap.size) (Below.refl _ _) (fun q hq => by omega) hbc'.size) mlt blt
             have HR2 := Lib.hid (show (((((wc.setCell ⟨wr.heap.size, 0, none⟩ (.string a.sp[k].fr)).setCell ⟨wr.heap.size, 1, none⟩ (.string a.sp[k].to)).setCell ⟨wr.heap.size, 2, none⟩ (.int .i64 a.sp[k].sh)).setCell ⟨wr.heap.size, 3, none⟩ (.int .i64 a.sp[k].ep)).setCell ⟨wr.heap.size, 4, none⟩ (.int .i64 a.sp[k].gr)).cell? ⟨w.heap.size, 0, none⟩ = some (.int .i64 a.groups) ∧ (((((wc.setCell ⟨wr.heap.size, 0, none⟩ (.string a.sp[k].fr)).setCell ⟨wr.heap.size, 1, none⟩ (.string a.sp[k].to)).setCell ⟨wr.heap.size, 2, none⟩ (.int .i64 a.sp[k].sh)).setCell ⟨wr.heap.size, 3, none⟩ (.int .i64 a.sp[k].ep)).setCell ⟨wr.heap.size, 4, none⟩ (.int .i64 a.sp[k].gr)).cell? ⟨w.heap.size, 1, none⟩ = some (.int .i64 a.last) ∧ (((((wc.setCell ⟨wr.heap.size, 0, none⟩ (.string a.sp[k].fr)).setCell ⟨wr.heap.size, 1, none⟩ (.string a.sp[k].to)).setCell ⟨wr.heap.size, 2, none⟩ (.int .i64 a.sp[k].sh)).setCell ⟨wr.heap.size, 3, none⟩ (.int .i64 a.sp[k].ep)).setCell ⟨wr.heap.size, 4, none⟩ (.int .i64 a.sp[k].gr)).cell? ⟨w.heap.size, 2, none⟩ = some (.slice (some ⟨b, off, none⟩) a.sp.length cap) ∧ (((((wc.setCell ⟨wr.heap.size, 0, none⟩ (.string a.sp[k].fr)).setCell ⟨wr.heap.size, 1, none⟩ (.string a.sp[k].to)).setCell ⟨wr.heap.size, 2, none⟩ (.int .i64 a.sp[k].sh)).setCell ⟨wr.heap.size, 3, none⟩ (.int .i64 a.sp[k].ep)).setCell ⟨wr.heap.size, 4, none⟩ (.int .i64 a.sp[k].gr)).cell? ⟨w.heap.size, 3, none⟩ = some (.int .i64 a.plan.kind) ∧ (((((wc.setCell ⟨wr.heap.size, 0, none⟩ (.string a.sp[k].fr)).setCell ⟨wr.heap.size, 1, none⟩ (.string a.sp[k].to)).setCell ⟨wr.heap.size, 2, none⟩ (.int .i64 a.sp[k].sh)).setCell ⟨wr.heap.size, 3, none⟩ (.int .i64 a.sp[k].ep)).setCell ⟨wr.heap.size, 4, none⟩ (.int .i64 a.sp[k].gr)).cell? ⟨w.heap.size, 4, none⟩ = some (.int .i64 a.plan.phase) ∧ (((((wc.setCell ⟨wr.heap.size, 0, none⟩ (.string a.sp[k].fr)).setCell ⟨wr.heap.size, 1, none⟩ (.string a.sp[k].to)).setCell ⟨wr.heap.size, 2, none⟩ (.int .i64 a.sp[k].sh)).setCell ⟨wr.heap.size, 3, none⟩ (.int .i64 a.sp[k].ep)).setCell ⟨wr.heap.size, 4, none⟩ (.int .i64 a.sp[k].gr)).cell? ⟨w.heap.size, 5, none⟩ = some (.int .i64 a.plan.shard) ∧ (((((wc.setCell ⟨wr.heap.size, 0, none⟩ (.string a.sp[k].fr)).setCell ⟨wr.heap.size, 1, none⟩ (.string a.sp[k].to)).setCell ⟨wr.heap.size, 2, none⟩ (.int .i64 a.sp[k].sh)).setCell ⟨wr.heap.size, 3, none⟩ (.int .i64 a.sp[k].ep)).setCell ⟨wr.heap.size, 4, none⟩ (.int .i64 a.sp[k].gr)).cell? ⟨w.heap.size, 6, none⟩ = some (.int .i64 a.plan.other) ∧ (((((wc.setCell ⟨wr.heap.size, 0, none⟩ (.string a.sp[k].fr)).setCell ⟨wr.heap.size, 1, none⟩ (.string a.sp[k].to)).setCell ⟨wr.heap.size, 2, none⟩ (.int .i64 a.sp[k].sh)).setCell ⟨wr.heap.size, 3, none⟩ (.int .i64 a.sp[k].ep)).setCell ⟨wr.heap.size, 4, none⟩ (.int .i64 a.sp[k].gr)).cell? ⟨w.heap.size, 7, none⟩ = some (.int .i64 a.plan.group) ∧ (((((wc.setCell ⟨wr.heap.size, 0, none⟩ (.string a.sp[k].fr)).setCell ⟨wr.heap.size, 1, none⟩ (.string a.sp[k].to)).setCell ⟨wr.heap.size, 2, none⟩ (.int .i64 a.sp[k].sh)).setCell ⟨wr.heap.size, 3, none⟩ (.int .i64 a.sp[k].ep)).setCell ⟨wr.heap.size, 4, none⟩ (.int .i64 a.sp[k].gr)).cell? ⟨w.heap.size, 8, none⟩ = some (.int .i64 a.plan.past) ∧ (((((wc.setCell ⟨wr.heap.size, 0, none⟩ (.string a.sp[k].fr)).setCell ⟨wr.heap.size, 1, none⟩ (.string a.sp[k].to)).setCell ⟨wr.heap.size, 2, none⟩ (.int .i64 a.sp[k].sh)).setCell ⟨wr.heap.size, 3, none⟩ (.int .i64 a.sp[k].ep)).setCell ⟨wr.heap.size, 4, none⟩ (.int .i64 a.sp[k].gr)).cell? ⟨w.heap.size, 9, none⟩ = some (.int .i64 a.plan.epoch) ∧ (((((wc.setCell ⟨wr.heap.size, 0, none⟩ (.string a.sp[k].fr)).setCell ⟨wr.heap.size, 1, none⟩ (.string a.sp[k].to)).setCell ⟨wr.heap.size, 2, none⟩ (.int .i64 a.sp[k].sh)).setCell ⟨wr.heap.size, 3, none⟩ (.int .i64 a.sp[k].ep)).setCell ⟨wr.heap.size, 4, none⟩ (.int .i64 a.sp[k].gr)).cell? ⟨w.heap.size, 10, none⟩ = some (.string a.plan.key) ∧ (((((wc.setCell ⟨wr.heap.size, 0, none⟩ (.string a.sp[k].fr)).setCell ⟨wr.heap.size, 1, none⟩ (.string a.sp[k].to)).setCell ⟨wr.heap.size, 2, none⟩ (.int .i64 a.sp[k].sh)).setCell ⟨wr.heap.size, 3, none⟩ (.int .i64 a.sp[k].ep)).setCell ⟨wr.heap.size, 4, none⟩ (.int .i64 a.sp[k].gr)).cell? ⟨b, off + k * 5, none⟩ = some (.string a.sp[k].fr) from hr2)
             have HR3 := HR2
             have hbw : Below wr.heap.size wr (((((wc.setCell ⟨wr.heap.size, 0, none⟩ (.string a.sp[k].fr)).setCell ⟨wr.heap.size, 1, none⟩ (.string a.sp[k].to)).setCell ⟨wr.heap.size, 2, none⟩ (.int .i64 a.sp[k].sh)).setCell ⟨wr.heap.size, 3, none⟩ (.int .i64 a.sp[k].ep)).setCell ⟨wr.heap.size, 4, none⟩ (.int .i64 a.sp[k].gr)) := hon.below hbc' (fun q hq => by omega) hbc'.size
             have hsw : (((((wc.setCell ⟨wr.heap.size, 0, none⟩ (.string a.sp[k].fr)).setCell ⟨wr.heap.size, 1, none⟩ (.string a.sp[k].to)).setCell ⟨wr.heap.size, 2, none⟩ (.int .i64 a.sp[k].sh)).setCell ⟨wr.heap.size, 3, none⟩ (.int .i64 a.sp[k].ep)).setCell ⟨wr.heap.size, 4, none⟩ (.int .i64 a.sp[k].gr)).heap[wr.heap.size]? = some a.sp[k].blk := by
               have := (heap_setCell_at (i := 4) (heap_setCell_at (i := 3) (heap_setCell_at (i := 2) (heap_setCell_at (i := 1) (heap_setCell_at (i := 0) hzc (.string a.sp[k].fr)) (.string a.sp[k].to)) (.int .i64 a.sp[k].sh)) (.int .i64 a.sp[k].ep)) (.int .i64 a.sp[k].gr))
               refine (show _ = _ from this).trans ?_
               simp only [Span.blk, zeroS, List.setIfInBounds_toArray, List.set_cons_zero, List.set_cons_succ]
             have Hbw := Lib.hid hbw; have Hsw := Lib.hid hsw
             clear hr1 hr2 hbc hbc' hbw hsw hzc hon))
      all_goals
        clear m0 m1 m2 m3 m4 m5 m6 m7 m8 m9 m10 mlt p0 p1 p2 p3 p4
        obtain ⟨s0, s1, s2, s3, s4, slt⟩ := span_blk Hsw.out
        obtain ⟨m0, m1, m2, m3, m4, m5, m6, m7, m8, m9, m10, mlt⟩ := map_cells (blk_below Hbw.out (lt_of_some HXr.out) HXr.out)
        obtain ⟨_, _, he, blt2, p0, p1, p2, p3, p4⟩ := span_cells ((HI.out.below HBr.out).below Hbw.out).row k hlt
        injection he with he
        injection he with hx1 hx2
        subst hx1; subst hx2
        go_wp2_with fail
        go_quiet (fail)
        go_wp2_with fail
        go_roundw
        case rel => exact ⟨k + 1, by omega, by omega, by go_num, below_drewN Hbel.out Hbw.out _⟩
        case measure => simp [intOf]; omega
    · go_wp2
      go_ret
      exact ⟨rfl, hBr⟩
set_option maxRecDepth 100000 in
set_option maxHeartbeats 8000000 in
theorem finds_z (w : World) (A : Option Addr) (cap : Nat) (a : Atl) (x y z : ByteArray) (h : MapIn w A cap a) (hfr : ∀ s ∈ a.sp, s.fr.size ≤ 9223372036854775807) (S T U : Span) (o1 o2 o3 : Bool) (h1 : FoundIs A cap a x S o1) (h2 : FoundIs A cap a z T o2) (h3 : FoundIs A cap a y U o3) (hm : tr (MapOk a) = true) (q1 : o1 = true) (q2 : o2 = false)  :
    Calls Try.prog 11 #[a.val (.slice A a.sp.length cap), .string x, .string y, .string z] w fun e w' => e = .returned (.bool true) ∧ Below w.heap.size w w' := by
  subst q1
  subst q2
  have hC1 := fun w h => check_any w A cap a h
  rw [hm] at hC1
  have H1 := Lib.hid h1; have H2 := Lib.hid h2; have H3 := Lib.hid h3; have HC := Lib.hid hC1; have HI := Lib.hid h; have Hfr := Lib.hid hfr; have Hm := Lib.hid hm
  clear h1 h2 h3 hC1 h hfr hm
  go_enter Try.func11, Try.ntmps11
  go_upto_region 1 with fail
  change Code.wp _ _ _ _ (w.alloc (a.blk (.slice A a.sp.length cap)))
  have hX0 := heap_alloc_new w (a.blk (.slice A a.sp.length cap))
  have hB0 : Below w.heap.size w (w.alloc (a.blk (.slice A a.sp.length cap))) := al _
  generalize w.alloc (a.blk (.slice A a.sp.length cap)) = w0 at *
  have HX0 := Lib.hid hX0; have HB0 := Lib.hid hB0
  clear hX0 hB0
  go_upto_region 3 with (go_at_call 13
                         refine (awakeA _).mono ?_
                         rintro e w1 ⟨rfl, hb1⟩
                         have HX1 := Lib.hid (blk_below hb1 (lt_of_some HX0.out) HX0.out)
                         have HB1 := Lib.hid (HB0.out.trans (hb1.mono HB0.out.size))
                         clear hb1)
  refine wp_region_lit ?_
  refine wpList_load26 rfl (.tmp 4) rfl (w.heap.size) rfl HX1.out ?_
  simp only [Act.put, List.setIfInBounds_toArray, List.set_cons_zero, List.set_cons_succ]
  refine wpList_step (fun K hK => ?_)
  go_simp
  refine hK _ _ ?_
  clear hK K
  refine wpList_step (fun K hK => ?_)
  go_simp
  go_at_call 30
  refine (H1.out _ (HI.out.below HB1.out)).mono ?_
  rintro e w2 ⟨rfl, hb2⟩
  refine hK _ _ ?_
  clear hK K
  refine wpList_step (fun K hK => ?_)
  go_simp
  refine hK _ _ ?_
  clear hK K
  refine wpList_step (fun K hK => ?_)
  go_simp
  refine hK _ _ ?_
  clear hK K
  refine wpList_step (fun K hK => ?_)
  go_simp
  refine hK _ _ ?_
  clear hK K
  refine wpList_step (fun K hK => ?_)
  go_simp
  refine hK _ _ ?_
  clear hK K
  refine wpList_store50 rfl (.tmp 9) (.tmp 24) rfl w2.heap.size rfl (p := S) (p0 := zeroS) rfl (heap_alloc_new w2 _) ?_
  intro w3 hS ho
  simp only [Act.put, List.setIfInBounds_toArray, List.set_cons_zero, List.set_cons_succ]
  have hb : Below w2.heap.size w2 w3 := ho.below (al _) (fun k hk => by omega) (by simp)
  have hbx : Below w1.heap.size w1 w3 := hb2.trans (hb.mono hb2.size)
  have HX3 := Lib.hid (blk_below hbx (lt_of_some HX1.out) HX1.out)
  have HB3 := Lib.hid (HB1.out.trans (hbx.mono HB1.out.size))
  have HS3 := Lib.hid hS
  clear hb2 hb hbx hS ho
  go_upto_region 4 with fail
  refine wp_region_lit ?_
  refine wpList_load26 rfl (.tmp 4) rfl (w.heap.size) rfl HX3.out ?_
  simp only [Act.put, List.setIfInBounds_toArray, List.set_cons_zero, List.set_cons_succ]
  refine wpList_step (fun K hK => ?_)
  go_simp
  refine hK _ _ ?_
  clear hK K
  refine wpList_step (fun K hK => ?_)
  go_simp
  go_at_call 30
  refine (H2.out _ (HI.out.below HB3.out)).mono ?_
  rintro e w4 ⟨rfl, hb4⟩
  refine hK _ _ ?_
  clear hK K
  refine wpList_step (fun K hK => ?_)
  go_simp
  refine hK _ _ ?_
  clear hK K
  refine wpList_step (fun K hK => ?_)
  go_simp
  refine hK _ _ ?_
  clear hK K
  refine wpList_step (fun K hK => ?_)
  go_simp
  refine hK _ _ ?_
  clear hK K
  refine wpList_step (fun K hK => ?_)
  go_simp
  refine hK _ _ ?_
  clear hK K
  refine wpList_store50 rfl (.tmp 11) (.tmp 30) rfl w4.heap.size rfl (p := T) (p0 := zeroS) rfl (heap_alloc_new w4 _) ?_
  intro w5 hT ho
  simp only [Act.put, List.setIfInBounds_toArray, List.set_cons_zero, List.set_cons_succ]
  have hb : Below w4.heap.size w4 w5 := ho.below (al _) (fun k hk => by omega) (by simp)
  have hbx : Below w3.heap.size w3 w5 := hb4.trans (hb.mono hb4.size)
  have HX5 := Lib.hid (blk_below hbx (lt_of_some HX3.out) HX3.out)
  have HB5 := Lib.hid (HB3.out.trans (hbx.mono HB3.out.size))
  have HS5 := Lib.hid (blk_below hbx (lt_of_some HS3.out) HS3.out)
  have HT5 := Lib.hid hT
  clear hb4 hb hbx hT ho
  go_upto_region 5 with fail
  refine wp_region_lit ?_
  refine wpList_load26 rfl (.tmp 4) rfl (w.heap.size) rfl HX5.out ?_
  simp only [Act.put, List.setIfInBounds_toArray, List.set_cons_zero, List.set_cons_succ]
  refine wpList_step (fun K hK => ?_)
  go_simp
  refine hK _ _ ?_
  clear hK K
  refine wpList_step (fun K hK => ?_)
  go_simp
  go_at_call 30
  refine (H3.out _ (HI.out.below HB5.out)).mono ?_
  rintro e w6 ⟨rfl, hb6⟩
  refine hK _ _ ?_
  clear hK K
  refine wpList_step (fun K hK => ?_)
  go_simp
  refine hK _ _ ?_
  clear hK K
  refine wpList_step (fun K hK => ?_)
  go_simp
  refine hK _ _ ?_
  clear hK K
  refine wpList_step (fun K hK => ?_)
  go_simp
  refine hK _ _ ?_
  clear hK K
  refine wpList_step (fun K hK => ?_)
  go_simp
  refine hK _ _ ?_
  clear hK K
  refine wpList_store50 rfl (.tmp 13) (.tmp 36) rfl w6.heap.size rfl (p := U) (p0 := zeroS) rfl (heap_alloc_new w6 _) ?_
  intro w7 hU ho
  simp only [Act.put, List.setIfInBounds_toArray, List.set_cons_zero, List.set_cons_succ]
  have hb : Below w6.heap.size w6 w7 := ho.below (al _) (fun k hk => by omega) (by simp)
  have hbx : Below w5.heap.size w5 w7 := hb6.trans (hb.mono hb6.size)
  have HX7 := Lib.hid (blk_below hbx (lt_of_some HX5.out) HX5.out)
  have HB7 := Lib.hid (HB5.out.trans (hbx.mono HB5.out.size))
  have HS7 := Lib.hid (blk_below hbx (lt_of_some HS5.out) HS5.out)
  have HT7 := Lib.hid (blk_below hbx (lt_of_some HT5.out) HT5.out)
  have HU7 := Lib.hid hU
  clear hb6 hb hbx hU ho
  go_upto_region 6 with fail
  obtain ⟨s0, s1, s2, s3, s4, slt⟩ := span_blk HS7.out
  obtain ⟨t0, t1, t2, t3, t4, tlt⟩ := span_blk HT7.out
  obtain ⟨u0, u1, u2, u3, u4, ult⟩ := span_blk HU7.out
  obtain ⟨m0, m1, m2, m3, m4, m5, m6, m7, m8, m9, m10, mlt⟩ := map_cells HX7.out
  go_upto_region 10 with (go_at_call 29
                          refine (HC.out _ (HI.out.below HB7.out)).mono ?_
                          rintro e w8 ⟨rfl, hb8⟩
                          have HX8 := Lib.hid (blk_below hb8 (lt_of_some HX7.out) HX7.out)
                          have HB8 := Lib.hid (HB7.out.trans (hb8.mono HB7.out.size))
                          clear hb8)
  clear s0 s1 s2 s3 s4 slt t0 t1 t2 t3 t4 tlt u0 u1 u2 u3 u4 ult m0 m1 m2 m3 m4 m5 m6 m7 m8 m9 m10 mlt
  have hm := of_tr Hm.out
  have h16 : a.sp.length ≤ 16 := hm.2.2.2.1.1
  obtain ⟨b, off, rfl⟩ : ∃ b off, A = some ⟨b, off, none⟩ := by
    obtain ⟨b, off, hA, _⟩ := span_cells HI.out.row 0 hm.2.2.2.1.2.1
    exact ⟨b, off, hA⟩
  have Hmk := Lib.hid hm
  clear hm
  go_wp2_with fail
  go_loopw [15] (fun v wr => ∃ k : Nat, 1 ≤ k ∧ k ≤ a.sp.length ∧ v = .int .i64 k ∧ Below w8.heap.size w8 wr) (fun v _ => a.sp.length - (intOf v).toNat)
  case atStart => exact ⟨1, Nat.le_refl _, Hmk.out.2.2.2.1.2.1, rfl, Below.refl _ _⟩
  case round =>
    obtain ⟨k, hk0, hk, rfl, hbel⟩ := hrel
    have hXr := blk_below hbel (lt_of_some HX8.out) HX8.out
    have hBr := HB8.out.trans (hbel.mono HB8.out.size)
    obtain ⟨m0, m1, m2, m3, m4, m5, m6, m7, m8, m9, m10, mlt⟩ := map_cells hXr
    have hw1 : IntKind.i64.wrap ((k : Int) + 1) = (k : Int) + 1 := IntWalk.i64_in _ (by omega)
    by_cases hlt : k < a.sp.length
    · obtain ⟨_, _, he, blt, p0, p1, p2, p3, p4⟩ := span_cells (HI.out.below hBr).row k hlt
      injection he with he
      injection he with hx1 hx2
      subst hx1; subst hx2
      have hk1 : (0 : Int) ≤ (k : Int) := by omega
      have hk2 : (k : Int) < (a.sp.length : Int) := by omega
      have hf : FoundIs (some ⟨b, off, none⟩) cap a a.sp[k].fr a.sp[k] true := fun w h => find_some w _ cap a a.sp[k].fr k h Hm.out (Hfr.out _ (List.getElem_mem hlt)) (by
        have := (sp_next Hmk.out.2.2.2.1 (k - 1) (by omega)).2
        simpa only [show k - 1 + 1 = k by omega] using this) hlt (found_self Hmk.out.2.2.2.1 k hlt)
      have HF := Lib.hid hf; have HBr := Lib.hid hBr; have HXr := Lib.hid hXr; have Hbel := Lib.hid hbel
      go_wp2_with fail
      have hr0 : RoundCells w.heap.size b (off + k * 5) a (.slice (some ⟨b, off, none⟩) a.sp.length cap) a.sp[k].fr wr := ⟨m0, m1, m2, m3, m4, m5, m6, m7, m8, m9, m10, p0⟩
      have HR0 := Lib.hid (show wr.drew.cell? ⟨w.heap.size, 0, none⟩ = some (.int .i64 a.groups) ∧ wr.drew.cell? ⟨w.heap.size, 1, none⟩ = some (.int .i64 a.last) ∧ wr.drew.cell? ⟨w.heap.size, 2, none⟩ = some (.slice (some ⟨b, off, none⟩) a.sp.length cap) ∧ wr.drew.cell? ⟨w.heap.size, 3, none⟩ = some (.int .i64 a.plan.kind) ∧ wr.drew.cell? ⟨w.heap.size, 4, none⟩ = some (.int .i64 a.plan.phase) ∧ wr.drew.cell? ⟨w.heap.size, 5, none⟩ = some (.int .i64 a.plan.shard) ∧ wr.drew.cell? ⟨w.heap.size, 6, none⟩ = some (.int .i64 a.plan.other) ∧ wr.drew.cell? ⟨w.heap.size, 7, none⟩ = some (.int .i64 a.plan.group) ∧ wr.drew.cell? ⟨w.heap.size, 8, none⟩ = some (.int .i64 a.plan.past) ∧ wr.drew.cell? ⟨w.heap.size, 9, none⟩ = some (.int .i64 a.plan.epoch) ∧ wr.drew.cell? ⟨w.heap.size, 10, none⟩ = some (.string a.plan.key) ∧ wr.drew.cell? ⟨b, off + k * 5, none⟩ = some (.string a.sp[k].fr) from hr0)
      have hrz : RoundCells w.heap.size b (off + k * 5) a (.slice (some ⟨b, off, none⟩) a.sp.length cap) a.sp[k].fr (wr.alloc zeroS.blk) := hr0.below (al _) mlt blt
      have HRz := Lib.hid (show (wr.alloc (.cells #[.string ⟨#[]⟩, .string ⟨#[]⟩, .int .i64 0, .int .i64 0, .int .i64 0] 50)).drew.cell? ⟨w.heap.size, 0, none⟩ = some (.int .i64 a.groups) ∧ (wr.alloc (.cells #[.string ⟨#[]⟩, .string ⟨#[]⟩, .int .i64 0, .int .i64 0, .int .i64 0] 50)).drew.cell? ⟨w.heap.size, 1, none⟩ = some (.int .i64 a.last) ∧ (wr.alloc (.cells #[.string ⟨#[]⟩, .string ⟨#[]⟩, .int .i64 0, .int .i64 0, .int .i64 0] 50)).drew.cell? ⟨w.heap.size, 2, none⟩ = some (.slice (some ⟨b, off, none⟩) a.sp.length cap) ∧ (wr.alloc (.cells #[.string ⟨#[]⟩, .string ⟨#[]⟩, .int .i64 0, .int .i64 0, .int .i64 0] 50)).drew.cell? ⟨w.heap.size, 3, none⟩ = some (.int .i64 a.plan.kind) ∧ (wr.alloc (.cells #[.string ⟨#[]⟩, .string ⟨#[]⟩, .int .i64 0, .int .i64 0, .int .i64 0] 50)).drew.cell? ⟨w.heap.size, 4, none⟩ = some (.int .i64 a.plan.phase) ∧ (wr.alloc (.cells #[.string ⟨#[]⟩, .string ⟨#[]⟩, .int .i64 0, .int .i64 0, .int .i64 0] 50)).drew.cell? ⟨w.heap.size, 5, none⟩ = some (.int .i64 a.plan.shard) ∧ (wr.alloc (.cells #[.string ⟨#[]⟩, .string ⟨#[]⟩, .int .i64 0, .int .i64 0, .int .i64 0] 50)).drew.cell? ⟨w.heap.size, 6, none⟩ = some (.int .i64 a.plan.other) ∧ (wr.alloc (.cells #[.string ⟨#[]⟩, .string ⟨#[]⟩, .int .i64 0, .int .i64 0, .int .i64 0] 50)).drew.cell? ⟨w.heap.size, 7, none⟩ = some (.int .i64 a.plan.group) ∧ (wr.alloc (.cells #[.string ⟨#[]⟩, .string ⟨#[]⟩, .int .i64 0, .int .i64 0, .int .i64 0] 50)).drew.cell? ⟨w.heap.size, 8, none⟩ = some (.int .i64 a.plan.past) ∧ (wr.alloc (.cells #[.string ⟨#[]⟩, .string ⟨#[]⟩, .int .i64 0, .int .i64 0, .int .i64 0] 50)).drew.cell? ⟨w.heap.size, 9, none⟩ = some (.int .i64 a.plan.epoch) ∧ (wr.alloc (.cells #[.string ⟨#[]⟩, .string ⟨#[]⟩, .int .i64 0, .int .i64 0, .int .i64 0] 50)).drew.cell? ⟨w.heap.size, 10, none⟩ = some (.string a.plan.key) ∧ (wr.alloc (.cells #[.string ⟨#[]⟩, .string ⟨#[]⟩, .int .i64 0, .int .i64 0, .int .i64 0] 50)).drew.cell? ⟨b, off + k * 5, none⟩ = some (.string a.sp[k].fr) from hrz)
      have hbz : Below wr.heap.size wr (wr.alloc (.cells #[.string ⟨#[]⟩, .string ⟨#[]⟩, .int .i64 0, .int .i64 0, .int .i64 0] 50)).drew := (al (w := wr) zeroS.blk).drew
      have hzz : (wr.alloc (.cells #[.string ⟨#[]⟩, .string ⟨#[]⟩, .int .i64 0, .int .i64 0, .int .i64 0] 50)).drew.heap[wr.heap.size]? = some zeroS.blk := heap_alloc_new wr _
      have Hbz := Lib.hid hbz; have Hzz := Lib.hid hzz
      clear hf hBr hXr hbel hrz hbz hzz hr0
      go_region_held3 (fun w' => w'.cell? ⟨w.heap.size, 0, none⟩ = some (.int .i64 a.groups) ∧ w'.cell? ⟨w.heap.size, 1, none⟩ = some (.int .i64 a.last) ∧ w'.cell? ⟨w.heap.size, 2, none⟩ = some (.slice (some ⟨b, off, none⟩) a.sp.length cap) ∧ w'.cell? ⟨w.heap.size, 3, none⟩ = some (.int .i64 a.plan.kind) ∧ w'.cell? ⟨w.heap.size, 4, none⟩ = some (.int .i64 a.plan.phase) ∧ w'.cell? ⟨w.heap.size, 5, none⟩ = some (.int .i64 a.plan.shard) ∧ w'.cell? ⟨w.heap.size, 6, none⟩ = some (.int .i64 a.plan.other) ∧ w'.cell? ⟨w.heap.size, 7, none⟩ = some (.int .i64 a.plan.group) ∧ w'.cell? ⟨w.heap.size, 8, none⟩ = some (.int .i64 a.plan.past) ∧ w'.cell? ⟨w.heap.size, 9, none⟩ = some (.int .i64 a.plan.epoch) ∧ w'.cell? ⟨w.heap.size, 10, none⟩ = some (.string a.plan.key) ∧ w'.cell? ⟨b, off + k * 5, none⟩ = some (.string a.sp[k].fr))
        (first | with_reducible exact HR0.out | with_reducible exact HRz.out | with_reducible exact HR1.out | with_reducible exact HR2.out | with_reducible exact HR3.out)
        (first
          | (go_at_call 30
             refine (HF.out wr.drew ((HI.out.below HBr.out).below ((Below.refl _ wr).drew))).mono ?_
             rintro e wc ⟨rfl, hbc⟩
             have hbc' : Below wr.heap.size wr wc := ((Below.refl _ wr).drew).trans hbc
             have hr1 : RoundCells w.heap.size b (off + k * 5) a (.slice (some ⟨b, off, none⟩) a.sp.length cap) a.sp[k].fr wc := RoundCells.below (w := wr.drew) HR0.out hbc mlt blt
             have HR1 := Lib.hid (show wc.cell? ⟨w.heap.size, 0, none⟩ = some (.int .i64 a.groups) ∧ wc.cell? ⟨w.heap.size, 1, none⟩ = some (.int .i64 a.last) ∧ wc.cell? ⟨w.heap.size, 2, none⟩ = some (.slice (some ⟨b, off, none⟩) a.sp.length cap) ∧ wc.cell? ⟨w.heap.size, 3, none⟩ = some (.int .i64 a.plan.kind) ∧ wc.cell? ⟨w.heap.size, 4, none⟩ = some (.int .i64 a.plan.phase) ∧ wc.cell? ⟨w.heap.size, 5, none⟩ = some (.int .i64 a.plan.shard) ∧ wc.cell? ⟨w.heap.size, 6, none⟩ = some (.int .i64 a.plan.other) ∧ wc.cell? ⟨w.heap.size, 7, none⟩ = some (.int .i64 a.plan.group) ∧ wc.cell? ⟨w.heap.size, 8, none⟩ = some (.int .i64 a.plan.past) ∧ wc.cell? ⟨w.heap.size, 9, none⟩ = some (.int .i64 a.plan.epoch) ∧ wc.cell? ⟨w.heap.size, 10, none⟩ = some (.string a.plan.key) ∧ wc.cell? ⟨b, off + k * 5, none⟩ = some (.string a.sp[k].fr) from hr1)
             have hr2 : RoundCells w.heap.size b (off + k * 5) a (.slice (some ⟨b, off, none⟩) a.sp.length cap) a.sp[k].fr (wc.alloc (zeroS.blk)) := hr1.below (al _) (Nat.lt_of_lt_of_le mlt hbc'.size) (Nat.lt_of_lt_of_le blt hbc'.size)
             have HR2 := Lib.hid (show (wc.alloc (.cells #[.string ⟨#[]⟩, .string ⟨#[]⟩, .int .i64 0, .int .i64 0, .int .i64 0] 50)).cell? ⟨w.heap.size, 0, none⟩ = some (.int .i64 a.groups) ∧ (wc.alloc (.cells #[.string ⟨#[]⟩, .string ⟨#[]⟩, .int .i64 0, .int .i64 0, .int .i64 0] 50)).cell? ⟨w.heap.size, 1, none⟩ = some (.int .i64 a.last) ∧ (wc.alloc (.cells #[.string ⟨#[]⟩, .string ⟨#[]⟩, .int .i64 0, .int .i64 0, .int .i64 0] 50)).cell? ⟨w.heap.size, 2, none⟩ = some (.slice (some ⟨b, off, none⟩) a.sp.length cap) ∧ (wc.alloc (.cells #[.string ⟨#[]⟩, .string ⟨#[]⟩, .int .i64 0, .int .i64 0, .int .i64 0] 50)).cell? ⟨w.heap.size, 3, none⟩ = some (.int .i64 a.plan.kind) ∧ (wc.alloc (.cells #[.string ⟨#[]⟩, .string ⟨#[]⟩, .int .i64 0, .int .i64 0, .int .i64 0] 50)).cell? ⟨w.heap.size, 4, none⟩ = some (.int .i64 a.plan.phase) ∧ (wc.alloc (.cells #[.string ⟨#[]⟩, .string ⟨#[]⟩, .int .i64 0, .int .i64 0, .int .i64 0] 50)).cell? ⟨w.heap.size, 5, none⟩ = some (.int .i64 a.plan.shard) ∧ (wc.alloc (.cells #[.string ⟨#[]⟩, .string ⟨#[]⟩, .int .i64 0, .int .i64 0, .int .i64 0] 50)).cell? ⟨w.heap.size, 6, none⟩ = some (.int .i64 a.plan.other) ∧ (wc.alloc (.cells #[.string ⟨#[]⟩, .string ⟨#[]⟩, .int .i64 0, .int .i64 0, .int .i64 0] 50)).cell? ⟨w.heap.size, 7, none⟩ = some (.int .i64 a.plan.group) ∧ (wc.alloc (.cells #[.string ⟨#[]⟩, .string ⟨#[]⟩, .int .i64 0, .int .i64 0, .int .i64 0] 50)).cell? ⟨w.heap.size, 8, none⟩ = some (.int .i64 a.plan.past) ∧ (wc.alloc (.cells #[.string ⟨#[]⟩, .string ⟨#[]⟩, .int .i64 0, .int .i64 0, .int .i64 0] 50)).cell? ⟨w.heap.size, 9, none⟩ = some (.int .i64 a.plan.epoch) ∧ (wc.alloc (.cells #[.string ⟨#[]⟩, .string ⟨#[]⟩, .int .i64 0, .int .i64 0, .int .i64 0] 50)).cell? ⟨w.heap.size, 10, none⟩ = some (.string a.plan.key) ∧ (wc.alloc (.cells #[.string ⟨#[]⟩, .string ⟨#[]⟩, .int .i64 0, .int .i64 0, .int .i64 0] 50)).cell? ⟨b, off + k * 5, none⟩ = some (.string a.sp[k].fr) from hr2)
             have hr3 : RoundCells w.heap.size b (off + k * 5) a (.slice (some ⟨b, off, none⟩) a.sp.length cap) a.sp[k].fr (wc.alloc (a.sp[k].blk)) := hr1.below (al _) (Nat.lt_of_lt_of_le mlt hbc'.size) (Nat.lt_of_lt_of_le blt hbc'.size)
             have HR3 := Lib.hid (show (wc.alloc (.cells #[.string a.sp[k].fr, .string a.sp[k].to, .int .i64 a.sp[k].sh, .int .i64 a.sp[k].ep, .int .i64 a.sp[k].gr] 50)).cell? ⟨w.heap.size, 0, none⟩ = some (.int .i64 a.groups) ∧ (wc.alloc (.cells #[.string a.sp[k].fr, .string a.sp[k].to, .int .i64 a.sp[k].sh, .int .i64 a.sp[k].ep, .int .i64 a.sp[k].gr] 50)).cell? ⟨w.heap.size, 1, none⟩ = some (.int .i64 a.last) ∧ (wc.alloc (.cells #[.string a.sp[k].fr, .string a.sp[k].to, .int .i64 a.sp[k].sh, .int .i64 a.sp[k].ep, .int .i64 a.sp[k].gr] 50)).cell? ⟨w.heap.size, 2, none⟩ = some (.slice (some ⟨b, off, none⟩) a.sp.length cap) ∧ (wc.alloc (.cells #[.string a.sp[k].fr, .string a.sp[k].to, .int .i64 a.sp[k].sh, .int .i64 a.sp[k].ep, .int .i64 a.sp[k].gr] 50)).cell? ⟨w.heap.size, 3, none⟩ = some (.int .i64 a.plan.kind) ∧ (wc.alloc (.cells #[.string a.sp[k].fr, .string a.sp[k].to, .int .i64 a.sp[k].sh, .int .i64 a.sp[k].ep, .int .i64 a.sp[k].gr] 50)).cell? ⟨w.heap.size, 4, none⟩ = some (.int .i64 a.plan.phase) ∧ (wc.alloc (.cells #[.string a.sp[k].fr, .string a.sp[k].to, .int .i64 a.sp[k].sh, .int .i64 a.sp[k].ep, .int .i64 a.sp[k].gr] 50)).cell? ⟨w.heap.size, 5, none⟩ = some (.int .i64 a.plan.shard) ∧ (wc.alloc (.cells #[.string a.sp[k].fr, .string a.sp[k].to, .int .i64 a.sp[k].sh, .int .i64 a.sp[k].ep, .int .i64 a.sp[k].gr] 50)).cell? ⟨w.heap.size, 6, none⟩ = some (.int .i64 a.plan.other) ∧ (wc.alloc (.cells #[.string a.sp[k].fr, .string a.sp[k].to, .int .i64 a.sp[k].sh, .int .i64 a.sp[k].ep, .int .i64 a.sp[k].gr] 50)).cell? ⟨w.heap.size, 7, none⟩ = some (.int .i64 a.plan.group) ∧ (wc.alloc (.cells #[.string a.sp[k].fr, .string a.sp[k].to, .int .i64 a.sp[k].sh, .int .i64 a.sp[k].ep, .int .i64 a.sp[k].gr] 50)).cell? ⟨w.heap.size, 8, none⟩ = some (.int .i64 a.plan.past) ∧ (wc.alloc (.cells #[.string a.sp[k].fr, .string a.sp[k].to, .int .i64 a.sp[k].sh, .int .i64 a.sp[k].ep, .int .i64 a.sp[k].gr] 50)).cell? ⟨w.heap.size, 9, none⟩ = some (.int .i64 a.plan.epoch) ∧ (wc.alloc (.cells #[.string a.sp[k].fr, .string a.sp[k].to, .int .i64 a.sp[k].sh, .int .i64 a.sp[k].ep, .int .i64 a.sp[k].gr] 50)).cell? ⟨w.heap.size, 10, none⟩ = some (.string a.plan.key) ∧ (wc.alloc (.cells #[.string a.sp[k].fr, .string a.sp[k].to, .int .i64 a.sp[k].sh, .int .i64 a.sp[k].ep, .int .i64 a.sp[k].gr] 50)).cell? ⟨b, off + k * 5, none⟩ = some (.string a.sp[k].fr) from hr3)
             have hbw : Below wr.heap.size wr (wc.alloc (.cells #[.string a.sp[k].fr, .string a.sp[k].to, .int .i64 a.sp[k].sh, .int .i64 a.sp[k].ep, .int .i64 a.sp[k].gr] 50)) := hbc'.trans ((al (w := wc) a.sp[k].blk).mono hbc'.size)
             have hsw : (wc.alloc (.cells #[.string a.sp[k].fr, .string a.sp[k].to, .int .i64 a.sp[k].sh, .int .i64 a.sp[k].ep, .int .i64 a.sp[k].gr] 50)).heap[wc.heap.size]? = some a.sp[k].blk := heap_alloc_new wc _
             have Hbw := Lib.hid hbw; have Hsw := Lib.hid hsw
             clear hr1 hr2 hr3 hbc hbc' hbw hsw)
          | (go_at_call 30
             refine (HF.out (wr.alloc (.cells #[.string ⟨#[]⟩, .string ⟨#[]⟩, .int .i64 0, .int .i64 0, .int .i64 0] 50)).drew ((HI.out.below HBr.out).below Hbz.out)).mono ?_
             rintro e wc ⟨rfl, hbc⟩
             have hbc' : Below wr.heap.size wr wc := Hbz.out.trans (hbc.mono Hbz.out.size)
             have hr1 : RoundCells w.heap.size b (off + k * 5) a (.slice (some ⟨b, off, none⟩) a.sp.length cap) a.sp[k].fr wc := RoundCells.below (w := (wr.alloc (.cells #[.string ⟨#[]⟩, .string ⟨#[]⟩, .int .i64 0, .int .i64 0, .int .i64 0] 50)).drew) HRz.out hbc (Nat.lt_of_lt_of_le mlt Hbz.out.size) (Nat.lt_of_lt_of_le blt Hbz.out.size)
             have HR1 := Lib.hid (show wc.cell? ⟨w.heap.size, 0, none⟩ = some (.int .i64 a.groups) ∧ wc.cell? ⟨w.heap.size, 1, none⟩ = some (.int .i64 a.last) ∧ wc.cell? ⟨w.heap.size, 2, none⟩ = some (.slice (some ⟨b, off, none⟩) a.sp.length cap) ∧ wc.cell? ⟨w.heap.size, 3, none⟩ = some (.int .i64 a.plan.kind) ∧ wc.cell? ⟨w.heap.size, 4, none⟩ = some (.int .i64 a.plan.phase) ∧ wc.cell? ⟨w.heap.size, 5, none⟩ = some (.int .i64 a.plan.shard) ∧ wc.cell? ⟨w.heap.size, 6, none⟩ = some (.int .i64 a.plan.other) ∧ wc.cell? ⟨w.heap.size, 7, none⟩ = some (.int .i64 a.plan.group) ∧ wc.cell? ⟨w.heap.size, 8, none⟩ = some (.int .i64 a.plan.past) ∧ wc.cell? ⟨w.heap.size, 9, none⟩ = some (.int .i64 a.plan.epoch) ∧ wc.cell? ⟨w.heap.size, 10, none⟩ = some (.string a.plan.key) ∧ wc.cell? ⟨b, off + k * 5, none⟩ = some (.string a.sp[k].fr) from hr1)
             have hzc := blk_below hbc (lt_of_some Hzz.out) Hzz.out
             obtain ⟨z0, z1, z2, z3, z4, zlt⟩ := span_blk hzc
             have fz0 := fz_blk hzc 0; have fz1 := fz_blk hzc 1; have fz2 := fz_blk hzc 2; have fz3 := fz_blk hzc 3; have fz4 := fz_blk hzc 4
             simp only [zeroS] at z0 z1 z2 z3 z4
             have hon : Only (· = wr.heap.size) wc (((((wc.setCell ⟨wr.heap.size, 0, none⟩ (.string a.sp[k].fr)).setCell ⟨wr.heap.size, 1, none⟩ (.string a.sp[k].to)).setCell ⟨wr.heap.size, 2, none⟩ (.int .i64 a.sp[k].sh)).setCell ⟨wr.heap.size, 3, none⟩ (.int .i64 a.sp[k].ep)).setCell ⟨wr.heap.size, 4, none⟩ (.int .i64 a.sp[k].gr)) := (((((only_setCell wc ⟨wr.heap.size, 0, none⟩ (.string a.sp[k].fr)).trans (only_setCell (wc.setCell ⟨wr.heap.size, 0, none⟩ (.string a.sp[k].fr)) ⟨wr.heap.size, 1, none⟩ (.string a.sp[k].to)) (fun _ _ h => h)).trans (only_setCell ((wc.setCell ⟨wr.heap.size, 0, none⟩ (.string a.sp[k].fr)).setCell ⟨wr.heap.size, 1, none⟩ (.string a.sp[k].to)) ⟨wr.heap.size, 2, none⟩ (.int .i64 a.sp[k].sh)) (fun _ _ h => h)).trans (only_setCell (((wc.setCell ⟨wr.heap.size, 0, none⟩ (.string a.sp[k].fr)).setCell ⟨wr.heap.size, 1, none⟩ (.string a.sp[k].to)).setCell ⟨wr.heap.size, 2, none⟩ (.int .i64 a.sp[k].sh)) ⟨wr.heap.size, 3, none⟩ (.int .i64 a.sp[k].ep)) (fun _ _ h => h)).trans (only_setCell ((((wc.setCell ⟨wr.heap.size, 0, none⟩ (.string a.sp[k].fr)).setCell ⟨wr.heap.size, 1, none⟩ (.string a.sp[k].to)).setCell ⟨wr.heap.size, 2, none⟩ (.int .i64 a.sp[k].sh)).setCell ⟨wr.heap.size, 3, none⟩ (.int .i64 a.sp[k].ep)) ⟨wr.heap.size, 4, none⟩ (.int .i64 a.sp[k].gr)) (fun _ _ h => h))
             have hr2 : RoundCells w.heap.size b (off + k * 5) a (.slice (some ⟨b, off, none⟩) a.sp.length cap) a.sp[k].fr (((((wc.setCell ⟨wr.heap.size, 0, none⟩ (.string a.sp[k].fr)).setCell ⟨wr.heap.size, 1, none⟩ (.string a.sp[k].to)).setCell ⟨wr.heap.size, 2, none⟩ (.int .i64 a.sp[k].sh)).setCell ⟨wr.heap.size, 3, none⟩ (.int .i64 a.sp[k].ep)).setCell ⟨wr.heap.size, 4, none⟩ (.int .i64 a.sp[k].gr)) := hr1.below (hon.below (B := wr.heap.size) (Below.refl _ _) (fun q hq => by omega) hbc'.size) mlt blt
             have HR2 := Lib.hid (show (((((wc.setCell ⟨wr.heap.size, 0, none⟩ (.string a.sp[k].fr)).setCell ⟨wr.heap.size, 1, none⟩ (.string a.sp[k].to)).setCell ⟨wr.heap.size, 2, none⟩ (.int .i64 a.sp[k].sh)).setCell ⟨wr.heap.size, 3, none⟩ (.int .i64 a.sp[k].ep)).setCell ⟨wr.heap.size, 4, none⟩ (.int .i64 a.sp[k].gr)).cell? ⟨w.heap.size, 0, none⟩ = some (.int .i64 a.groups) ∧ (((((wc.setCell ⟨wr.heap.size, 0, none⟩ (.string a.sp[k].fr)).setCell ⟨wr.heap.size, 1, none⟩ (.string a.sp[k].to)).setCell ⟨wr.heap.size, 2, none⟩ (.int .i64 a.sp[k].sh)).setCell ⟨wr.heap.size, 3, none⟩ (.int .i64 a.sp[k].ep)).setCell ⟨wr.heap.size, 4, none⟩ (.int .i64 a.sp[k].gr)).cell? ⟨w.heap.size, 1, none⟩ = some (.int .i64 a.last) ∧ (((((wc.setCell ⟨wr.heap.size, 0, none⟩ (.string a.sp[k].fr)).setCell ⟨wr.heap.size, 1, none⟩ (.string a.sp[k].to)).setCell ⟨wr.heap.size, 2, none⟩ (.int .i64 a.sp[k].sh)).setCell ⟨wr.heap.size, 3, none⟩ (.int .i64 a.sp[k].ep)).setCell ⟨wr.heap.size, 4, none⟩ (.int .i64 a.sp[k].gr)).cell? ⟨w.heap.size, 2, none⟩ = some (.slice (some ⟨b, off, none⟩) a.sp.length cap) ∧ (((((wc.setCell ⟨wr.heap.size, 0, none⟩ (.string a.sp[k].fr)).setCell ⟨wr.heap.size, 1, none⟩ (.string a.sp[k].to)).setCell ⟨wr.heap.size, 2, none⟩ (.int .i64 a.sp[k].sh)).setCell ⟨wr.heap.size, 3, none⟩ (.int .i64 a.sp[k].ep)).setCell ⟨wr.heap.size, 4, none⟩ (.int .i64 a.sp[k].gr)).cell? ⟨w.heap.size, 3, none⟩ = some (.int .i64 a.plan.kind) ∧ (((((wc.setCell ⟨wr.heap.size, 0, none⟩ (.string a.sp[k].fr)).setCell ⟨wr.heap.size, 1, none⟩ (.string a.sp[k].to)).setCell ⟨wr.heap.size, 2, none⟩ (.int .i64 a.sp[k].sh)).setCell ⟨wr.heap.size, 3, none⟩ (.int .i64 a.sp[k].ep)).setCell ⟨wr.heap.size, 4, none⟩ (.int .i64 a.sp[k].gr)).cell? ⟨w.heap.size, 4, none⟩ = some (.int .i64 a.plan.phase) ∧ (((((wc.setCell ⟨wr.heap.size, 0, none⟩ (.string a.sp[k].fr)).setCell ⟨wr.heap.size, 1, none⟩ (.string a.sp[k].to)).setCell ⟨wr.heap.size, 2, none⟩ (.int .i64 a.sp[k].sh)).setCell ⟨wr.heap.size, 3, none⟩ (.int .i64 a.sp[k].ep)).setCell ⟨wr.heap.size, 4, none⟩ (.int .i64 a.sp[k].gr)).cell? ⟨w.heap.size, 5, none⟩ = some (.int .i64 a.plan.shard) ∧ (((((wc.setCell ⟨wr.heap.size, 0, none⟩ (.string a.sp[k].fr)).setCell ⟨wr.heap.size, 1, none⟩ (.string a.sp[k].to)).setCell ⟨wr.heap.size, 2, none⟩ (.int .i64 a.sp[k].sh)).setCell ⟨wr.heap.size, 3, none⟩ (.int .i64 a.sp[k].ep)).setCell ⟨wr.heap.size, 4, none⟩ (.int .i64 a.sp[k].gr)).cell? ⟨w.heap.size, 6, none⟩ = some (.int .i64 a.plan.other) ∧ (((((wc.setCell ⟨wr.heap.size, 0, none⟩ (.string a.sp[k].fr)).setCell ⟨wr.heap.size, 1, none⟩ (.string a.sp[k].to)).setCell ⟨wr.heap.size, 2, none⟩ (.int .i64 a.sp[k].sh)).setCell ⟨wr.heap.size, 3, none⟩ (.int .i64 a.sp[k].ep)).setCell ⟨wr.heap.size, 4, none⟩ (.int .i64 a.sp[k].gr)).cell? ⟨w.heap.size, 7, none⟩ = some (.int .i64 a.plan.group) ∧ (((((wc.setCell ⟨wr.heap.size, 0, none⟩ (.string a.sp[k].fr)).setCell ⟨wr.heap.size, 1, none⟩ (.string a.sp[k].to)).setCell ⟨wr.heap.size, 2, none⟩ (.int .i64 a.sp[k].sh)).setCell ⟨wr.heap.size, 3, none⟩ (.int .i64 a.sp[k].ep)).setCell ⟨wr.heap.size, 4, none⟩ (.int .i64 a.sp[k].gr)).cell? ⟨w.heap.size, 8, none⟩ = some (.int .i64 a.plan.past) ∧ (((((wc.setCell ⟨wr.heap.size, 0, none⟩ (.string a.sp[k].fr)).setCell ⟨wr.heap.size, 1, none⟩ (.string a.sp[k].to)).setCell ⟨wr.heap.size, 2, none⟩ (.int .i64 a.sp[k].sh)).setCell ⟨wr.heap.size, 3, none⟩ (.int .i64 a.sp[k].ep)).setCell ⟨wr.heap.size, 4, none⟩ (.int .i64 a.sp[k].gr)).cell? ⟨w.heap.size, 9, none⟩ = some (.int .i64 a.plan.epoch) ∧ (((((wc.setCell ⟨wr.heap.size, 0, none⟩ (.string a.sp[k].fr)).setCell ⟨wr.heap.size, 1, none⟩ (.string a.sp[k].to)).setCell ⟨wr.heap.size, 2, none⟩ (.int .i64 a.sp[k].sh)).setCell ⟨wr.heap.size, 3, none⟩ (.int .i64 a.sp[k].ep)).setCell ⟨wr.heap.size, 4, none⟩ (.int .i64 a.sp[k].gr)).cell? ⟨w.heap.size, 10, none⟩ = some (.string a.plan.key) ∧ (((((wc.setCell ⟨wr.heap.size, 0, none⟩ (.string a.sp[k].fr)).setCell ⟨wr.heap.size, 1, none⟩ (.string a.sp[k].to)).setCell ⟨wr.heap.size, 2, none⟩ (.int .i64 a.sp[k].sh)).setCell ⟨wr.heap.size, 3, none⟩ (.int .i64 a.sp[k].ep)).setCell ⟨wr.heap.size, 4, none⟩ (.int .i64 a.sp[k].gr)).cell? ⟨b, off + k * 5, none⟩ = some (.string a.sp[k].fr) from hr2)
             have HR3 := HR2
             have hbw : Below wr.heap.size wr (((((wc.setCell ⟨wr.heap.size, 0, none⟩ (.string a.sp[k].fr)).setCell ⟨wr.heap.size, 1, none⟩ (.string a.sp[k].to)).setCell ⟨wr.heap.size, 2, none⟩ (.int .i64 a.sp[k].sh)).setCell ⟨wr.heap.size, 3, none⟩ (.int .i64 a.sp[k].ep)).setCell ⟨wr.heap.size, 4, none⟩ (.int .i64 a.sp[k].gr)) := hon.below hbc' (fun q hq => by omega) hbc'.size
             have hsw : (((((wc.setCell ⟨wr.heap.size, 0, none⟩ (.string a.sp[k].fr)).setCell ⟨wr.heap.size, 1, none⟩ (.string a.sp[k].to)).setCell ⟨wr.heap.size, 2, none⟩ (.int .i64 a.sp[k].sh)).setCell ⟨wr.heap.size, 3, none⟩ (.int .i64 a.sp[k].ep)).setCell ⟨wr.heap.size, 4, none⟩ (.int .i64 a.sp[k].gr)).heap[wr.heap.size]? = some a.sp[k].blk := by
               have := (heap_setCell_at (i := 4) (heap_setCell_at (i := 3) (heap_setCell_at (i := 2) (heap_setCell_at (i := 1) (heap_setCell_at (i := 0) hzc (.string a.sp[k].fr)) (.string a.sp[k].to)) (.int .i64 a.sp[k].sh)) (.int .i64 a.sp[k].ep)) (.int .i64 a.sp[k].gr))
               refine (show _ = _ from this).trans ?_
               simp only [Span.blk, zeroS, List.setIfInBounds_toArray, List.set_cons_zero, List.set_cons_succ]
             have Hbw := Lib.hid hbw; have Hsw := Lib.hid hsw
             clear hr1 hr2 hbc hbc' hbw hsw hzc hon))
      all_goals
        clear m0 m1 m2 m3 m4 m5 m6 m7 m8 m9 m10 mlt p0 p1 p2 p3 p4
        obtain ⟨s0, s1, s2, s3, s4, slt⟩ := span_blk Hsw.out
        obtain ⟨m0, m1, m2, m3, m4, m5, m6, m7, m8, m9, m10, mlt⟩ := map_cells (blk_below Hbw.out (lt_of_some HXr.out) HXr.out)
        obtain ⟨_, _, he, blt2, p0, p1, p2, p3, p4⟩ := span_cells ((HI.out.below HBr.out).below Hbw.out).row k hlt
        injection he with he
        injection he with hx1 hx2
        subst hx1; subst hx2
        go_wp2_with fail
        go_quiet (fail)
        go_wp2_with fail
        go_roundw
        case rel => exact ⟨k + 1, by omega, by omega, by go_num, below_drewN Hbel.out Hbw.out _⟩
        case measure => simp [intOf]; omega
    · go_wp2
      go_ret
      exact ⟨rfl, hBr⟩
set_option maxRecDepth 100000 in
set_option maxHeartbeats 8000000 in
theorem finds_y (w : World) (A : Option Addr) (cap : Nat) (a : Atl) (x y z : ByteArray) (h : MapIn w A cap a) (hfr : ∀ s ∈ a.sp, s.fr.size ≤ 9223372036854775807) (S T U : Span) (o1 o2 o3 : Bool) (h1 : FoundIs A cap a x S o1) (h2 : FoundIs A cap a z T o2) (h3 : FoundIs A cap a y U o3) (hm : tr (MapOk a) = true) (q1 : o1 = true) (q2 : o2 = true) (q3 : o3 = false)  :
    Calls Try.prog 11 #[a.val (.slice A a.sp.length cap), .string x, .string y, .string z] w fun e w' => e = .returned (.bool true) ∧ Below w.heap.size w w' := by
  subst q1
  subst q2
  subst q3
  have hC1 := fun w h => check_any w A cap a h
  rw [hm] at hC1
  have H1 := Lib.hid h1; have H2 := Lib.hid h2; have H3 := Lib.hid h3; have HC := Lib.hid hC1; have HI := Lib.hid h; have Hfr := Lib.hid hfr; have Hm := Lib.hid hm
  clear h1 h2 h3 hC1 h hfr hm
  go_enter Try.func11, Try.ntmps11
  go_upto_region 1 with fail
  change Code.wp _ _ _ _ (w.alloc (a.blk (.slice A a.sp.length cap)))
  have hX0 := heap_alloc_new w (a.blk (.slice A a.sp.length cap))
  have hB0 : Below w.heap.size w (w.alloc (a.blk (.slice A a.sp.length cap))) := al _
  generalize w.alloc (a.blk (.slice A a.sp.length cap)) = w0 at *
  have HX0 := Lib.hid hX0; have HB0 := Lib.hid hB0
  clear hX0 hB0
  go_upto_region 3 with (go_at_call 13
                         refine (awakeA _).mono ?_
                         rintro e w1 ⟨rfl, hb1⟩
                         have HX1 := Lib.hid (blk_below hb1 (lt_of_some HX0.out) HX0.out)
                         have HB1 := Lib.hid (HB0.out.trans (hb1.mono HB0.out.size))
                         clear hb1)
  refine wp_region_lit ?_
  refine wpList_load26 rfl (.tmp 4) rfl (w.heap.size) rfl HX1.out ?_
  simp only [Act.put, List.setIfInBounds_toArray, List.set_cons_zero, List.set_cons_succ]
  refine wpList_step (fun K hK => ?_)
  go_simp
  refine hK _ _ ?_
  clear hK K
  refine wpList_step (fun K hK => ?_)
  go_simp
  go_at_call 30
  refine (H1.out _ (HI.out.below HB1.out)).mono ?_
  rintro e w2 ⟨rfl, hb2⟩
  refine hK _ _ ?_
  clear hK K
  refine wpList_step (fun K hK => ?_)
  go_simp
  refine hK _ _ ?_
  clear hK K
  refine wpList_step (fun K hK => ?_)
  go_simp
  refine hK _ _ ?_
  clear hK K
  refine wpList_step (fun K hK => ?_)
  go_simp
  refine hK _ _ ?_
  clear hK K
  refine wpList_step (fun K hK => ?_)
  go_simp
  refine hK _ _ ?_
  clear hK K
  refine wpList_store50 rfl (.tmp 9) (.tmp 24) rfl w2.heap.size rfl (p := S) (p0 := zeroS) rfl (heap_alloc_new w2 _) ?_
  intro w3 hS ho
  simp only [Act.put, List.setIfInBounds_toArray, List.set_cons_zero, List.set_cons_succ]
  have hb : Below w2.heap.size w2 w3 := ho.below (al _) (fun k hk => by omega) (by simp)
  have hbx : Below w1.heap.size w1 w3 := hb2.trans (hb.mono hb2.size)
  have HX3 := Lib.hid (blk_below hbx (lt_of_some HX1.out) HX1.out)
  have HB3 := Lib.hid (HB1.out.trans (hbx.mono HB1.out.size))
  have HS3 := Lib.hid hS
  clear hb2 hb hbx hS ho
  go_upto_region 4 with fail
  refine wp_region_lit ?_
  refine wpList_load26 rfl (.tmp 4) rfl (w.heap.size) rfl HX3.out ?_
  simp only [Act.put, List.setIfInBounds_toArray, List.set_cons_zero, List.set_cons_succ]
  refine wpList_step (fun K hK => ?_)
  go_simp
  refine hK _ _ ?_
  clear hK K
  refine wpList_step (fun K hK => ?_)
  go_simp
  go_at_call 30
  refine (H2.out _ (HI.out.below HB3.out)).mono ?_
  rintro e w4 ⟨rfl, hb4⟩
  refine hK _ _ ?_
  clear hK K
  refine wpList_step (fun K hK => ?_)
  go_simp
  refine hK _ _ ?_
  clear hK K
  refine wpList_step (fun K hK => ?_)
  go_simp
  refine hK _ _ ?_
  clear hK K
  refine wpList_step (fun K hK => ?_)
  go_simp
  refine hK _ _ ?_
  clear hK K
  refine wpList_step (fun K hK => ?_)
  go_simp
  refine hK _ _ ?_
  clear hK K
  refine wpList_store50 rfl (.tmp 11) (.tmp 30) rfl w4.heap.size rfl (p := T) (p0 := zeroS) rfl (heap_alloc_new w4 _) ?_
  intro w5 hT ho
  simp only [Act.put, List.setIfInBounds_toArray, List.set_cons_zero, List.set_cons_succ]
  have hb : Below w4.heap.size w4 w5 := ho.below (al _) (fun k hk => by omega) (by simp)
  have hbx : Below w3.heap.size w3 w5 := hb4.trans (hb.mono hb4.size)
  have HX5 := Lib.hid (blk_below hbx (lt_of_some HX3.out) HX3.out)
  have HB5 := Lib.hid (HB3.out.trans (hbx.mono HB3.out.size))
  have HS5 := Lib.hid (blk_below hbx (lt_of_some HS3.out) HS3.out)
  have HT5 := Lib.hid hT
  clear hb4 hb hbx hT ho
  go_upto_region 5 with fail
  refine wp_region_lit ?_
  refine wpList_load26 rfl (.tmp 4) rfl (w.heap.size) rfl HX5.out ?_
  simp only [Act.put, List.setIfInBounds_toArray, List.set_cons_zero, List.set_cons_succ]
  refine wpList_step (fun K hK => ?_)
  go_simp
  refine hK _ _ ?_
  clear hK K
  refine wpList_step (fun K hK => ?_)
  go_simp
  go_at_call 30
  refine (H3.out _ (HI.out.below HB5.out)).mono ?_
  rintro e w6 ⟨rfl, hb6⟩
  refine hK _ _ ?_
  clear hK K
  refine wpList_step (fun K hK => ?_)
  go_simp
  refine hK _ _ ?_
  clear hK K
  refine wpList_step (fun K hK => ?_)
  go_simp
  refine hK _ _ ?_
  clear hK K
  refine wpList_step (fun K hK => ?_)
  go_simp
  refine hK _ _ ?_
  clear hK K
  refine wpList_step (fun K hK => ?_)
  go_simp
  refine hK _ _ ?_
  clear hK K
  refine wpList_store50 rfl (.tmp 13) (.tmp 36) rfl w6.heap.size rfl (p := U) (p0 := zeroS) rfl (heap_alloc_new w6 _) ?_
  intro w7 hU ho
  simp only [Act.put, List.setIfInBounds_toArray, List.set_cons_zero, List.set_cons_succ]
  have hb : Below w6.heap.size w6 w7 := ho.below (al _) (fun k hk => by omega) (by simp)
  have hbx : Below w5.heap.size w5 w7 := hb6.trans (hb.mono hb6.size)
  have HX7 := Lib.hid (blk_below hbx (lt_of_some HX5.out) HX5.out)
  have HB7 := Lib.hid (HB5.out.trans (hbx.mono HB5.out.size))
  have HS7 := Lib.hid (blk_below hbx (lt_of_some HS5.out) HS5.out)
  have HT7 := Lib.hid (blk_below hbx (lt_of_some HT5.out) HT5.out)
  have HU7 := Lib.hid hU
  clear hb6 hb hbx hU ho
  go_upto_region 6 with fail
  obtain ⟨s0, s1, s2, s3, s4, slt⟩ := span_blk HS7.out
  obtain ⟨t0, t1, t2, t3, t4, tlt⟩ := span_blk HT7.out
  obtain ⟨u0, u1, u2, u3, u4, ult⟩ := span_blk HU7.out
  obtain ⟨m0, m1, m2, m3, m4, m5, m6, m7, m8, m9, m10, mlt⟩ := map_cells HX7.out
  go_upto_region 10 with (go_at_call 29
                          refine (HC.out _ (HI.out.below HB7.out)).mono ?_
                          rintro e w8 ⟨rfl, hb8⟩
                          have HX8 := Lib.hid (blk_below hb8 (lt_of_some HX7.out) HX7.out)
                          have HB8 := Lib.hid (HB7.out.trans (hb8.mono HB7.out.size))
                          clear hb8)
  clear s0 s1 s2 s3 s4 slt t0 t1 t2 t3 t4 tlt u0 u1 u2 u3 u4 ult m0 m1 m2 m3 m4 m5 m6 m7 m8 m9 m10 mlt
  have hm := of_tr Hm.out
  have h16 : a.sp.length ≤ 16 := hm.2.2.2.1.1
  obtain ⟨b, off, rfl⟩ : ∃ b off, A = some ⟨b, off, none⟩ := by
    obtain ⟨b, off, hA, _⟩ := span_cells HI.out.row 0 hm.2.2.2.1.2.1
    exact ⟨b, off, hA⟩
  have Hmk := Lib.hid hm
  clear hm
  go_wp2_with fail
  go_loopw [15] (fun v wr => ∃ k : Nat, 1 ≤ k ∧ k ≤ a.sp.length ∧ v = .int .i64 k ∧ Below w8.heap.size w8 wr) (fun v _ => a.sp.length - (intOf v).toNat)
  case atStart => exact ⟨1, Nat.le_refl _, Hmk.out.2.2.2.1.2.1, rfl, Below.refl _ _⟩
  case round =>
    obtain ⟨k, hk0, hk, rfl, hbel⟩ := hrel
    have hXr := blk_below hbel (lt_of_some HX8.out) HX8.out
    have hBr := HB8.out.trans (hbel.mono HB8.out.size)
    obtain ⟨m0, m1, m2, m3, m4, m5, m6, m7, m8, m9, m10, mlt⟩ := map_cells hXr
    have hw1 : IntKind.i64.wrap ((k : Int) + 1) = (k : Int) + 1 := IntWalk.i64_in _ (by omega)
    by_cases hlt : k < a.sp.length
    · obtain ⟨_, _, he, blt, p0, p1, p2, p3, p4⟩ := span_cells (HI.out.below hBr).row k hlt
      injection he with he
      injection he with hx1 hx2
      subst hx1; subst hx2
      have hk1 : (0 : Int) ≤ (k : Int) := by omega
      have hk2 : (k : Int) < (a.sp.length : Int) := by omega
      have hf : FoundIs (some ⟨b, off, none⟩) cap a a.sp[k].fr a.sp[k] true := fun w h => find_some w _ cap a a.sp[k].fr k h Hm.out (Hfr.out _ (List.getElem_mem hlt)) (by
        have := (sp_next Hmk.out.2.2.2.1 (k - 1) (by omega)).2
        simpa only [show k - 1 + 1 = k by omega] using this) hlt (found_self Hmk.out.2.2.2.1 k hlt)
      have HF := Lib.hid hf; have HBr := Lib.hid hBr; have HXr := Lib.hid hXr; have Hbel := Lib.hid hbel
      go_wp2_with fail
      have hr0 : RoundCells w.heap.size b (off + k * 5) a (.slice (some ⟨b, off, none⟩) a.sp.length cap) a.sp[k].fr wr := ⟨m0, m1, m2, m3, m4, m5, m6, m7, m8, m9, m10, p0⟩
      have HR0 := Lib.hid (show wr.drew.cell? ⟨w.heap.size, 0, none⟩ = some (.int .i64 a.groups) ∧ wr.drew.cell? ⟨w.heap.size, 1, none⟩ = some (.int .i64 a.last) ∧ wr.drew.cell? ⟨w.heap.size, 2, none⟩ = some (.slice (some ⟨b, off, none⟩) a.sp.length cap) ∧ wr.drew.cell? ⟨w.heap.size, 3, none⟩ = some (.int .i64 a.plan.kind) ∧ wr.drew.cell? ⟨w.heap.size, 4, none⟩ = some (.int .i64 a.plan.phase) ∧ wr.drew.cell? ⟨w.heap.size, 5, none⟩ = some (.int .i64 a.plan.shard) ∧ wr.drew.cell? ⟨w.heap.size, 6, none⟩ = some (.int .i64 a.plan.other) ∧ wr.drew.cell? ⟨w.heap.size, 7, none⟩ = some (.int .i64 a.plan.group) ∧ wr.drew.cell? ⟨w.heap.size, 8, none⟩ = some (.int .i64 a.plan.past) ∧ wr.drew.cell? ⟨w.heap.size, 9, none⟩ = some (.int .i64 a.plan.epoch) ∧ wr.drew.cell? ⟨w.heap.size, 10, none⟩ = some (.string a.plan.key) ∧ wr.drew.cell? ⟨b, off + k * 5, none⟩ = some (.string a.sp[k].fr) from hr0)
      have hrz : RoundCells w.heap.size b (off + k * 5) a (.slice (some ⟨b, off, none⟩) a.sp.length cap) a.sp[k].fr (wr.alloc zeroS.blk) := hr0.below (al _) mlt blt
      have HRz := Lib.hid (show (wr.alloc (.cells #[.string ⟨#[]⟩, .string ⟨#[]⟩, .int .i64 0, .int .i64 0, .int .i64 0] 50)).drew.cell? ⟨w.heap.size, 0, none⟩ = some (.int .i64 a.groups) ∧ (wr.alloc (.cells #[.string ⟨#[]⟩, .string ⟨#[]⟩, .int .i64 0, .int .i64 0, .int .i64 0] 50)).drew.cell? ⟨w.heap.size, 1, none⟩ = some (.int .i64 a.last) ∧ (wr.alloc (.cells #[.string ⟨#[]⟩, .string ⟨#[]⟩, .int .i64 0, .int .i64 0, .int .i64 0] 50)).drew.cell? ⟨w.heap.size, 2, none⟩ = some (.slice (some ⟨b, off, none⟩) a.sp.length cap) ∧ (wr.alloc (.cells #[.string ⟨#[]⟩, .string ⟨#[]⟩, .int .i64 0, .int .i64 0, .int .i64 0] 50)).drew.cell? ⟨w.heap.size, 3, none⟩ = some (.int .i64 a.plan.kind) ∧ (wr.alloc (.cells #[.string ⟨#[]⟩, .string ⟨#[]⟩, .int .i64 0, .int .i64 0, .int .i64 0] 50)).drew.cell? ⟨w.heap.size, 4, none⟩ = some (.int .i64 a.plan.phase) ∧ (wr.alloc (.cells #[.string ⟨#[]⟩, .string ⟨#[]⟩, .int .i64 0, .int .i64 0, .int .i64 0] 50)).drew.cell? ⟨w.heap.size, 5, none⟩ = some (.int .i64 a.plan.shard) ∧ (wr.alloc (.cells #[.string ⟨#[]⟩, .string ⟨#[]⟩, .int .i64 0, .int .i64 0, .int .i64 0] 50)).drew.cell? ⟨w.heap.size, 6, none⟩ = some (.int .i64 a.plan.other) ∧ (wr.alloc (.cells #[.string ⟨#[]⟩, .string ⟨#[]⟩, .int .i64 0, .int .i64 0, .int .i64 0] 50)).drew.cell? ⟨w.heap.size, 7, none⟩ = some (.int .i64 a.plan.group) ∧ (wr.alloc (.cells #[.string ⟨#[]⟩, .string ⟨#[]⟩, .int .i64 0, .int .i64 0, .int .i64 0] 50)).drew.cell? ⟨w.heap.size, 8, none⟩ = some (.int .i64 a.plan.past) ∧ (wr.alloc (.cells #[.string ⟨#[]⟩, .string ⟨#[]⟩, .int .i64 0, .int .i64 0, .int .i64 0] 50)).drew.cell? ⟨w.heap.size, 9, none⟩ = some (.int .i64 a.plan.epoch) ∧ (wr.alloc (.cells #[.string ⟨#[]⟩, .string ⟨#[]⟩, .int .i64 0, .int .i64 0, .int .i64 0] 50)).drew.cell? ⟨w.heap.size, 10, none⟩ = some (.string a.plan.key) ∧ (wr.alloc (.cells #[.string ⟨#[]⟩, .string ⟨#[]⟩, .int .i64 0, .int .i64 0, .int .i64 0] 50)).drew.cell? ⟨b, off + k * 5, none⟩ = some (.string a.sp[k].fr) from hrz)
      have hbz : Below wr.heap.size wr (wr.alloc (.cells #[.string ⟨#[]⟩, .string ⟨#[]⟩, .int .i64 0, .int .i64 0, .int .i64 0] 50)).drew := (al (w := wr) zeroS.blk).drew
      have hzz : (wr.alloc (.cells #[.string ⟨#[]⟩, .string ⟨#[]⟩, .int .i64 0, .int .i64 0, .int .i64 0] 50)).drew.heap[wr.heap.size]? = some zeroS.blk := heap_alloc_new wr _
      have Hbz := Lib.hid hbz; have Hzz := Lib.hid hzz
      clear hf hBr hXr hbel hrz hbz hzz hr0
      go_region_held3 (fun w' => w'.cell? ⟨w.heap.size, 0, none⟩ = some (.int .i64 a.groups) ∧ w'.cell? ⟨w.heap.size, 1, none⟩ = some (.int .i64 a.last) ∧ w'.cell? ⟨w.heap.size, 2, none⟩ = some (.slice (some ⟨b, off, none⟩) a.sp.length cap) ∧ w'.cell? ⟨w.heap.size, 3, none⟩ = some (.int .i64 a.plan.kind) ∧ w'.cell? ⟨w.heap.size, 4, none⟩ = some (.int .i64 a.plan.phase) ∧ w'.cell? ⟨w.heap.size, 5, none⟩ = some (.int .i64 a.plan.shard) ∧ w'.cell? ⟨w.heap.size, 6, none⟩ = some (.int .i64 a.plan.other) ∧ w'.cell? ⟨w.heap.size, 7, none⟩ = some (.int .i64 a.plan.group) ∧ w'.cell? ⟨w.heap.size, 8, none⟩ = some (.int .i64 a.plan.past) ∧ w'.cell? ⟨w.heap.size, 9, none⟩ = some (.int .i64 a.plan.epoch) ∧ w'.cell? ⟨w.heap.size, 10, none⟩ = some (.string a.plan.key) ∧ w'.cell? ⟨b, off + k * 5, none⟩ = some (.string a.sp[k].fr))
        (first | with_reducible exact HR0.out | with_reducible exact HRz.out | with_reducible exact HR1.out | with_reducible exact HR2.out | with_reducible exact HR3.out)
        (first
          | (go_at_call 30
             refine (HF.out wr.drew ((HI.out.below HBr.out).below ((Below.refl _ wr).drew))).mono ?_
             rintro e wc ⟨rfl, hbc⟩
             have hbc' : Below wr.heap.size wr wc := ((Below.refl _ wr).drew).trans hbc
             have hr1 : RoundCells w.heap.size b (off + k * 5) a (.slice (some ⟨b, off, none⟩) a.sp.length cap) a.sp[k].fr wc := RoundCells.below (w := wr.drew) HR0.out hbc mlt blt
             have HR1 := Lib.hid (show wc.cell? ⟨w.heap.size, 0, none⟩ = some (.int .i64 a.groups) ∧ wc.cell? ⟨w.heap.size, 1, none⟩ = some (.int .i64 a.last) ∧ wc.cell? ⟨w.heap.size, 2, none⟩ = some (.slice (some ⟨b, off, none⟩) a.sp.length cap) ∧ wc.cell? ⟨w.heap.size, 3, none⟩ = some (.int .i64 a.plan.kind) ∧ wc.cell? ⟨w.heap.size, 4, none⟩ = some (.int .i64 a.plan.phase) ∧ wc.cell? ⟨w.heap.size, 5, none⟩ = some (.int .i64 a.plan.shard) ∧ wc.cell? ⟨w.heap.size, 6, none⟩ = some (.int .i64 a.plan.other) ∧ wc.cell? ⟨w.heap.size, 7, none⟩ = some (.int .i64 a.plan.group) ∧ wc.cell? ⟨w.heap.size, 8, none⟩ = some (.int .i64 a.plan.past) ∧ wc.cell? ⟨w.heap.size, 9, none⟩ = some (.int .i64 a.plan.epoch) ∧ wc.cell? ⟨w.heap.size, 10, none⟩ = some (.string a.plan.key) ∧ wc.cell? ⟨b, off + k * 5, none⟩ = some (.string a.sp[k].fr) from hr1)
             have hr2 : RoundCells w.heap.size b (off + k * 5) a (.slice (some ⟨b, off, none⟩) a.sp.length cap) a.sp[k].fr (wc.alloc (zeroS.blk)) := hr1.below (al _) (Nat.lt_of_lt_of_le mlt hbc'.size) (Nat.lt_of_lt_of_le blt hbc'.size)
             have HR2 := Lib.hid (show (wc.alloc (.cells #[.string ⟨#[]⟩, .string ⟨#[]⟩, .int .i64 0, .int .i64 0, .int .i64 0] 50)).cell? ⟨w.heap.size, 0, none⟩ = some (.int .i64 a.groups) ∧ (wc.alloc (.cells #[.string ⟨#[]⟩, .string ⟨#[]⟩, .int .i64 0, .int .i64 0, .int .i64 0] 50)).cell? ⟨w.heap.size, 1, none⟩ = some (.int .i64 a.last) ∧ (wc.alloc (.cells #[.string ⟨#[]⟩, .string ⟨#[]⟩, .int .i64 0, .int .i64 0, .int .i64 0] 50)).cell? ⟨w.heap.size, 2, none⟩ = some (.slice (some ⟨b, off, none⟩) a.sp.length cap) ∧ (wc.alloc (.cells #[.string ⟨#[]⟩, .string ⟨#[]⟩, .int .i64 0, .int .i64 0, .int .i64 0] 50)).cell? ⟨w.heap.size, 3, none⟩ = some (.int .i64 a.plan.kind) ∧ (wc.alloc (.cells #[.string ⟨#[]⟩, .string ⟨#[]⟩, .int .i64 0, .int .i64 0, .int .i64 0] 50)).cell? ⟨w.heap.size, 4, none⟩ = some (.int .i64 a.plan.phase) ∧ (wc.alloc (.cells #[.string ⟨#[]⟩, .string ⟨#[]⟩, .int .i64 0, .int .i64 0, .int .i64 0] 50)).cell? ⟨w.heap.size, 5, none⟩ = some (.int .i64 a.plan.shard) ∧ (wc.alloc (.cells #[.string ⟨#[]⟩, .string ⟨#[]⟩, .int .i64 0, .int .i64 0, .int .i64 0] 50)).cell? ⟨w.heap.size, 6, none⟩ = some (.int .i64 a.plan.other) ∧ (wc.alloc (.cells #[.string ⟨#[]⟩, .string ⟨#[]⟩, .int .i64 0, .int .i64 0, .int .i64 0] 50)).cell? ⟨w.heap.size, 7, none⟩ = some (.int .i64 a.plan.group) ∧ (wc.alloc (.cells #[.string ⟨#[]⟩, .string ⟨#[]⟩, .int .i64 0, .int .i64 0, .int .i64 0] 50)).cell? ⟨w.heap.size, 8, none⟩ = some (.int .i64 a.plan.past) ∧ (wc.alloc (.cells #[.string ⟨#[]⟩, .string ⟨#[]⟩, .int .i64 0, .int .i64 0, .int .i64 0] 50)).cell? ⟨w.heap.size, 9, none⟩ = some (.int .i64 a.plan.epoch) ∧ (wc.alloc (.cells #[.string ⟨#[]⟩, .string ⟨#[]⟩, .int .i64 0, .int .i64 0, .int .i64 0] 50)).cell? ⟨w.heap.size, 10, none⟩ = some (.string a.plan.key) ∧ (wc.alloc (.cells #[.string ⟨#[]⟩, .string ⟨#[]⟩, .int .i64 0, .int .i64 0, .int .i64 0] 50)).cell? ⟨b, off + k * 5, none⟩ = some (.string a.sp[k].fr) from hr2)
             have hr3 : RoundCells w.heap.size b (off + k * 5) a (.slice (some ⟨b, off, none⟩) a.sp.length cap) a.sp[k].fr (wc.alloc (a.sp[k].blk)) := hr1.below (al _) (Nat.lt_of_lt_of_le mlt hbc'.size) (Nat.lt_of_lt_of_le blt hbc'.size)
             have HR3 := Lib.hid (show (wc.alloc (.cells #[.string a.sp[k].fr, .string a.sp[k].to, .int .i64 a.sp[k].sh, .int .i64 a.sp[k].ep, .int .i64 a.sp[k].gr] 50)).cell? ⟨w.heap.size, 0, none⟩ = some (.int .i64 a.groups) ∧ (wc.alloc (.cells #[.string a.sp[k].fr, .string a.sp[k].to, .int .i64 a.sp[k].sh, .int .i64 a.sp[k].ep, .int .i64 a.sp[k].gr] 50)).cell? ⟨w.heap.size, 1, none⟩ = some (.int .i64 a.last) ∧ (wc.alloc (.cells #[.string a.sp[k].fr, .string a.sp[k].to, .int .i64 a.sp[k].sh, .int .i64 a.sp[k].ep, .int .i64 a.sp[k].gr] 50)).cell? ⟨w.heap.size, 2, none⟩ = some (.slice (some ⟨b, off, none⟩) a.sp.length cap) ∧ (wc.alloc (.cells #[.string a.sp[k].fr, .string a.sp[k].to, .int .i64 a.sp[k].sh, .int .i64 a.sp[k].ep, .int .i64 a.sp[k].gr] 50)).cell? ⟨w.heap.size, 3, none⟩ = some (.int .i64 a.plan.kind) ∧ (wc.alloc (.cells #[.string a.sp[k].fr, .string a.sp[k].to, .int .i64 a.sp[k].sh, .int .i64 a.sp[k].ep, .int .i64 a.sp[k].gr] 50)).cell? ⟨w.heap.size, 4, none⟩ = some (.int .i64 a.plan.phase) ∧ (wc.alloc (.cells #[.string a.sp[k].fr, .string a.sp[k].to, .int .i64 a.sp[k].sh, .int .i64 a.sp[k].ep, .int .i64 a.sp[k].gr] 50)).cell? ⟨w.heap.size, 5, none⟩ = some (.int .i64 a.plan.shard) ∧ (wc.alloc (.cells #[.string a.sp[k].fr, .string a.sp[k].to, .int .i64 a.sp[k].sh, .int .i64 a.sp[k].ep, .int .i64 a.sp[k].gr] 50)).cell? ⟨w.heap.size, 6, none⟩ = some (.int .i64 a.plan.other) ∧ (wc.alloc (.cells #[.string a.sp[k].fr, .string a.sp[k].to, .int .i64 a.sp[k].sh, .int .i64 a.sp[k].ep, .int .i64 a.sp[k].gr] 50)).cell? ⟨w.heap.size, 7, none⟩ = some (.int .i64 a.plan.group) ∧ (wc.alloc (.cells #[.string a.sp[k].fr, .string a.sp[k].to, .int .i64 a.sp[k].sh, .int .i64 a.sp[k].ep, .int .i64 a.sp[k].gr] 50)).cell? ⟨w.heap.size, 8, none⟩ = some (.int .i64 a.plan.past) ∧ (wc.alloc (.cells #[.string a.sp[k].fr, .string a.sp[k].to, .int .i64 a.sp[k].sh, .int .i64 a.sp[k].ep, .int .i64 a.sp[k].gr] 50)).cell? ⟨w.heap.size, 9, none⟩ = some (.int .i64 a.plan.epoch) ∧ (wc.alloc (.cells #[.string a.sp[k].fr, .string a.sp[k].to, .int .i64 a.sp[k].sh, .int .i64 a.sp[k].ep, .int .i64 a.sp[k].gr] 50)).cell? ⟨w.heap.size, 10, none⟩ = some (.string a.plan.key) ∧ (wc.alloc (.cells #[.string a.sp[k].fr, .string a.sp[k].to, .int .i64 a.sp[k].sh, .int .i64 a.sp[k].ep, .int .i64 a.sp[k].gr] 50)).cell? ⟨b, off + k * 5, none⟩ = some (.string a.sp[k].fr) from hr3)
             have hbw : Below wr.heap.size wr (wc.alloc (.cells #[.string a.sp[k].fr, .string a.sp[k].to, .int .i64 a.sp[k].sh, .int .i64 a.sp[k].ep, .int .i64 a.sp[k].gr] 50)) := hbc'.trans ((al (w := wc) a.sp[k].blk).mono hbc'.size)
             have hsw : (wc.alloc (.cells #[.string a.sp[k].fr, .string a.sp[k].to, .int .i64 a.sp[k].sh, .int .i64 a.sp[k].ep, .int .i64 a.sp[k].gr] 50)).heap[wc.heap.size]? = some a.sp[k].blk := heap_alloc_new wc _
             have Hbw := Lib.hid hbw; have Hsw := Lib.hid hsw
             clear hr1 hr2 hr3 hbc hbc' hbw hsw)
          | (go_at_call 30
             refine (HF.out (wr.alloc (.cells #[.string ⟨#[]⟩, .string ⟨#[]⟩, .int .i64 0, .int .i64 0, .int .i64 0] 50)).drew ((HI.out.below HBr.out).below Hbz.out)).mono ?_
             rintro e wc ⟨rfl, hbc⟩
             have hbc' : Below wr.heap.size wr wc := Hbz.out.trans (hbc.mono Hbz.out.size)
             have hr1 : RoundCells w.heap.size b (off + k * 5) a (.slice (some ⟨b, off, none⟩) a.sp.length cap) a.sp[k].fr wc := RoundCells.below (w := (wr.alloc (.cells #[.string ⟨#[]⟩, .string ⟨#[]⟩, .int .i64 0, .int .i64 0, .int .i64 0] 50)).drew) HRz.out hbc (Nat.lt_of_lt_of_le mlt Hbz.out.size) (Nat.lt_of_lt_of_le blt Hbz.out.size)
             have HR1 := Lib.hid (show wc.cell? ⟨w.heap.size, 0, none⟩ = some (.int .i64 a.groups) ∧ wc.cell? ⟨w.heap.size, 1, none⟩ = some (.int .i64 a.last) ∧ wc.cell? ⟨w.heap.size, 2, none⟩ = some (.slice (some ⟨b, off, none⟩) a.sp.length cap) ∧ wc.cell? ⟨w.heap.size, 3, none⟩ = some (.int .i64 a.plan.kind) ∧ wc.cell? ⟨w.heap.size, 4, none⟩ = some (.int .i64 a.plan.phase) ∧ wc.cell? ⟨w.heap.size, 5, none⟩ = some (.int .i64 a.plan.shard) ∧ wc.cell? ⟨w.heap.size, 6, none⟩ = some (.int .i64 a.plan.other) ∧ wc.cell? ⟨w.heap.size, 7, none⟩ = some (.int .i64 a.plan.group) ∧ wc.cell? ⟨w.heap.size, 8, none⟩ = some (.int .i64 a.plan.past) ∧ wc.cell? ⟨w.heap.size, 9, none⟩ = some (.int .i64 a.plan.epoch) ∧ wc.cell? ⟨w.heap.size, 10, none⟩ = some (.string a.plan.key) ∧ wc.cell? ⟨b, off + k * 5, none⟩ = some (.string a.sp[k].fr) from hr1)
             have hzc := blk_below hbc (lt_of_some Hzz.out) Hzz.out
             obtain ⟨z0, z1, z2, z3, z4, zlt⟩ := span_blk hzc
             have fz0 := fz_blk hzc 0; have fz1 := fz_blk hzc 1; have fz2 := fz_blk hzc 2; have fz3 := fz_blk hzc 3; have fz4 := fz_blk hzc 4
             simp only [zeroS] at z0 z1 z2 z3 z4
             have hon : Only (· = wr.heap.size) wc (((((wc.setCell ⟨wr.heap.size, 0, none⟩ (.string a.sp[k].fr)).setCell ⟨wr.heap.size, 1, none⟩ (.string a.sp[k].to)).setCell ⟨wr.heap.size, 2, none⟩ (.int .i64 a.sp[k].sh)).setCell ⟨wr.heap.size, 3, none⟩ (.int .i64 a.sp[k].ep)).setCell ⟨wr.heap.size, 4, none⟩ (.int .i64 a.sp[k].gr)) := (((((only_setCell wc ⟨wr.heap.size, 0, none⟩ (.string a.sp[k].fr)).trans (only_setCell (wc.setCell ⟨wr.heap.size, 0, none⟩ (.string a.sp[k].fr)) ⟨wr.heap.size, 1, none⟩ (.string a.sp[k].to)) (fun _ _ h => h)).trans (only_setCell ((wc.setCell ⟨wr.heap.size, 0, none⟩ (.string a.sp[k].fr)).setCell ⟨wr.heap.size, 1, none⟩ (.string a.sp[k].to)) ⟨wr.heap.size, 2, none⟩ (.int .i64 a.sp[k].sh)) (fun _ _ h => h)).trans (only_setCell (((wc.setCell ⟨wr.heap.size, 0, none⟩ (.string a.sp[k].fr)).setCell ⟨wr.heap.size, 1, none⟩ (.string a.sp[k].to)).setCell ⟨wr.heap.size, 2, none⟩ (.int .i64 a.sp[k].sh)) ⟨wr.heap.size, 3, none⟩ (.int .i64 a.sp[k].ep)) (fun _ _ h => h)).trans (only_setCell ((((wc.setCell ⟨wr.heap.size, 0, none⟩ (.string a.sp[k].fr)).setCell ⟨wr.heap.size, 1, none⟩ (.string a.sp[k].to)).setCell ⟨wr.heap.size, 2, none⟩ (.int .i64 a.sp[k].sh)).setCell ⟨wr.heap.size, 3, none⟩ (.int .i64 a.sp[k].ep)) ⟨wr.heap.size, 4, none⟩ (.int .i64 a.sp[k].gr)) (fun _ _ h => h))
             have hr2 : RoundCells w.heap.size b (off + k * 5) a (.slice (some ⟨b, off, none⟩) a.sp.length cap) a.sp[k].fr (((((wc.setCell ⟨wr.heap.size, 0, none⟩ (.string a.sp[k].fr)).setCell ⟨wr.heap.size, 1, none⟩ (.string a.sp[k].to)).setCell ⟨wr.heap.size, 2, none⟩ (.int .i64 a.sp[k].sh)).setCell ⟨wr.heap.size, 3, none⟩ (.int .i64 a.sp[k].ep)).setCell ⟨wr.heap.size, 4, none⟩ (.int .i64 a.sp[k].gr)) := hr1.below (hon.below (B := wr.heap.size) (Below.refl _ _) (fun q hq => by omega) hbc'.size) mlt blt
             have HR2 := Lib.hid (show (((((wc.setCell ⟨wr.heap.size, 0, none⟩ (.string a.sp[k].fr)).setCell ⟨wr.heap.size, 1, none⟩ (.string a.sp[k].to)).setCell ⟨wr.heap.size, 2, none⟩ (.int .i64 a.sp[k].sh)).setCell ⟨wr.heap.size, 3, none⟩ (.int .i64 a.sp[k].ep)).setCell ⟨wr.heap.size, 4, none⟩ (.int .i64 a.sp[k].gr)).cell? ⟨w.heap.size, 0, none⟩ = some (.int .i64 a.groups) ∧ (((((wc.setCell ⟨wr.heap.size, 0, none⟩ (.string a.sp[k].fr)).setCell ⟨wr.heap.size, 1, none⟩ (.string a.sp[k].to)).setCell ⟨wr.heap.size, 2, none⟩ (.int .i64 a.sp[k].sh)).setCell ⟨wr.heap.size, 3, none⟩ (.int .i64 a.sp[k].ep)).setCell ⟨wr.heap.size, 4, none⟩ (.int .i64 a.sp[k].gr)).cell? ⟨w.heap.size, 1, none⟩ = some (.int .i64 a.last) ∧ (((((wc.setCell ⟨wr.heap.size, 0, none⟩ (.string a.sp[k].fr)).setCell ⟨wr.heap.size, 1, none⟩ (.string a.sp[k].to)).setCell ⟨wr.heap.size, 2, none⟩ (.int .i64 a.sp[k].sh)).setCell ⟨wr.heap.size, 3, none⟩ (.int .i64 a.sp[k].ep)).setCell ⟨wr.heap.size, 4, none⟩ (.int .i64 a.sp[k].gr)).cell? ⟨w.heap.size, 2, none⟩ = some (.slice (some ⟨b, off, none⟩) a.sp.length cap) ∧ (((((wc.setCell ⟨wr.heap.size, 0, none⟩ (.string a.sp[k].fr)).setCell ⟨wr.heap.size, 1, none⟩ (.string a.sp[k].to)).setCell ⟨wr.heap.size, 2, none⟩ (.int .i64 a.sp[k].sh)).setCell ⟨wr.heap.size, 3, none⟩ (.int .i64 a.sp[k].ep)).setCell ⟨wr.heap.size, 4, none⟩ (.int .i64 a.sp[k].gr)).cell? ⟨w.heap.size, 3, none⟩ = some (.int .i64 a.plan.kind) ∧ (((((wc.setCell ⟨wr.heap.size, 0, none⟩ (.string a.sp[k].fr)).setCell ⟨wr.heap.size, 1, none⟩ (.string a.sp[k].to)).setCell ⟨wr.heap.size, 2, none⟩ (.int .i64 a.sp[k].sh)).setCell ⟨wr.heap.size, 3, none⟩ (.int .i64 a.sp[k].ep)).setCell ⟨wr.heap.size, 4, none⟩ (.int .i64 a.sp[k].gr)).cell? ⟨w.heap.size, 4, none⟩ = some (.int .i64 a.plan.phase) ∧ (((((wc.setCell ⟨wr.heap.size, 0, none⟩ (.string a.sp[k].fr)).setCell ⟨wr.heap.size, 1, none⟩ (.string a.sp[k].to)).setCell ⟨wr.heap.size, 2, none⟩ (.int .i64 a.sp[k].sh)).setCell ⟨wr.heap.size, 3, none⟩ (.int .i64 a.sp[k].ep)).setCell ⟨wr.heap.size, 4, none⟩ (.int .i64 a.sp[k].gr)).cell? ⟨w.heap.size, 5, none⟩ = some (.int .i64 a.plan.shard) ∧ (((((wc.setCell ⟨wr.heap.size, 0, none⟩ (.string a.sp[k].fr)).setCell ⟨wr.heap.size, 1, none⟩ (.string a.sp[k].to)).setCell ⟨wr.heap.size, 2, none⟩ (.int .i64 a.sp[k].sh)).setCell ⟨wr.heap.size, 3, none⟩ (.int .i64 a.sp[k].ep)).setCell ⟨wr.heap.size, 4, none⟩ (.int .i64 a.sp[k].gr)).cell? ⟨w.heap.size, 6, none⟩ = some (.int .i64 a.plan.other) ∧ (((((wc.setCell ⟨wr.heap.size, 0, none⟩ (.string a.sp[k].fr)).setCell ⟨wr.heap.size, 1, none⟩ (.string a.sp[k].to)).setCell ⟨wr.heap.size, 2, none⟩ (.int .i64 a.sp[k].sh)).setCell ⟨wr.heap.size, 3, none⟩ (.int .i64 a.sp[k].ep)).setCell ⟨wr.heap.size, 4, none⟩ (.int .i64 a.sp[k].gr)).cell? ⟨w.heap.size, 7, none⟩ = some (.int .i64 a.plan.group) ∧ (((((wc.setCell ⟨wr.heap.size, 0, none⟩ (.string a.sp[k].fr)).setCell ⟨wr.heap.size, 1, none⟩ (.string a.sp[k].to)).setCell ⟨wr.heap.size, 2, none⟩ (.int .i64 a.sp[k].sh)).setCell ⟨wr.heap.size, 3, none⟩ (.int .i64 a.sp[k].ep)).setCell ⟨wr.heap.size, 4, none⟩ (.int .i64 a.sp[k].gr)).cell? ⟨w.heap.size, 8, none⟩ = some (.int .i64 a.plan.past) ∧ (((((wc.setCell ⟨wr.heap.size, 0, none⟩ (.string a.sp[k].fr)).setCell ⟨wr.heap.size, 1, none⟩ (.string a.sp[k].to)).setCell ⟨wr.heap.size, 2, none⟩ (.int .i64 a.sp[k].sh)).setCell ⟨wr.heap.size, 3, none⟩ (.int .i64 a.sp[k].ep)).setCell ⟨wr.heap.size, 4, none⟩ (.int .i64 a.sp[k].gr)).cell? ⟨w.heap.size, 9, none⟩ = some (.int .i64 a.plan.epoch) ∧ (((((wc.setCell ⟨wr.heap.size, 0, none⟩ (.string a.sp[k].fr)).setCell ⟨wr.heap.size, 1, none⟩ (.string a.sp[k].to)).setCell ⟨wr.heap.size, 2, none⟩ (.int .i64 a.sp[k].sh)).setCell ⟨wr.heap.size, 3, none⟩ (.int .i64 a.sp[k].ep)).setCell ⟨wr.heap.size, 4, none⟩ (.int .i64 a.sp[k].gr)).cell? ⟨w.heap.size, 10, none⟩ = some (.string a.plan.key) ∧ (((((wc.setCell ⟨wr.heap.size, 0, none⟩ (.string a.sp[k].fr)).setCell ⟨wr.heap.size, 1, none⟩ (.string a.sp[k].to)).setCell ⟨wr.heap.size, 2, none⟩ (.int .i64 a.sp[k].sh)).setCell ⟨wr.heap.size, 3, none⟩ (.int .i64 a.sp[k].ep)).setCell ⟨wr.heap.size, 4, none⟩ (.int .i64 a.sp[k].gr)).cell? ⟨b, off + k * 5, none⟩ = some (.string a.sp[k].fr) from hr2)
             have HR3 := HR2
             have hbw : Below wr.heap.size wr (((((wc.setCell ⟨wr.heap.size, 0, none⟩ (.string a.sp[k].fr)).setCell ⟨wr.heap.size, 1, none⟩ (.string a.sp[k].to)).setCell ⟨wr.heap.size, 2, none⟩ (.int .i64 a.sp[k].sh)).setCell ⟨wr.heap.size, 3, none⟩ (.int .i64 a.sp[k].ep)).setCell ⟨wr.heap.size, 4, none⟩ (.int .i64 a.sp[k].gr)) := hon.below hbc' (fun q hq => by omega) hbc'.size
             have hsw : (((((wc.setCell ⟨wr.heap.size, 0, none⟩ (.string a.sp[k].fr)).setCell ⟨wr.heap.size, 1, none⟩ (.string a.sp[k].to)).setCell ⟨wr.heap.size, 2, none⟩ (.int .i64 a.sp[k].sh)).setCell ⟨wr.heap.size, 3, none⟩ (.int .i64 a.sp[k].ep)).setCell ⟨wr.heap.size, 4, none⟩ (.int .i64 a.sp[k].gr)).heap[wr.heap.size]? = some a.sp[k].blk := by
               have := (heap_setCell_at (i := 4) (heap_setCell_at (i := 3) (heap_setCell_at (i := 2) (heap_setCell_at (i := 1) (heap_setCell_at (i := 0) hzc (.string a.sp[k].fr)) (.string a.sp[k].to)) (.int .i64 a.sp[k].sh)) (.int .i64 a.sp[k].ep)) (.int .i64 a.sp[k].gr))
               refine (show _ = _ from this).trans ?_
               simp only [Span.blk, zeroS, List.setIfInBounds_toArray, List.set_cons_zero, List.set_cons_succ]
             have Hbw := Lib.hid hbw; have Hsw := Lib.hid hsw
             clear hr1 hr2 hbc hbc' hbw hsw hzc hon))
      all_goals
        clear m0 m1 m2 m3 m4 m5 m6 m7 m8 m9 m10 mlt p0 p1 p2 p3 p4
        obtain ⟨s0, s1, s2, s3, s4, slt⟩ := span_blk Hsw.out
        obtain ⟨m0, m1, m2, m3, m4, m5, m6, m7, m8, m9, m10, mlt⟩ := map_cells (blk_below Hbw.out (lt_of_some HXr.out) HXr.out)
        obtain ⟨_, _, he, blt2, p0, p1, p2, p3, p4⟩ := span_cells ((HI.out.below HBr.out).below Hbw.out).row k hlt
        injection he with he
        injection he with hx1 hx2
        subst hx1; subst hx2
        go_wp2_with fail
        go_quiet (fail)
        go_wp2_with fail
        go_roundw
        case rel => exact ⟨k + 1, by omega, by omega, by go_num, below_drewN Hbel.out Hbw.out _⟩
        case measure => simp [intOf]; omega
    · go_wp2
      go_ret
      exact ⟨rfl, hBr⟩
set_option maxRecDepth 100000 in
set_option maxHeartbeats 8000000 in
theorem finds_xy (w : World) (A : Option Addr) (cap : Nat) (a : Atl) (x y z : ByteArray) (h : MapIn w A cap a) (hfr : ∀ s ∈ a.sp, s.fr.size ≤ 9223372036854775807) (S T U : Span) (o1 o2 o3 : Bool) (h1 : FoundIs A cap a x S o1) (h2 : FoundIs A cap a z T o2) (h3 : FoundIs A cap a y U o3) (hm : tr (MapOk a) = true) (q1 : o1 = true) (q2 : o2 = true) (q3 : o3 = true) (la : Op.bytesLess x.toList y.toList = false) (lb : (x.toList == y.toList) = false) (lc : ¬ x.toList = y.toList) :
    Calls Try.prog 11 #[a.val (.slice A a.sp.length cap), .string x, .string y, .string z] w fun e w' => e = .returned (.bool true) ∧ Below w.heap.size w w' := by
  subst q1
  subst q2
  subst q3
  have Hla := Lib.hid la
  have Hlb := Lib.hid lb
  have Hlc := Lib.hid lc
  clear la lb lc
  have hC1 := fun w h => check_any w A cap a h
  rw [hm] at hC1
  have H1 := Lib.hid h1; have H2 := Lib.hid h2; have H3 := Lib.hid h3; have HC := Lib.hid hC1; have HI := Lib.hid h; have Hfr := Lib.hid hfr; have Hm := Lib.hid hm
  clear h1 h2 h3 hC1 h hfr hm
  go_enter Try.func11, Try.ntmps11
  go_upto_region 1 with fail
  change Code.wp _ _ _ _ (w.alloc (a.blk (.slice A a.sp.length cap)))
  have hX0 := heap_alloc_new w (a.blk (.slice A a.sp.length cap))
  have hB0 : Below w.heap.size w (w.alloc (a.blk (.slice A a.sp.length cap))) := al _
  generalize w.alloc (a.blk (.slice A a.sp.length cap)) = w0 at *
  have HX0 := Lib.hid hX0; have HB0 := Lib.hid hB0
  clear hX0 hB0
  go_upto_region 3 with (go_at_call 13
                         refine (awakeA _).mono ?_
                         rintro e w1 ⟨rfl, hb1⟩
                         have HX1 := Lib.hid (blk_below hb1 (lt_of_some HX0.out) HX0.out)
                         have HB1 := Lib.hid (HB0.out.trans (hb1.mono HB0.out.size))
                         clear hb1)
  refine wp_region_lit ?_
  refine wpList_load26 rfl (.tmp 4) rfl (w.heap.size) rfl HX1.out ?_
  simp only [Act.put, List.setIfInBounds_toArray, List.set_cons_zero, List.set_cons_succ]
  refine wpList_step (fun K hK => ?_)
  go_simp
  refine hK _ _ ?_
  clear hK K
  refine wpList_step (fun K hK => ?_)
  go_simp
  go_at_call 30
  refine (H1.out _ (HI.out.below HB1.out)).mono ?_
  rintro e w2 ⟨rfl, hb2⟩
  refine hK _ _ ?_
  clear hK K
  refine wpList_step (fun K hK => ?_)
  go_simp
  refine hK _ _ ?_
  clear hK K
  refine wpList_step (fun K hK => ?_)
  go_simp
  refine hK _ _ ?_
  clear hK K
  refine wpList_step (fun K hK => ?_)
  go_simp
  refine hK _ _ ?_
  clear hK K
  refine wpList_step (fun K hK => ?_)
  go_simp
  refine hK _ _ ?_
  clear hK K
  refine wpList_store50 rfl (.tmp 9) (.tmp 24) rfl w2.heap.size rfl (p := S) (p0 := zeroS) rfl (heap_alloc_new w2 _) ?_
  intro w3 hS ho
  simp only [Act.put, List.setIfInBounds_toArray, List.set_cons_zero, List.set_cons_succ]
  have hb : Below w2.heap.size w2 w3 := ho.below (al _) (fun k hk => by omega) (by simp)
  have hbx : Below w1.heap.size w1 w3 := hb2.trans (hb.mono hb2.size)
  have HX3 := Lib.hid (blk_below hbx (lt_of_some HX1.out) HX1.out)
  have HB3 := Lib.hid (HB1.out.trans (hbx.mono HB1.out.size))
  have HS3 := Lib.hid hS
  clear hb2 hb hbx hS ho
  go_upto_region 4 with fail
  refine wp_region_lit ?_
  refine wpList_load26 rfl (.tmp 4) rfl (w.heap.size) rfl HX3.out ?_
  simp only [Act.put, List.setIfInBounds_toArray, List.set_cons_zero, List.set_cons_succ]
  refine wpList_step (fun K hK => ?_)
  go_simp
  refine hK _ _ ?_
  clear hK K
  refine wpList_step (fun K hK => ?_)
  go_simp
  go_at_call 30
  refine (H2.out _ (HI.out.below HB3.out)).mono ?_
  rintro e w4 ⟨rfl, hb4⟩
  refine hK _ _ ?_
  clear hK K
  refine wpList_step (fun K hK => ?_)
  go_simp
  refine hK _ _ ?_
  clear hK K
  refine wpList_step (fun K hK => ?_)
  go_simp
  refine hK _ _ ?_
  clear hK K
  refine wpList_step (fun K hK => ?_)
  go_simp
  refine hK _ _ ?_
  clear hK K
  refine wpList_step (fun K hK => ?_)
  go_simp
  refine hK _ _ ?_
  clear hK K
  refine wpList_store50 rfl (.tmp 11) (.tmp 30) rfl w4.heap.size rfl (p := T) (p0 := zeroS) rfl (heap_alloc_new w4 _) ?_
  intro w5 hT ho
  simp only [Act.put, List.setIfInBounds_toArray, List.set_cons_zero, List.set_cons_succ]
  have hb : Below w4.heap.size w4 w5 := ho.below (al _) (fun k hk => by omega) (by simp)
  have hbx : Below w3.heap.size w3 w5 := hb4.trans (hb.mono hb4.size)
  have HX5 := Lib.hid (blk_below hbx (lt_of_some HX3.out) HX3.out)
  have HB5 := Lib.hid (HB3.out.trans (hbx.mono HB3.out.size))
  have HS5 := Lib.hid (blk_below hbx (lt_of_some HS3.out) HS3.out)
  have HT5 := Lib.hid hT
  clear hb4 hb hbx hT ho
  go_upto_region 5 with fail
  refine wp_region_lit ?_
  refine wpList_load26 rfl (.tmp 4) rfl (w.heap.size) rfl HX5.out ?_
  simp only [Act.put, List.setIfInBounds_toArray, List.set_cons_zero, List.set_cons_succ]
  refine wpList_step (fun K hK => ?_)
  go_simp
  refine hK _ _ ?_
  clear hK K
  refine wpList_step (fun K hK => ?_)
  go_simp
  go_at_call 30
  refine (H3.out _ (HI.out.below HB5.out)).mono ?_
  rintro e w6 ⟨rfl, hb6⟩
  refine hK _ _ ?_
  clear hK K
  refine wpList_step (fun K hK => ?_)
  go_simp
  refine hK _ _ ?_
  clear hK K
  refine wpList_step (fun K hK => ?_)
  go_simp
  refine hK _ _ ?_
  clear hK K
  refine wpList_step (fun K hK => ?_)
  go_simp
  refine hK _ _ ?_
  clear hK K
  refine wpList_step (fun K hK => ?_)
  go_simp
  refine hK _ _ ?_
  clear hK K
  refine wpList_store50 rfl (.tmp 13) (.tmp 36) rfl w6.heap.size rfl (p := U) (p0 := zeroS) rfl (heap_alloc_new w6 _) ?_
  intro w7 hU ho
  simp only [Act.put, List.setIfInBounds_toArray, List.set_cons_zero, List.set_cons_succ]
  have hb : Below w6.heap.size w6 w7 := ho.below (al _) (fun k hk => by omega) (by simp)
  have hbx : Below w5.heap.size w5 w7 := hb6.trans (hb.mono hb6.size)
  have HX7 := Lib.hid (blk_below hbx (lt_of_some HX5.out) HX5.out)
  have HB7 := Lib.hid (HB5.out.trans (hbx.mono HB5.out.size))
  have HS7 := Lib.hid (blk_below hbx (lt_of_some HS5.out) HS5.out)
  have HT7 := Lib.hid (blk_below hbx (lt_of_some HT5.out) HT5.out)
  have HU7 := Lib.hid hU
  clear hb6 hb hbx hU ho
  go_upto_region 6 with fail
  obtain ⟨s0, s1, s2, s3, s4, slt⟩ := span_blk HS7.out
  obtain ⟨t0, t1, t2, t3, t4, tlt⟩ := span_blk HT7.out
  obtain ⟨u0, u1, u2, u3, u4, ult⟩ := span_blk HU7.out
  obtain ⟨m0, m1, m2, m3, m4, m5, m6, m7, m8, m9, m10, mlt⟩ := map_cells HX7.out
  have la := Hla.out
  have lb := Hlb.out
  have lc := Hlc.out
  go_upto_region 10 with (go_at_call 29
                          refine (HC.out _ (HI.out.below HB7.out)).mono ?_
                          rintro e w8 ⟨rfl, hb8⟩
                          have HX8 := Lib.hid (blk_below hb8 (lt_of_some HX7.out) HX7.out)
                          have HB8 := Lib.hid (HB7.out.trans (hb8.mono HB7.out.size))
                          clear hb8)
  clear s0 s1 s2 s3 s4 slt t0 t1 t2 t3 t4 tlt u0 u1 u2 u3 u4 ult m0 m1 m2 m3 m4 m5 m6 m7 m8 m9 m10 mlt
  have hm := of_tr Hm.out
  have h16 : a.sp.length ≤ 16 := hm.2.2.2.1.1
  obtain ⟨b, off, rfl⟩ : ∃ b off, A = some ⟨b, off, none⟩ := by
    obtain ⟨b, off, hA, _⟩ := span_cells HI.out.row 0 hm.2.2.2.1.2.1
    exact ⟨b, off, hA⟩
  have Hmk := Lib.hid hm
  clear hm
  go_wp2_with fail
  go_loopw [15] (fun v wr => ∃ k : Nat, 1 ≤ k ∧ k ≤ a.sp.length ∧ v = .int .i64 k ∧ Below w8.heap.size w8 wr) (fun v _ => a.sp.length - (intOf v).toNat)
  case atStart => exact ⟨1, Nat.le_refl _, Hmk.out.2.2.2.1.2.1, rfl, Below.refl _ _⟩
  case round =>
    obtain ⟨k, hk0, hk, rfl, hbel⟩ := hrel
    have hXr := blk_below hbel (lt_of_some HX8.out) HX8.out
    have hBr := HB8.out.trans (hbel.mono HB8.out.size)
    obtain ⟨m0, m1, m2, m3, m4, m5, m6, m7, m8, m9, m10, mlt⟩ := map_cells hXr
    have hw1 : IntKind.i64.wrap ((k : Int) + 1) = (k : Int) + 1 := IntWalk.i64_in _ (by omega)
    by_cases hlt : k < a.sp.length
    · obtain ⟨_, _, he, blt, p0, p1, p2, p3, p4⟩ := span_cells (HI.out.below hBr).row k hlt
      injection he with he
      injection he with hx1 hx2
      subst hx1; subst hx2
      have hk1 : (0 : Int) ≤ (k : Int) := by omega
      have hk2 : (k : Int) < (a.sp.length : Int) := by omega
      have hf : FoundIs (some ⟨b, off, none⟩) cap a a.sp[k].fr a.sp[k] true := fun w h => find_some w _ cap a a.sp[k].fr k h Hm.out (Hfr.out _ (List.getElem_mem hlt)) (by
        have := (sp_next Hmk.out.2.2.2.1 (k - 1) (by omega)).2
        simpa only [show k - 1 + 1 = k by omega] using this) hlt (found_self Hmk.out.2.2.2.1 k hlt)
      have HF := Lib.hid hf; have HBr := Lib.hid hBr; have HXr := Lib.hid hXr; have Hbel := Lib.hid hbel
      go_wp2_with fail
      have hr0 : RoundCells w.heap.size b (off + k * 5) a (.slice (some ⟨b, off, none⟩) a.sp.length cap) a.sp[k].fr wr := ⟨m0, m1, m2, m3, m4, m5, m6, m7, m8, m9, m10, p0⟩
      have HR0 := Lib.hid (show wr.drew.cell? ⟨w.heap.size, 0, none⟩ = some (.int .i64 a.groups) ∧ wr.drew.cell? ⟨w.heap.size, 1, none⟩ = some (.int .i64 a.last) ∧ wr.drew.cell? ⟨w.heap.size, 2, none⟩ = some (.slice (some ⟨b, off, none⟩) a.sp.length cap) ∧ wr.drew.cell? ⟨w.heap.size, 3, none⟩ = some (.int .i64 a.plan.kind) ∧ wr.drew.cell? ⟨w.heap.size, 4, none⟩ = some (.int .i64 a.plan.phase) ∧ wr.drew.cell? ⟨w.heap.size, 5, none⟩ = some (.int .i64 a.plan.shard) ∧ wr.drew.cell? ⟨w.heap.size, 6, none⟩ = some (.int .i64 a.plan.other) ∧ wr.drew.cell? ⟨w.heap.size, 7, none⟩ = some (.int .i64 a.plan.group) ∧ wr.drew.cell? ⟨w.heap.size, 8, none⟩ = some (.int .i64 a.plan.past) ∧ wr.drew.cell? ⟨w.heap.size, 9, none⟩ = some (.int .i64 a.plan.epoch) ∧ wr.drew.cell? ⟨w.heap.size, 10, none⟩ = some (.string a.plan.key) ∧ wr.drew.cell? ⟨b, off + k * 5, none⟩ = some (.string a.sp[k].fr) from hr0)
      have hrz : RoundCells w.heap.size b (off + k * 5) a (.slice (some ⟨b, off, none⟩) a.sp.length cap) a.sp[k].fr (wr.alloc zeroS.blk) := hr0.below (al _) mlt blt
      have HRz := Lib.hid (show (wr.alloc (.cells #[.string ⟨#[]⟩, .string ⟨#[]⟩, .int .i64 0, .int .i64 0, .int .i64 0] 50)).drew.cell? ⟨w.heap.size, 0, none⟩ = some (.int .i64 a.groups) ∧ (wr.alloc (.cells #[.string ⟨#[]⟩, .string ⟨#[]⟩, .int .i64 0, .int .i64 0, .int .i64 0] 50)).drew.cell? ⟨w.heap.size, 1, none⟩ = some (.int .i64 a.last) ∧ (wr.alloc (.cells #[.string ⟨#[]⟩, .string ⟨#[]⟩, .int .i64 0, .int .i64 0, .int .i64 0] 50)).drew.cell? ⟨w.heap.size, 2, none⟩ = some (.slice (some ⟨b, off, none⟩) a.sp.length cap) ∧ (wr.alloc (.cells #[.string ⟨#[]⟩, .string ⟨#[]⟩, .int .i64 0, .int .i64 0, .int .i64 0] 50)).drew.cell? ⟨w.heap.size, 3, none⟩ = some (.int .i64 a.plan.kind) ∧ (wr.alloc (.cells #[.string ⟨#[]⟩, .string ⟨#[]⟩, .int .i64 0, .int .i64 0, .int .i64 0] 50)).drew.cell? ⟨w.heap.size, 4, none⟩ = some (.int .i64 a.plan.phase) ∧ (wr.alloc (.cells #[.string ⟨#[]⟩, .string ⟨#[]⟩, .int .i64 0, .int .i64 0, .int .i64 0] 50)).drew.cell? ⟨w.heap.size, 5, none⟩ = some (.int .i64 a.plan.shard) ∧ (wr.alloc (.cells #[.string ⟨#[]⟩, .string ⟨#[]⟩, .int .i64 0, .int .i64 0, .int .i64 0] 50)).drew.cell? ⟨w.heap.size, 6, none⟩ = some (.int .i64 a.plan.other) ∧ (wr.alloc (.cells #[.string ⟨#[]⟩, .string ⟨#[]⟩, .int .i64 0, .int .i64 0, .int .i64 0] 50)).drew.cell? ⟨w.heap.size, 7, none⟩ = some (.int .i64 a.plan.group) ∧ (wr.alloc (.cells #[.string ⟨#[]⟩, .string ⟨#[]⟩, .int .i64 0, .int .i64 0, .int .i64 0] 50)).drew.cell? ⟨w.heap.size, 8, none⟩ = some (.int .i64 a.plan.past) ∧ (wr.alloc (.cells #[.string ⟨#[]⟩, .string ⟨#[]⟩, .int .i64 0, .int .i64 0, .int .i64 0] 50)).drew.cell? ⟨w.heap.size, 9, none⟩ = some (.int .i64 a.plan.epoch) ∧ (wr.alloc (.cells #[.string ⟨#[]⟩, .string ⟨#[]⟩, .int .i64 0, .int .i64 0, .int .i64 0] 50)).drew.cell? ⟨w.heap.size, 10, none⟩ = some (.string a.plan.key) ∧ (wr.alloc (.cells #[.string ⟨#[]⟩, .string ⟨#[]⟩, .int .i64 0, .int .i64 0, .int .i64 0] 50)).drew.cell? ⟨b, off + k * 5, none⟩ = some (.string a.sp[k].fr) from hrz)
      have hbz : Below wr.heap.size wr (wr.alloc (.cells #[.string ⟨#[]⟩, .string ⟨#[]⟩, .int .i64 0, .int .i64 0, .int .i64 0] 50)).drew := (al (w := wr) zeroS.blk).drew
      have hzz : (wr.alloc (.cells #[.string ⟨#[]⟩, .string ⟨#[]⟩, .int .i64 0, .int .i64 0, .int .i64 0] 50)).drew.heap[wr.heap.size]? = some zeroS.blk := heap_alloc_new wr _
      have Hbz := Lib.hid hbz; have Hzz := Lib.hid hzz
      clear hf hBr hXr hbel hrz hbz hzz hr0
      go_region_held3 (fun w' => w'.cell? ⟨w.heap.size, 0, none⟩ = some (.int .i64 a.groups) ∧ w'.cell? ⟨w.heap.size, 1, none⟩ = some (.int .i64 a.last) ∧ w'.cell? ⟨w.heap.size, 2, none⟩ = some (.slice (some ⟨b, off, none⟩) a.sp.length cap) ∧ w'.cell? ⟨w.heap.size, 3, none⟩ = some (.int .i64 a.plan.kind) ∧ w'.cell? ⟨w.heap.size, 4, none⟩ = some (.int .i64 a.plan.phase) ∧ w'.cell? ⟨w.heap.size, 5, none⟩ = some (.int .i64 a.plan.shard) ∧ w'.cell? ⟨w.heap.size, 6, none⟩ = some (.int .i64 a.plan.other) ∧ w'.cell? ⟨w.heap.size, 7, none⟩ = some (.int .i64 a.plan.group) ∧ w'.cell? ⟨w.heap.size, 8, none⟩ = some (.int .i64 a.plan.past) ∧ w'.cell? ⟨w.heap.size, 9, none⟩ = some (.int .i64 a.plan.epoch) ∧ w'.cell? ⟨w.heap.size, 10, none⟩ = some (.string a.plan.key) ∧ w'.cell? ⟨b, off + k * 5, none⟩ = some (.string a.sp[k].fr))
        (first | with_reducible exact HR0.out | with_reducible exact HRz.out | with_reducible exact HR1.out | with_reducible exact HR2.out | with_reducible exact HR3.out)
        (first
          | (go_at_call 30
             refine (HF.out wr.drew ((HI.out.below HBr.out).below ((Below.refl _ wr).drew))).mono ?_
             rintro e wc ⟨rfl, hbc⟩
             have hbc' : Below wr.heap.size wr wc := ((Below.refl _ wr).drew).trans hbc
             have hr1 : RoundCells w.heap.size b (off + k * 5) a (.slice (some ⟨b, off, none⟩) a.sp.length cap) a.sp[k].fr wc := RoundCells.below (w := wr.drew) HR0.out hbc mlt blt
             have HR1 := Lib.hid (show wc.cell? ⟨w.heap.size, 0, none⟩ = some (.int .i64 a.groups) ∧ wc.cell? ⟨w.heap.size, 1, none⟩ = some (.int .i64 a.last) ∧ wc.cell? ⟨w.heap.size, 2, none⟩ = some (.slice (some ⟨b, off, none⟩) a.sp.length cap) ∧ wc.cell? ⟨w.heap.size, 3, none⟩ = some (.int .i64 a.plan.kind) ∧ wc.cell? ⟨w.heap.size, 4, none⟩ = some (.int .i64 a.plan.phase) ∧ wc.cell? ⟨w.heap.size, 5, none⟩ = some (.int .i64 a.plan.shard) ∧ wc.cell? ⟨w.heap.size, 6, none⟩ = some (.int .i64 a.plan.other) ∧ wc.cell? ⟨w.heap.size, 7, none⟩ = some (.int .i64 a.plan.group) ∧ wc.cell? ⟨w.heap.size, 8, none⟩ = some (.int .i64 a.plan.past) ∧ wc.cell? ⟨w.heap.size, 9, none⟩ = some (.int .i64 a.plan.epoch) ∧ wc.cell? ⟨w.heap.size, 10, none⟩ = some (.string a.plan.key) ∧ wc.cell? ⟨b, off + k * 5, none⟩ = some (.string a.sp[k].fr) from hr1)
             have hr2 : RoundCells w.heap.size b (off + k * 5) a (.slice (some ⟨b, off, none⟩) a.sp.length cap) a.sp[k].fr (wc.alloc (zeroS.blk)) := hr1.below (al _) (Nat.lt_of_lt_of_le mlt hbc'.size) (Nat.lt_of_lt_of_le blt hbc'.size)
             have HR2 := Lib.hid (show (wc.alloc (.cells #[.string ⟨#[]⟩, .string ⟨#[]⟩, .int .i64 0, .int .i64 0, .int .i64 0] 50)).cell? ⟨w.heap.size, 0, none⟩ = some (.int .i64 a.groups) ∧ (wc.alloc (.cells #[.string ⟨#[]⟩, .string ⟨#[]⟩, .int .i64 0, .int .i64 0, .int .i64 0] 50)).cell? ⟨w.heap.size, 1, none⟩ = some (.int .i64 a.last) ∧ (wc.alloc (.cells #[.string ⟨#[]⟩, .string ⟨#[]⟩, .int .i64 0, .int .i64 0, .int .i64 0] 50)).cell? ⟨w.heap.size, 2, none⟩ = some (.slice (some ⟨b, off, none⟩) a.sp.length cap) ∧ (wc.alloc (.cells #[.string ⟨#[]⟩, .string ⟨#[]⟩, .int .i64 0, .int .i64 0, .int .i64 0] 50)).cell? ⟨w.heap.size, 3, none⟩ = some (.int .i64 a.plan.kind) ∧ (wc.alloc (.cells #[.string ⟨#[]⟩, .string ⟨#[]⟩, .int .i64 0, .int .i64 0, .int .i64 0] 50)).cell? ⟨w.heap.size, 4, none⟩ = some (.int .i64 a.plan.phase) ∧ (wc.alloc (.cells #[.string ⟨#[]⟩, .string ⟨#[]⟩, .int .i64 0, .int .i64 0, .int .i64 0] 50)).cell? ⟨w.heap.size, 5, none⟩ = some (.int .i64 a.plan.shard) ∧ (wc.alloc (.cells #[.string ⟨#[]⟩, .string ⟨#[]⟩, .int .i64 0, .int .i64 0, .int .i64 0] 50)).cell? ⟨w.heap.size, 6, none⟩ = some (.int .i64 a.plan.other) ∧ (wc.alloc (.cells #[.string ⟨#[]⟩, .string ⟨#[]⟩, .int .i64 0, .int .i64 0, .int .i64 0] 50)).cell? ⟨w.heap.size, 7, none⟩ = some (.int .i64 a.plan.group) ∧ (wc.alloc (.cells #[.string ⟨#[]⟩, .string ⟨#[]⟩, .int .i64 0, .int .i64 0, .int .i64 0] 50)).cell? ⟨w.heap.size, 8, none⟩ = some (.int .i64 a.plan.past) ∧ (wc.alloc (.cells #[.string ⟨#[]⟩, .string ⟨#[]⟩, .int .i64 0, .int .i64 0, .int .i64 0] 50)).cell? ⟨w.heap.size, 9, none⟩ = some (.int .i64 a.plan.epoch) ∧ (wc.alloc (.cells #[.string ⟨#[]⟩, .string ⟨#[]⟩, .int .i64 0, .int .i64 0, .int .i64 0] 50)).cell? ⟨w.heap.size, 10, none⟩ = some (.string a.plan.key) ∧ (wc.alloc (.cells #[.string ⟨#[]⟩, .string ⟨#[]⟩, .int .i64 0, .int .i64 0, .int .i64 0] 50)).cell? ⟨b, off + k * 5, none⟩ = some (.string a.sp[k].fr) from hr2)
             have hr3 : RoundCells w.heap.size b (off + k * 5) a (.slice (some ⟨b, off, none⟩) a.sp.length cap) a.sp[k].fr (wc.alloc (a.sp[k].blk)) := hr1.below (al _) (Nat.lt_of_lt_of_le mlt hbc'.size) (Nat.lt_of_lt_of_le blt hbc'.size)
             have HR3 := Lib.hid (show (wc.alloc (.cells #[.string a.sp[k].fr, .string a.sp[k].to, .int .i64 a.sp[k].sh, .int .i64 a.sp[k].ep, .int .i64 a.sp[k].gr] 50)).cell? ⟨w.heap.size, 0, none⟩ = some (.int .i64 a.groups) ∧ (wc.alloc (.cells #[.string a.sp[k].fr, .string a.sp[k].to, .int .i64 a.sp[k].sh, .int .i64 a.sp[k].ep, .int .i64 a.sp[k].gr] 50)).cell? ⟨w.heap.size, 1, none⟩ = some (.int .i64 a.last) ∧ (wc.alloc (.cells #[.string a.sp[k].fr, .string a.sp[k].to, .int .i64 a.sp[k].sh, .int .i64 a.sp[k].ep, .int .i64 a.sp[k].gr] 50)).cell? ⟨w.heap.size, 2, none⟩ = some (.slice (some ⟨b, off, none⟩) a.sp.length cap) ∧ (wc.alloc (.cells #[.string a.sp[k].fr, .string a.sp[k].to, .int .i64 a.sp[k].sh, .int .i64 a.sp[k].ep, .int .i64 a.sp[k].gr] 50)).cell? ⟨w.heap.size, 3, none⟩ = some (.int .i64 a.plan.kind) ∧ (wc.alloc (.cells #[.string a.sp[k].fr, .string a.sp[k].to, .int .i64 a.sp[k].sh, .int .i64 a.sp[k].ep, .int .i64 a.sp[k].gr] 50)).cell? ⟨w.heap.size, 4, none⟩ = some (.int .i64 a.plan.phase) ∧ (wc.alloc (.cells #[.string a.sp[k].fr, .string a.sp[k].to, .int .i64 a.sp[k].sh, .int .i64 a.sp[k].ep, .int .i64 a.sp[k].gr] 50)).cell? ⟨w.heap.size, 5, none⟩ = some (.int .i64 a.plan.shard) ∧ (wc.alloc (.cells #[.string a.sp[k].fr, .string a.sp[k].to, .int .i64 a.sp[k].sh, .int .i64 a.sp[k].ep, .int .i64 a.sp[k].gr] 50)).cell? ⟨w.heap.size, 6, none⟩ = some (.int .i64 a.plan.other) ∧ (wc.alloc (.cells #[.string a.sp[k].fr, .string a.sp[k].to, .int .i64 a.sp[k].sh, .int .i64 a.sp[k].ep, .int .i64 a.sp[k].gr] 50)).cell? ⟨w.heap.size, 7, none⟩ = some (.int .i64 a.plan.group) ∧ (wc.alloc (.cells #[.string a.sp[k].fr, .string a.sp[k].to, .int .i64 a.sp[k].sh, .int .i64 a.sp[k].ep, .int .i64 a.sp[k].gr] 50)).cell? ⟨w.heap.size, 8, none⟩ = some (.int .i64 a.plan.past) ∧ (wc.alloc (.cells #[.string a.sp[k].fr, .string a.sp[k].to, .int .i64 a.sp[k].sh, .int .i64 a.sp[k].ep, .int .i64 a.sp[k].gr] 50)).cell? ⟨w.heap.size, 9, none⟩ = some (.int .i64 a.plan.epoch) ∧ (wc.alloc (.cells #[.string a.sp[k].fr, .string a.sp[k].to, .int .i64 a.sp[k].sh, .int .i64 a.sp[k].ep, .int .i64 a.sp[k].gr] 50)).cell? ⟨w.heap.size, 10, none⟩ = some (.string a.plan.key) ∧ (wc.alloc (.cells #[.string a.sp[k].fr, .string a.sp[k].to, .int .i64 a.sp[k].sh, .int .i64 a.sp[k].ep, .int .i64 a.sp[k].gr] 50)).cell? ⟨b, off + k * 5, none⟩ = some (.string a.sp[k].fr) from hr3)
             have hbw : Below wr.heap.size wr (wc.alloc (.cells #[.string a.sp[k].fr, .string a.sp[k].to, .int .i64 a.sp[k].sh, .int .i64 a.sp[k].ep, .int .i64 a.sp[k].gr] 50)) := hbc'.trans ((al (w := wc) a.sp[k].blk).mono hbc'.size)
             have hsw : (wc.alloc (.cells #[.string a.sp[k].fr, .string a.sp[k].to, .int .i64 a.sp[k].sh, .int .i64 a.sp[k].ep, .int .i64 a.sp[k].gr] 50)).heap[wc.heap.size]? = some a.sp[k].blk := heap_alloc_new wc _
             have Hbw := Lib.hid hbw; have Hsw := Lib.hid hsw
             clear hr1 hr2 hr3 hbc hbc' hbw hsw)
          | (go_at_call 30
             refine (HF.out (wr.alloc (.cells #[.string ⟨#[]⟩, .string ⟨#[]⟩, .int .i64 0, .int .i64 0, .int .i64 0] 50)).drew ((HI.out.below HBr.out).below Hbz.out)).mono ?_
             rintro e wc ⟨rfl, hbc⟩
             have hbc' : Below wr.heap.size wr wc := Hbz.out.trans (hbc.mono Hbz.out.size)
             have hr1 : RoundCells w.heap.size b (off + k * 5) a (.slice (some ⟨b, off, none⟩) a.sp.length cap) a.sp[k].fr wc := RoundCells.below (w := (wr.alloc (.cells #[.string ⟨#[]⟩, .string ⟨#[]⟩, .int .i64 0, .int .i64 0, .int .i64 0] 50)).drew) HRz.out hbc (Nat.lt_of_lt_of_le mlt Hbz.out.size) (Nat.lt_of_lt_of_le blt Hbz.out.size)
             have HR1 := Lib.hid (show wc.cell? ⟨w.heap.size, 0, none⟩ = some (.int .i64 a.groups) ∧ wc.cell? ⟨w.heap.size, 1, none⟩ = some (.int .i64 a.last) ∧ wc.cell? ⟨w.heap.size, 2, none⟩ = some (.slice (some ⟨b, off, none⟩) a.sp.length cap) ∧ wc.cell? ⟨w.heap.size, 3, none⟩ = some (.int .i64 a.plan.kind) ∧ wc.cell? ⟨w.heap.size, 4, none⟩ = some (.int .i64 a.plan.phase) ∧ wc.cell? ⟨w.heap.size, 5, none⟩ = some (.int .i64 a.plan.shard) ∧ wc.cell? ⟨w.heap.size, 6, none⟩ = some (.int .i64 a.plan.other) ∧ wc.cell? ⟨w.heap.size, 7, none⟩ = some (.int .i64 a.plan.group) ∧ wc.cell? ⟨w.heap.size, 8, none⟩ = some (.int .i64 a.plan.past) ∧ wc.cell? ⟨w.heap.size, 9, none⟩ = some (.int .i64 a.plan.epoch) ∧ wc.cell? ⟨w.heap.size, 10, none⟩ = some (.string a.plan.key) ∧ wc.cell? ⟨b, off + k * 5, none⟩ = some (.string a.sp[k].fr) from hr1)
             have hzc := blk_below hbc (lt_of_some Hzz.out) Hzz.out
             obtain ⟨z0, z1, z2, z3, z4, zlt⟩ := span_blk hzc
             have fz0 := fz_blk hzc 0; have fz1 := fz_blk hzc 1; have fz2 := fz_blk hzc 2; have fz3 := fz_blk hzc 3; have fz4 := fz_blk hzc 4
             simp only [zeroS] at z0 z1 z2 z3 z4
             have hon : Only (· = wr.heap.size) wc (((((wc.setCell ⟨wr.heap.size, 0, none⟩ (.string a.sp[k].fr)).setCell ⟨wr.heap.size, 1, none⟩ (.string a.sp[k].to)).setCell ⟨wr.heap.size, 2, none⟩ (.int .i64 a.sp[k].sh)).setCell ⟨wr.heap.size, 3, none⟩ (.int .i64 a.sp[k].ep)).setCell ⟨wr.heap.size, 4, none⟩ (.int .i64 a.sp[k].gr)) := (((((only_setCell wc ⟨wr.heap.size, 0, none⟩ (.string a.sp[k].fr)).trans (only_setCell (wc.setCell ⟨wr.heap.size, 0, none⟩ (.string a.sp[k].fr)) ⟨wr.heap.size, 1, none⟩ (.string a.sp[k].to)) (fun _ _ h => h)).trans (only_setCell ((wc.setCell ⟨wr.heap.size, 0, none⟩ (.string a.sp[k].fr)).setCell ⟨wr.heap.size, 1, none⟩ (.string a.sp[k].to)) ⟨wr.heap.size, 2, none⟩ (.int .i64 a.sp[k].sh)) (fun _ _ h => h)).trans (only_setCell (((wc.setCell ⟨wr.heap.size, 0, none⟩ (.string a.sp[k].fr)).setCell ⟨wr.heap.size, 1, none⟩ (.string a.sp[k].to)).setCell ⟨wr.heap.size, 2, none⟩ (.int .i64 a.sp[k].sh)) ⟨wr.heap.size, 3, none⟩ (.int .i64 a.sp[k].ep)) (fun _ _ h => h)).trans (only_setCell ((((wc.setCell ⟨wr.heap.size, 0, none⟩ (.string a.sp[k].fr)).setCell ⟨wr.heap.size, 1, none⟩ (.string a.sp[k].to)).setCell ⟨wr.heap.size, 2, none⟩ (.int .i64 a.sp[k].sh)).setCell ⟨wr.heap.size, 3, none⟩ (.int .i64 a.sp[k].ep)) ⟨wr.heap.size, 4, none⟩ (.int .i64 a.sp[k].gr)) (fun _ _ h => h))
             have hr2 : RoundCells w.heap.size b (off + k * 5) a (.slice (some ⟨b, off, none⟩) a.sp.length cap) a.sp[k].fr (((((wc.setCell ⟨wr.heap.size, 0, none⟩ (.string a.sp[k].fr)).setCell ⟨wr.heap.size, 1, none⟩ (.string a.sp[k].to)).setCell ⟨wr.heap.size, 2, none⟩ (.int .i64 a.sp[k].sh)).setCell ⟨wr.heap.size, 3, none⟩ (.int .i64 a.sp[k].ep)).setCell ⟨wr.heap.size, 4, none⟩ (.int .i64 a.sp[k].gr)) := hr1.below (hon.below (B := wr.heap.size) (Below.refl _ _) (fun q hq => by omega) hbc'.size) mlt blt
             have HR2 := Lib.hid (show (((((wc.setCell ⟨wr.heap.size, 0, none⟩ (.string a.sp[k].fr)).setCell ⟨wr.heap.size, 1, none⟩ (.string a.sp[k].to)).setCell ⟨wr.heap.size, 2, none⟩ (.int .i64 a.sp[k].sh)).setCell ⟨wr.heap.size, 3, none⟩ (.int .i64 a.sp[k].ep)).setCell ⟨wr.heap.size, 4, none⟩ (.int .i64 a.sp[k].gr)).cell? ⟨w.heap.size, 0, none⟩ = some (.int .i64 a.groups) ∧ (((((wc.setCell ⟨wr.heap.size, 0, none⟩ (.string a.sp[k].fr)).setCell ⟨wr.heap.size, 1, none⟩ (.string a.sp[k].to)).setCell ⟨wr.heap.size, 2, none⟩ (.int .i64 a.sp[k].sh)).setCell ⟨wr.heap.size, 3, none⟩ (.int .i64 a.sp[k].ep)).setCell ⟨wr.heap.size, 4, none⟩ (.int .i64 a.sp[k].gr)).cell? ⟨w.heap.size, 1, none⟩ = some (.int .i64 a.last) ∧ (((((wc.setCell ⟨wr.heap.size, 0, none⟩ (.string a.sp[k].fr)).setCell ⟨wr.heap.size, 1, none⟩ (.string a.sp[k].to)).setCell ⟨wr.heap.size, 2, none⟩ (.int .i64 a.sp[k].sh)).setCell ⟨wr.heap.size, 3, none⟩ (.int .i64 a.sp[k].ep)).setCell ⟨wr.heap.size, 4, none⟩ (.int .i64 a.sp[k].gr)).cell? ⟨w.heap.size, 2, none⟩ = some (.slice (some ⟨b, off, none⟩) a.sp.length cap) ∧ (((((wc.setCell ⟨wr.heap.size, 0, none⟩ (.string a.sp[k].fr)).setCell ⟨wr.heap.size, 1, none⟩ (.string a.sp[k].to)).setCell ⟨wr.heap.size, 2, none⟩ (.int .i64 a.sp[k].sh)).setCell ⟨wr.heap.size, 3, none⟩ (.int .i64 a.sp[k].ep)).setCell ⟨wr.heap.size, 4, none⟩ (.int .i64 a.sp[k].gr)).cell? ⟨w.heap.size, 3, none⟩ = some (.int .i64 a.plan.kind) ∧ (((((wc.setCell ⟨wr.heap.size, 0, none⟩ (.string a.sp[k].fr)).setCell ⟨wr.heap.size, 1, none⟩ (.string a.sp[k].to)).setCell ⟨wr.heap.size, 2, none⟩ (.int .i64 a.sp[k].sh)).setCell ⟨wr.heap.size, 3, none⟩ (.int .i64 a.sp[k].ep)).setCell ⟨wr.heap.size, 4, none⟩ (.int .i64 a.sp[k].gr)).cell? ⟨w.heap.size, 4, none⟩ = some (.int .i64 a.plan.phase) ∧ (((((wc.setCell ⟨wr.heap.size, 0, none⟩ (.string a.sp[k].fr)).setCell ⟨wr.heap.size, 1, none⟩ (.string a.sp[k].to)).setCell ⟨wr.heap.size, 2, none⟩ (.int .i64 a.sp[k].sh)).setCell ⟨wr.heap.size, 3, none⟩ (.int .i64 a.sp[k].ep)).setCell ⟨wr.heap.size, 4, none⟩ (.int .i64 a.sp[k].gr)).cell? ⟨w.heap.size, 5, none⟩ = some (.int .i64 a.plan.shard) ∧ (((((wc.setCell ⟨wr.heap.size, 0, none⟩ (.string a.sp[k].fr)).setCell ⟨wr.heap.size, 1, none⟩ (.string a.sp[k].to)).setCell ⟨wr.heap.size, 2, none⟩ (.int .i64 a.sp[k].sh)).setCell ⟨wr.heap.size, 3, none⟩ (.int .i64 a.sp[k].ep)).setCell ⟨wr.heap.size, 4, none⟩ (.int .i64 a.sp[k].gr)).cell? ⟨w.heap.size, 6, none⟩ = some (.int .i64 a.plan.other) ∧ (((((wc.setCell ⟨wr.heap.size, 0, none⟩ (.string a.sp[k].fr)).setCell ⟨wr.heap.size, 1, none⟩ (.string a.sp[k].to)).setCell ⟨wr.heap.size, 2, none⟩ (.int .i64 a.sp[k].sh)).setCell ⟨wr.heap.size, 3, none⟩ (.int .i64 a.sp[k].ep)).setCell ⟨wr.heap.size, 4, none⟩ (.int .i64 a.sp[k].gr)).cell? ⟨w.heap.size, 7, none⟩ = some (.int .i64 a.plan.group) ∧ (((((wc.setCell ⟨wr.heap.size, 0, none⟩ (.string a.sp[k].fr)).setCell ⟨wr.heap.size, 1, none⟩ (.string a.sp[k].to)).setCell ⟨wr.heap.size, 2, none⟩ (.int .i64 a.sp[k].sh)).setCell ⟨wr.heap.size, 3, none⟩ (.int .i64 a.sp[k].ep)).setCell ⟨wr.heap.size, 4, none⟩ (.int .i64 a.sp[k].gr)).cell? ⟨w.heap.size, 8, none⟩ = some (.int .i64 a.plan.past) ∧ (((((wc.setCell ⟨wr.heap.size, 0, none⟩ (.string a.sp[k].fr)).setCell ⟨wr.heap.size, 1, none⟩ (.string a.sp[k].to)).setCell ⟨wr.heap.size, 2, none⟩ (.int .i64 a.sp[k].sh)).setCell ⟨wr.heap.size, 3, none⟩ (.int .i64 a.sp[k].ep)).setCell ⟨wr.heap.size, 4, none⟩ (.int .i64 a.sp[k].gr)).cell? ⟨w.heap.size, 9, none⟩ = some (.int .i64 a.plan.epoch) ∧ (((((wc.setCell ⟨wr.heap.size, 0, none⟩ (.string a.sp[k].fr)).setCell ⟨wr.heap.size, 1, none⟩ (.string a.sp[k].to)).setCell ⟨wr.heap.size, 2, none⟩ (.int .i64 a.sp[k].sh)).setCell ⟨wr.heap.size, 3, none⟩ (.int .i64 a.sp[k].ep)).setCell ⟨wr.heap.size, 4, none⟩ (.int .i64 a.sp[k].gr)).cell? ⟨w.heap.size, 10, none⟩ = some (.string a.plan.key) ∧ (((((wc.setCell ⟨wr.heap.size, 0, none⟩ (.string a.sp[k].fr)).setCell ⟨wr.heap.size, 1, none⟩ (.string a.sp[k].to)).setCell ⟨wr.heap.size, 2, none⟩ (.int .i64 a.sp[k].sh)).setCell ⟨wr.heap.size, 3, none⟩ (.int .i64 a.sp[k].ep)).setCell ⟨wr.heap.size, 4, none⟩ (.int .i64 a.sp[k].gr)).cell? ⟨b, off + k * 5, none⟩ = some (.string a.sp[k].fr) from hr2)
             have HR3 := HR2
             have hbw : Below wr.heap.size wr (((((wc.setCell ⟨wr.heap.size, 0, none⟩ (.string a.sp[k].fr)).setCell ⟨wr.heap.size, 1, none⟩ (.string a.sp[k].to)).setCell ⟨wr.heap.size, 2, none⟩ (.int .i64 a.sp[k].sh)).setCell ⟨wr.heap.size, 3, none⟩ (.int .i64 a.sp[k].ep)).setCell ⟨wr.heap.size, 4, none⟩ (.int .i64 a.sp[k].gr)) := hon.below hbc' (fun q hq => by omega) hbc'.size
             have hsw : (((((wc.setCell ⟨wr.heap.size, 0, none⟩ (.string a.sp[k].fr)).setCell ⟨wr.heap.size, 1, none⟩ (.string a.sp[k].to)).setCell ⟨wr.heap.size, 2, none⟩ (.int .i64 a.sp[k].sh)).setCell ⟨wr.heap.size, 3, none⟩ (.int .i64 a.sp[k].ep)).setCell ⟨wr.heap.size, 4, none⟩ (.int .i64 a.sp[k].gr)).heap[wr.heap.size]? = some a.sp[k].blk := by
               have := (heap_setCell_at (i := 4) (heap_setCell_at (i := 3) (heap_setCell_at (i := 2) (heap_setCell_at (i := 1) (heap_setCell_at (i := 0) hzc (.string a.sp[k].fr)) (.string a.sp[k].to)) (.int .i64 a.sp[k].sh)) (.int .i64 a.sp[k].ep)) (.int .i64 a.sp[k].gr))
               refine (show _ = _ from this).trans ?_
               simp only [Span.blk, zeroS, List.setIfInBounds_toArray, List.set_cons_zero, List.set_cons_succ]
             have Hbw := Lib.hid hbw; have Hsw := Lib.hid hsw
             clear hr1 hr2 hbc hbc' hbw hsw hzc hon))
      all_goals
        clear m0 m1 m2 m3 m4 m5 m6 m7 m8 m9 m10 mlt p0 p1 p2 p3 p4
        obtain ⟨s0, s1, s2, s3, s4, slt⟩ := span_blk Hsw.out
        obtain ⟨m0, m1, m2, m3, m4, m5, m6, m7, m8, m9, m10, mlt⟩ := map_cells (blk_below Hbw.out (lt_of_some HXr.out) HXr.out)
        obtain ⟨_, _, he, blt2, p0, p1, p2, p3, p4⟩ := span_cells ((HI.out.below HBr.out).below Hbw.out).row k hlt
        injection he with he
        injection he with hx1 hx2
        subst hx1; subst hx2
        go_wp2_with fail
        go_quiet (fail)
        go_wp2_with fail
        go_roundw
        case rel => exact ⟨k + 1, by omega, by omega, by go_num, below_drewN Hbel.out Hbw.out _⟩
        case measure => simp [intOf]; omega
    · go_wp2
      go_ret
      exact ⟨rfl, hBr⟩
set_option maxRecDepth 100000 in
set_option maxHeartbeats 8000000 in
theorem finds_yz (w : World) (A : Option Addr) (cap : Nat) (a : Atl) (x y z : ByteArray) (h : MapIn w A cap a) (hfr : ∀ s ∈ a.sp, s.fr.size ≤ 9223372036854775807) (S T U : Span) (o1 o2 o3 : Bool) (h1 : FoundIs A cap a x S o1) (h2 : FoundIs A cap a z T o2) (h3 : FoundIs A cap a y U o3) (hm : tr (MapOk a) = true) (q1 : o1 = true) (q2 : o2 = true) (q3 : o3 = true) (la : (Op.bytesLess x.toList y.toList || x.toList == y.toList) = true) (lb : Op.bytesLess x.toList y.toList = true ∨ x.toList = y.toList) (ma : Op.bytesLess y.toList z.toList = false) (mb : (y.toList == z.toList) = false) (mc : ¬ y.toList = z.toList) :
    Calls Try.prog 11 #[a.val (.slice A a.sp.length cap), .string x, .string y, .string z] w fun e w' => e = .returned (.bool true) ∧ Below w.heap.size w w' := by
  subst q1
  subst q2
  subst q3
  have Hla := Lib.hid la
  have Hlb := Lib.hid lb
  have Hma := Lib.hid ma
  have Hmb := Lib.hid mb
  have Hmc := Lib.hid mc
  clear la lb ma mb mc
  have hC1 := fun w h => check_any w A cap a h
  rw [hm] at hC1
  have H1 := Lib.hid h1; have H2 := Lib.hid h2; have H3 := Lib.hid h3; have HC := Lib.hid hC1; have HI := Lib.hid h; have Hfr := Lib.hid hfr; have Hm := Lib.hid hm
  clear h1 h2 h3 hC1 h hfr hm
  go_enter Try.func11, Try.ntmps11
  go_upto_region 1 with fail
  change Code.wp _ _ _ _ (w.alloc (a.blk (.slice A a.sp.length cap)))
  have hX0 := heap_alloc_new w (a.blk (.slice A a.sp.length cap))
  have hB0 : Below w.heap.size w (w.alloc (a.blk (.slice A a.sp.length cap))) := al _
  generalize w.alloc (a.blk (.slice A a.sp.length cap)) = w0 at *
  have HX0 := Lib.hid hX0; have HB0 := Lib.hid hB0
  clear hX0 hB0
  go_upto_region 3 with (go_at_call 13
                         refine (awakeA _).mono ?_
                         rintro e w1 ⟨rfl, hb1⟩
                         have HX1 := Lib.hid (blk_below hb1 (lt_of_some HX0.out) HX0.out)
                         have HB1 := Lib.hid (HB0.out.trans (hb1.mono HB0.out.size))
                         clear hb1)
  refine wp_region_lit ?_
  refine wpList_load26 rfl (.tmp 4) rfl (w.heap.size) rfl HX1.out ?_
  simp only [Act.put, List.setIfInBounds_toArray, List.set_cons_zero, List.set_cons_succ]
  refine wpList_step (fun K hK => ?_)
  go_simp
  refine hK _ _ ?_
  clear hK K
  refine wpList_step (fun K hK => ?_)
  go_simp
  go_at_call 30
  refine (H1.out _ (HI.out.below HB1.out)).mono ?_
  rintro e w2 ⟨rfl, hb2⟩
  refine hK _ _ ?_
  clear hK K
  refine wpList_step (fun K hK => ?_)
  go_simp
  refine hK _ _ ?_
  clear hK K
  refine wpList_step (fun K hK => ?_)
  go_simp
  refine hK _ _ ?_
  clear hK K
  refine wpList_step (fun K hK => ?_)
  go_simp
  refine hK _ _ ?_
  clear hK K
  refine wpList_step (fun K hK => ?_)
  go_simp
  refine hK _ _ ?_
  clear hK K
  refine wpList_store50 rfl (.tmp 9) (.tmp 24) rfl w2.heap.size rfl (p := S) (p0 := zeroS) rfl (heap_alloc_new w2 _) ?_
  intro w3 hS ho
  simp only [Act.put, List.setIfInBounds_toArray, List.set_cons_zero, List.set_cons_succ]
  have hb : Below w2.heap.size w2 w3 := ho.below (al _) (fun k hk => by omega) (by simp)
  have hbx : Below w1.heap.size w1 w3 := hb2.trans (hb.mono hb2.size)
  have HX3 := Lib.hid (blk_below hbx (lt_of_some HX1.out) HX1.out)
  have HB3 := Lib.hid (HB1.out.trans (hbx.mono HB1.out.size))
  have HS3 := Lib.hid hS
  clear hb2 hb hbx hS ho
  go_upto_region 4 with fail
  refine wp_region_lit ?_
  refine wpList_load26 rfl (.tmp 4) rfl (w.heap.size) rfl HX3.out ?_
  simp only [Act.put, List.setIfInBounds_toArray, List.set_cons_zero, List.set_cons_succ]
  refine wpList_step (fun K hK => ?_)
  go_simp
  refine hK _ _ ?_
  clear hK K
  refine wpList_step (fun K hK => ?_)
  go_simp
  go_at_call 30
  refine (H2.out _ (HI.out.below HB3.out)).mono ?_
  rintro e w4 ⟨rfl, hb4⟩
  refine hK _ _ ?_
  clear hK K
  refine wpList_step (fun K hK => ?_)
  go_simp
  refine hK _ _ ?_
  clear hK K
  refine wpList_step (fun K hK => ?_)
  go_simp
  refine hK _ _ ?_
  clear hK K
  refine wpList_step (fun K hK => ?_)
  go_simp
  refine hK _ _ ?_
  clear hK K
  refine wpList_step (fun K hK => ?_)
  go_simp
  refine hK _ _ ?_
  clear hK K
  refine wpList_store50 rfl (.tmp 11) (.tmp 30) rfl w4.heap.size rfl (p := T) (p0 := zeroS) rfl (heap_alloc_new w4 _) ?_
  intro w5 hT ho
  simp only [Act.put, List.setIfInBounds_toArray, List.set_cons_zero, List.set_cons_succ]
  have hb : Below w4.heap.size w4 w5 := ho.below (al _) (fun k hk => by omega) (by simp)
  have hbx : Below w3.heap.size w3 w5 := hb4.trans (hb.mono hb4.size)
  have HX5 := Lib.hid (blk_below hbx (lt_of_some HX3.out) HX3.out)
  have HB5 := Lib.hid (HB3.out.trans (hbx.mono HB3.out.size))
  have HS5 := Lib.hid (blk_below hbx (lt_of_some HS3.out) HS3.out)
  have HT5 := Lib.hid hT
  clear hb4 hb hbx hT ho
  go_upto_region 5 with fail
  refine wp_region_lit ?_
  refine wpList_load26 rfl (.tmp 4) rfl (w.heap.size) rfl HX5.out ?_
  simp only [Act.put, List.setIfInBounds_toArray, List.set_cons_zero, List.set_cons_succ]
  refine wpList_step (fun K hK => ?_)
  go_simp
  refine hK _ _ ?_
  clear hK K
  refine wpList_step (fun K hK => ?_)
  go_simp
  go_at_call 30
  refine (H3.out _ (HI.out.below HB5.out)).mono ?_
  rintro e w6 ⟨rfl, hb6⟩
  refine hK _ _ ?_
  clear hK K
  refine wpList_step (fun K hK => ?_)
  go_simp
  refine hK _ _ ?_
  clear hK K
  refine wpList_step (fun K hK => ?_)
  go_simp
  refine hK _ _ ?_
  clear hK K
  refine wpList_step (fun K hK => ?_)
  go_simp
  refine hK _ _ ?_
  clear hK K
  refine wpList_step (fun K hK => ?_)
  go_simp
  refine hK _ _ ?_
  clear hK K
  refine wpList_store50 rfl (.tmp 13) (.tmp 36) rfl w6.heap.size rfl (p := U) (p0 := zeroS) rfl (heap_alloc_new w6 _) ?_
  intro w7 hU ho
  simp only [Act.put, List.setIfInBounds_toArray, List.set_cons_zero, List.set_cons_succ]
  have hb : Below w6.heap.size w6 w7 := ho.below (al _) (fun k hk => by omega) (by simp)
  have hbx : Below w5.heap.size w5 w7 := hb6.trans (hb.mono hb6.size)
  have HX7 := Lib.hid (blk_below hbx (lt_of_some HX5.out) HX5.out)
  have HB7 := Lib.hid (HB5.out.trans (hbx.mono HB5.out.size))
  have HS7 := Lib.hid (blk_below hbx (lt_of_some HS5.out) HS5.out)
  have HT7 := Lib.hid (blk_below hbx (lt_of_some HT5.out) HT5.out)
  have HU7 := Lib.hid hU
  clear hb6 hb hbx hU ho
  go_upto_region 6 with fail
  obtain ⟨s0, s1, s2, s3, s4, slt⟩ := span_blk HS7.out
  obtain ⟨t0, t1, t2, t3, t4, tlt⟩ := span_blk HT7.out
  obtain ⟨u0, u1, u2, u3, u4, ult⟩ := span_blk HU7.out
  obtain ⟨m0, m1, m2, m3, m4, m5, m6, m7, m8, m9, m10, mlt⟩ := map_cells HX7.out
  have la := Hla.out
  have lb := Hlb.out
  have ma := Hma.out
  have mb := Hmb.out
  have mc := Hmc.out
  go_upto_region 10 with (go_at_call 29
                          refine (HC.out _ (HI.out.below HB7.out)).mono ?_
                          rintro e w8 ⟨rfl, hb8⟩
                          have HX8 := Lib.hid (blk_below hb8 (lt_of_some HX7.out) HX7.out)
                          have HB8 := Lib.hid (HB7.out.trans (hb8.mono HB7.out.size))
                          clear hb8)
  clear s0 s1 s2 s3 s4 slt t0 t1 t2 t3 t4 tlt u0 u1 u2 u3 u4 ult m0 m1 m2 m3 m4 m5 m6 m7 m8 m9 m10 mlt
  have hm := of_tr Hm.out
  have h16 : a.sp.length ≤ 16 := hm.2.2.2.1.1
  obtain ⟨b, off, rfl⟩ : ∃ b off, A = some ⟨b, off, none⟩ := by
    obtain ⟨b, off, hA, _⟩ := span_cells HI.out.row 0 hm.2.2.2.1.2.1
    exact ⟨b, off, hA⟩
  have Hmk := Lib.hid hm
  clear hm
  go_wp2_with fail
  go_loopw [15] (fun v wr => ∃ k : Nat, 1 ≤ k ∧ k ≤ a.sp.length ∧ v = .int .i64 k ∧ Below w8.heap.size w8 wr) (fun v _ => a.sp.length - (intOf v).toNat)
  case atStart => exact ⟨1, Nat.le_refl _, Hmk.out.2.2.2.1.2.1, rfl, Below.refl _ _⟩
  case round =>
    obtain ⟨k, hk0, hk, rfl, hbel⟩ := hrel
    have hXr := blk_below hbel (lt_of_some HX8.out) HX8.out
    have hBr := HB8.out.trans (hbel.mono HB8.out.size)
    obtain ⟨m0, m1, m2, m3, m4, m5, m6, m7, m8, m9, m10, mlt⟩ := map_cells hXr
    have hw1 : IntKind.i64.wrap ((k : Int) + 1) = (k : Int) + 1 := IntWalk.i64_in _ (by omega)
    by_cases hlt : k < a.sp.length
    · obtain ⟨_, _, he, blt, p0, p1, p2, p3, p4⟩ := span_cells (HI.out.below hBr).row k hlt
      injection he with he
      injection he with hx1 hx2
      subst hx1; subst hx2
      have hk1 : (0 : Int) ≤ (k : Int) := by omega
      have hk2 : (k : Int) < (a.sp.length : Int) := by omega
      have hf : FoundIs (some ⟨b, off, none⟩) cap a a.sp[k].fr a.sp[k] true := fun w h => find_some w _ cap a a.sp[k].fr k h Hm.out (Hfr.out _ (List.getElem_mem hlt)) (by
        have := (sp_next Hmk.out.2.2.2.1 (k - 1) (by omega)).2
        simpa only [show k - 1 + 1 = k by omega] using this) hlt (found_self Hmk.out.2.2.2.1 k hlt)
      have HF := Lib.hid hf; have HBr := Lib.hid hBr; have HXr := Lib.hid hXr; have Hbel := Lib.hid hbel
      go_wp2_with fail
      have hr0 : RoundCells w.heap.size b (off + k * 5) a (.slice (some ⟨b, off, none⟩) a.sp.length cap) a.sp[k].fr wr := ⟨m0, m1, m2, m3, m4, m5, m6, m7, m8, m9, m10, p0⟩
      have HR0 := Lib.hid (show wr.drew.cell? ⟨w.heap.size, 0, none⟩ = some (.int .i64 a.groups) ∧ wr.drew.cell? ⟨w.heap.size, 1, none⟩ = some (.int .i64 a.last) ∧ wr.drew.cell? ⟨w.heap.size, 2, none⟩ = some (.slice (some ⟨b, off, none⟩) a.sp.length cap) ∧ wr.drew.cell? ⟨w.heap.size, 3, none⟩ = some (.int .i64 a.plan.kind) ∧ wr.drew.cell? ⟨w.heap.size, 4, none⟩ = some (.int .i64 a.plan.phase) ∧ wr.drew.cell? ⟨w.heap.size, 5, none⟩ = some (.int .i64 a.plan.shard) ∧ wr.drew.cell? ⟨w.heap.size, 6, none⟩ = some (.int .i64 a.plan.other) ∧ wr.drew.cell? ⟨w.heap.size, 7, none⟩ = some (.int .i64 a.plan.group) ∧ wr.drew.cell? ⟨w.heap.size, 8, none⟩ = some (.int .i64 a.plan.past) ∧ wr.drew.cell? ⟨w.heap.size, 9, none⟩ = some (.int .i64 a.plan.epoch) ∧ wr.drew.cell? ⟨w.heap.size, 10, none⟩ = some (.string a.plan.key) ∧ wr.drew.cell? ⟨b, off + k * 5, none⟩ = some (.string a.sp[k].fr) from hr0)
      have hrz : RoundCells w.heap.size b (off + k * 5) a (.slice (some ⟨b, off, none⟩) a.sp.length cap) a.sp[k].fr (wr.alloc zeroS.blk) := hr0.below (al _) mlt blt
      have HRz := Lib.hid (show (wr.alloc (.cells #[.string ⟨#[]⟩, .string ⟨#[]⟩, .int .i64 0, .int .i64 0, .int .i64 0] 50)).drew.cell? ⟨w.heap.size, 0, none⟩ = some (.int .i64 a.groups) ∧ (wr.alloc (.cells #[.string ⟨#[]⟩, .string ⟨#[]⟩, .int .i64 0, .int .i64 0, .int .i64 0] 50)).drew.cell? ⟨w.heap.size, 1, none⟩ = some (.int .i64 a.last) ∧ (wr.alloc (.cells #[.string ⟨#[]⟩, .string ⟨#[]⟩, .int .i64 0, .int .i64 0, .int .i64 0] 50)).drew.cell? ⟨w.heap.size, 2, none⟩ = some (.slice (some ⟨b, off, none⟩) a.sp.length cap) ∧ (wr.alloc (.cells #[.string ⟨#[]⟩, .string ⟨#[]⟩, .int .i64 0, .int .i64 0, .int .i64 0] 50)).drew.cell? ⟨w.heap.size, 3, none⟩ = some (.int .i64 a.plan.kind) ∧ (wr.alloc (.cells #[.string ⟨#[]⟩, .string ⟨#[]⟩, .int .i64 0, .int .i64 0, .int .i64 0] 50)).drew.cell? ⟨w.heap.size, 4, none⟩ = some (.int .i64 a.plan.phase) ∧ (wr.alloc (.cells #[.string ⟨#[]⟩, .string ⟨#[]⟩, .int .i64 0, .int .i64 0, .int .i64 0] 50)).drew.cell? ⟨w.heap.size, 5, none⟩ = some (.int .i64 a.plan.shard) ∧ (wr.alloc (.cells #[.string ⟨#[]⟩, .string ⟨#[]⟩, .int .i64 0, .int .i64 0, .int .i64 0] 50)).drew.cell? ⟨w.heap.size, 6, none⟩ = some (.int .i64 a.plan.other) ∧ (wr.alloc (.cells #[.string ⟨#[]⟩, .string ⟨#[]⟩, .int .i64 0, .int .i64 0, .int .i64 0] 50)).drew.cell? ⟨w.heap.size, 7, none⟩ = some (.int .i64 a.plan.group) ∧ (wr.alloc (.cells #[.string ⟨#[]⟩, .string ⟨#[]⟩, .int .i64 0, .int .i64 0, .int .i64 0] 50)).drew.cell? ⟨w.heap.size, 8, none⟩ = some (.int .i64 a.plan.past) ∧ (wr.alloc (.cells #[.string ⟨#[]⟩, .string ⟨#[]⟩, .int .i64 0, .int .i64 0, .int .i64 0] 50)).drew.cell? ⟨w.heap.size, 9, none⟩ = some (.int .i64 a.plan.epoch) ∧ (wr.alloc (.cells #[.string ⟨#[]⟩, .string ⟨#[]⟩, .int .i64 0, .int .i64 0, .int .i64 0] 50)).drew.cell? ⟨w.heap.size, 10, none⟩ = some (.string a.plan.key) ∧ (wr.alloc (.cells #[.string ⟨#[]⟩, .string ⟨#[]⟩, .int .i64 0, .int .i64 0, .int .i64 0] 50)).drew.cell? ⟨b, off + k * 5, none⟩ = some (.string a.sp[k].fr) from hrz)
      have hbz : Below wr.heap.size wr (wr.alloc (.cells #[.string ⟨#[]⟩, .string ⟨#[]⟩, .int .i64 0, .int .i64 0, .int .i64 0] 50)).drew := (al (w := wr) zeroS.blk).drew
      have hzz : (wr.alloc (.cells #[.string ⟨#[]⟩, .string ⟨#[]⟩, .int .i64 0, .int .i64 0, .int .i64 0] 50)).drew.heap[wr.heap.size]? = some zeroS.blk := heap_alloc_new wr _
      have Hbz := Lib.hid hbz; have Hzz := Lib.hid hzz
      clear hf hBr hXr hbel hrz hbz hzz hr0
      go_region_held3 (fun w' => w'.cell? ⟨w.heap.size, 0, none⟩ = some (.int .i64 a.groups) ∧ w'.cell? ⟨w.heap.size, 1, none⟩ = some (.int .i64 a.last) ∧ w'.cell? ⟨w.heap.size, 2, none⟩ = some (.slice (some ⟨b, off, none⟩) a.sp.length cap) ∧ w'.cell? ⟨w.heap.size, 3, none⟩ = some (.int .i64 a.plan.kind) ∧ w'.cell? ⟨w.heap.size, 4, none⟩ = some (.int .i64 a.plan.phase) ∧ w'.cell? ⟨w.heap.size, 5, none⟩ = some (.int .i64 a.plan.shard) ∧ w'.cell? ⟨w.heap.size, 6, none⟩ = some (.int .i64 a.plan.other) ∧ w'.cell? ⟨w.heap.size, 7, none⟩ = some (.int .i64 a.plan.group) ∧ w'.cell? ⟨w.heap.size, 8, none⟩ = some (.int .i64 a.plan.past) ∧ w'.cell? ⟨w.heap.size, 9, none⟩ = some (.int .i64 a.plan.epoch) ∧ w'.cell? ⟨w.heap.size, 10, none⟩ = some (.string a.plan.key) ∧ w'.cell? ⟨b, off + k * 5, none⟩ = some (.string a.sp[k].fr))
        (first | with_reducible exact HR0.out | with_reducible exact HRz.out | with_reducible exact HR1.out | with_reducible exact HR2.out | with_reducible exact HR3.out)
        (first
          | (go_at_call 30
             refine (HF.out wr.drew ((HI.out.below HBr.out).below ((Below.refl _ wr).drew))).mono ?_
             rintro e wc ⟨rfl, hbc⟩
             have hbc' : Below wr.heap.size wr wc := ((Below.refl _ wr).drew).trans hbc
             have hr1 : RoundCells w.heap.size b (off + k * 5) a (.slice (some ⟨b, off, none⟩) a.sp.length cap) a.sp[k].fr wc := RoundCells.below (w := wr.drew) HR0.out hbc mlt blt
             have HR1 := Lib.hid (show wc.cell? ⟨w.heap.size, 0, none⟩ = some (.int .i64 a.groups) ∧ wc.cell? ⟨w.heap.size, 1, none⟩ = some (.int .i64 a.last) ∧ wc.cell? ⟨w.heap.size, 2, none⟩ = some (.slice (some ⟨b, off, none⟩) a.sp.length cap) ∧ wc.cell? ⟨w.heap.size, 3, none⟩ = some (.int .i64 a.plan.kind) ∧ wc.cell? ⟨w.heap.size, 4, none⟩ = some (.int .i64 a.plan.phase) ∧ wc.cell? ⟨w.heap.size, 5, none⟩ = some (.int .i64 a.plan.shard) ∧ wc.cell? ⟨w.heap.size, 6, none⟩ = some (.int .i64 a.plan.other) ∧ wc.cell? ⟨w.heap.size, 7, none⟩ = some (.int .i64 a.plan.group) ∧ wc.cell? ⟨w.heap.size, 8, none⟩ = some (.int .i64 a.plan.past) ∧ wc.cell? ⟨w.heap.size, 9, none⟩ = some (.int .i64 a.plan.epoch) ∧ wc.cell? ⟨w.heap.size, 10, none⟩ = some (.string a.plan.key) ∧ wc.cell? ⟨b, off + k * 5, none⟩ = some (.string a.sp[k].fr) from hr1)
             have hr2 : RoundCells w.heap.size b (off + k * 5) a (.slice (some ⟨b, off, none⟩) a.sp.length cap) a.sp[k].fr (wc.alloc (zeroS.blk)) := hr1.below (al _) (Nat.lt_of_lt_of_le mlt hbc'.size) (Nat.lt_of_lt_of_le blt hbc'.size)
             have HR2 := Lib.hid (show (wc.alloc (.cells #[.string ⟨#[]⟩, .string ⟨#[]⟩, .int .i64 0, .int .i64 0, .int .i64 0] 50)).cell? ⟨w.heap.size, 0, none⟩ = some (.int .i64 a.groups) ∧ (wc.alloc (.cells #[.string ⟨#[]⟩, .string ⟨#[]⟩, .int .i64 0, .int .i64 0, .int .i64 0] 50)).cell? ⟨w.heap.size, 1, none⟩ = some (.int .i64 a.last) ∧ (wc.alloc (.cells #[.string ⟨#[]⟩, .string ⟨#[]⟩, .int .i64 0, .int .i64 0, .int .i64 0] 50)).cell? ⟨w.heap.size, 2, none⟩ = some (.slice (some ⟨b, off, none⟩) a.sp.length cap) ∧ (wc.alloc (.cells #[.string ⟨#[]⟩, .string ⟨#[]⟩, .int .i64 0, .int .i64 0, .int .i64 0] 50)).cell? ⟨w.heap.size, 3, none⟩ = some (.int .i64 a.plan.kind) ∧ (wc.alloc (.cells #[.string ⟨#[]⟩, .string ⟨#[]⟩, .int .i64 0, .int .i64 0, .int .i64 0] 50)).cell? ⟨w.heap.size, 4, none⟩ = some (.int .i64 a.plan.phase) ∧ (wc.alloc (.cells #[.string ⟨#[]⟩, .string ⟨#[]⟩, .int .i64 0, .int .i64 0, .int .i64 0] 50)).cell? ⟨w.heap.size, 5, none⟩ = some (.int .i64 a.plan.shard) ∧ (wc.alloc (.cells #[.string ⟨#[]⟩, .string ⟨#[]⟩, .int .i64 0, .int .i64 0, .int .i64 0] 50)).cell? ⟨w.heap.size, 6, none⟩ = some (.int .i64 a.plan.other) ∧ (wc.alloc (.cells #[.string ⟨#[]⟩, .string ⟨#[]⟩, .int .i64 0, .int .i64 0, .int .i64 0] 50)).cell? ⟨w.heap.size, 7, none⟩ = some (.int .i64 a.plan.group) ∧ (wc.alloc (.cells #[.string ⟨#[]⟩, .string ⟨#[]⟩, .int .i64 0, .int .i64 0, .int .i64 0] 50)).cell? ⟨w.heap.size, 8, none⟩ = some (.int .i64 a.plan.past) ∧ (wc.alloc (.cells #[.string ⟨#[]⟩, .string ⟨#[]⟩, .int .i64 0, .int .i64 0, .int .i64 0] 50)).cell? ⟨w.heap.size, 9, none⟩ = some (.int .i64 a.plan.epoch) ∧ (wc.alloc (.cells #[.string ⟨#[]⟩, .string ⟨#[]⟩, .int .i64 0, .int .i64 0, .int .i64 0] 50)).cell? ⟨w.heap.size, 10, none⟩ = some (.string a.plan.key) ∧ (wc.alloc (.cells #[.string ⟨#[]⟩, .string ⟨#[]⟩, .int .i64 0, .int .i64 0, .int .i64 0] 50)).cell? ⟨b, off + k * 5, none⟩ = some (.string a.sp[k].fr) from hr2)
             have hr3 : RoundCells w.heap.size b (off + k * 5) a (.slice (some ⟨b, off, none⟩) a.sp.length cap) a.sp[k].fr (wc.alloc (a.sp[k].blk)) := hr1.below (al _) (Nat.lt_of_lt_of_le mlt hbc'.size) (Nat.lt_of_lt_of_le blt hbc'.size)
             have HR3 := Lib.hid (show (wc.alloc (.cells #[.string a.sp[k].fr, .string a.sp[k].to, .int .i64 a.sp[k].sh, .int .i64 a.sp[k].ep, .int .i64 a.sp[k].gr] 50)).cell? ⟨w.heap.size, 0, none⟩ = some (.int .i64 a.groups) ∧ (wc.alloc (.cells #[.string a.sp[k].fr, .string a.sp[k].to, .int .i64 a.sp[k].sh, .int .i64 a.sp[k].ep, .int .i64 a.sp[k].gr] 50)).cell? ⟨w.heap.size, 1, none⟩ = some (.int .i64 a.last) ∧ (wc.alloc (.cells #[.string a.sp[k].fr, .string a.sp[k].to, .int .i64 a.sp[k].sh, .int .i64 a.sp[k].ep, .int .i64 a.sp[k].gr] 50)).cell? ⟨w.heap.size, 2, none⟩ = some (.slice (some ⟨b, off, none⟩) a.sp.length cap) ∧ (wc.alloc (.cells #[.string a.sp[k].fr, .string a.sp[k].to, .int .i64 a.sp[k].sh, .int .i64 a.sp[k].ep, .int .i64 a.sp[k].gr] 50)).cell? ⟨w.heap.size, 3, none⟩ = some (.int .i64 a.plan.kind) ∧ (wc.alloc (.cells #[.string a.sp[k].fr, .string a.sp[k].to, .int .i64 a.sp[k].sh, .int .i64 a.sp[k].ep, .int .i64 a.sp[k].gr] 50)).cell? ⟨w.heap.size, 4, none⟩ = some (.int .i64 a.plan.phase) ∧ (wc.alloc (.cells #[.string a.sp[k].fr, .string a.sp[k].to, .int .i64 a.sp[k].sh, .int .i64 a.sp[k].ep, .int .i64 a.sp[k].gr] 50)).cell? ⟨w.heap.size, 5, none⟩ = some (.int .i64 a.plan.shard) ∧ (wc.alloc (.cells #[.string a.sp[k].fr, .string a.sp[k].to, .int .i64 a.sp[k].sh, .int .i64 a.sp[k].ep, .int .i64 a.sp[k].gr] 50)).cell? ⟨w.heap.size, 6, none⟩ = some (.int .i64 a.plan.other) ∧ (wc.alloc (.cells #[.string a.sp[k].fr, .string a.sp[k].to, .int .i64 a.sp[k].sh, .int .i64 a.sp[k].ep, .int .i64 a.sp[k].gr] 50)).cell? ⟨w.heap.size, 7, none⟩ = some (.int .i64 a.plan.group) ∧ (wc.alloc (.cells #[.string a.sp[k].fr, .string a.sp[k].to, .int .i64 a.sp[k].sh, .int .i64 a.sp[k].ep, .int .i64 a.sp[k].gr] 50)).cell? ⟨w.heap.size, 8, none⟩ = some (.int .i64 a.plan.past) ∧ (wc.alloc (.cells #[.string a.sp[k].fr, .string a.sp[k].to, .int .i64 a.sp[k].sh, .int .i64 a.sp[k].ep, .int .i64 a.sp[k].gr] 50)).cell? ⟨w.heap.size, 9, none⟩ = some (.int .i64 a.plan.epoch) ∧ (wc.alloc (.cells #[.string a.sp[k].fr, .string a.sp[k].to, .int .i64 a.sp[k].sh, .int .i64 a.sp[k].ep, .int .i64 a.sp[k].gr] 50)).cell? ⟨w.heap.size, 10, none⟩ = some (.string a.plan.key) ∧ (wc.alloc (.cells #[.string a.sp[k].fr, .string a.sp[k].to, .int .i64 a.sp[k].sh, .int .i64 a.sp[k].ep, .int .i64 a.sp[k].gr] 50)).cell? ⟨b, off + k * 5, none⟩ = some (.string a.sp[k].fr) from hr3)
             have hbw : Below wr.heap.size wr (wc.alloc (.cells #[.string a.sp[k].fr, .string a.sp[k].to, .int .i64 a.sp[k].sh, .int .i64 a.sp[k].ep, .int .i64 a.sp[k].gr] 50)) := hbc'.trans ((al (w := wc) a.sp[k].blk).mono hbc'.size)
             have hsw : (wc.alloc (.cells #[.string a.sp[k].fr, .string a.sp[k].to, .int .i64 a.sp[k].sh, .int .i64 a.sp[k].ep, .int .i64 a.sp[k].gr] 50)).heap[wc.heap.size]? = some a.sp[k].blk := heap_alloc_new wc _
             have Hbw := Lib.hid hbw; have Hsw := Lib.hid hsw
             clear hr1 hr2 hr3 hbc hbc' hbw hsw)
          | (go_at_call 30
             refine (HF.out (wr.alloc (.cells #[.string ⟨#[]⟩, .string ⟨#[]⟩, .int .i64 0, .int .i64 0, .int .i64 0] 50)).drew ((HI.out.below HBr.out).below Hbz.out)).mono ?_
             rintro e wc ⟨rfl, hbc⟩
             have hbc' : Below wr.heap.size wr wc := Hbz.out.trans (hbc.mono Hbz.out.size)
             have hr1 : RoundCells w.heap.size b (off + k * 5) a (.slice (some ⟨b, off, none⟩) a.sp.length cap) a.sp[k].fr wc := RoundCells.below (w := (wr.alloc (.cells #[.string ⟨#[]⟩, .string ⟨#[]⟩, .int .i64 0, .int .i64 0, .int .i64 0] 50)).drew) HRz.out hbc (Nat.lt_of_lt_of_le mlt Hbz.out.size) (Nat.lt_of_lt_of_le blt Hbz.out.size)
             have HR1 := Lib.hid (show wc.cell? ⟨w.heap.size, 0, none⟩ = some (.int .i64 a.groups) ∧ wc.cell? ⟨w.heap.size, 1, none⟩ = some (.int .i64 a.last) ∧ wc.cell? ⟨w.heap.size, 2, none⟩ = some (.slice (some ⟨b, off, none⟩) a.sp.length cap) ∧ wc.cell? ⟨w.heap.size, 3, none⟩ = some (.int .i64 a.plan.kind) ∧ wc.cell? ⟨w.heap.size, 4, none⟩ = some (.int .i64 a.plan.phase) ∧ wc.cell? ⟨w.heap.size, 5, none⟩ = some (.int .i64 a.plan.shard) ∧ wc.cell? ⟨w.heap.size, 6, none⟩ = some (.int .i64 a.plan.other) ∧ wc.cell? ⟨w.heap.size, 7, none⟩ = some (.int .i64 a.plan.group) ∧ wc.cell? ⟨w.heap.size, 8, none⟩ = some (.int .i64 a.plan.past) ∧ wc.cell? ⟨w.heap.size, 9, none⟩ = some (.int .i64 a.plan.epoch) ∧ wc.cell? ⟨w.heap.size, 10, none⟩ = some (.string a.plan.key) ∧ wc.cell? ⟨b, off + k * 5, none⟩ = some (.string a.sp[k].fr) from hr1)
             have hzc := blk_below hbc (lt_of_some Hzz.out) Hzz.out
             obtain ⟨z0, z1, z2, z3, z4, zlt⟩ := span_blk hzc
             have fz0 := fz_blk hzc 0; have fz1 := fz_blk hzc 1; have fz2 := fz_blk hzc 2; have fz3 := fz_blk hzc 3; have fz4 := fz_blk hzc 4
             simp only [zeroS] at z0 z1 z2 z3 z4
             have hon : Only (· = wr.heap.size) wc (((((wc.setCell ⟨wr.heap.size, 0, none⟩ (.string a.sp[k].fr)).setCell ⟨wr.heap.size, 1, none⟩ (.string a.sp[k].to)).setCell ⟨wr.heap.size, 2, none⟩ (.int .i64 a.sp[k].sh)).setCell ⟨wr.heap.size, 3, none⟩ (.int .i64 a.sp[k].ep)).setCell ⟨wr.heap.size, 4, none⟩ (.int .i64 a.sp[k].gr)) := (((((only_setCell wc ⟨wr.heap.size, 0, none⟩ (.string a.sp[k].fr)).trans (only_setCell (wc.setCell ⟨wr.heap.size, 0, none⟩ (.string a.sp[k].fr)) ⟨wr.heap.size, 1, none⟩ (.string a.sp[k].to)) (fun _ _ h => h)).trans (only_setCell ((wc.setCell ⟨wr.heap.size, 0, none⟩ (.string a.sp[k].fr)).setCell ⟨wr.heap.size, 1, none⟩ (.string a.sp[k].to)) ⟨wr.heap.size, 2, none⟩ (.int .i64 a.sp[k].sh)) (fun _ _ h => h)).trans (only_setCell (((wc.setCell ⟨wr.heap.size, 0, none⟩ (.string a.sp[k].fr)).setCell ⟨wr.heap.size, 1, none⟩ (.string a.sp[k].to)).setCell ⟨wr.heap.size, 2, none⟩ (.int .i64 a.sp[k].sh)) ⟨wr.heap.size, 3, none⟩ (.int .i64 a.sp[k].ep)) (fun _ _ h => h)).trans (only_setCell ((((wc.setCell ⟨wr.heap.size, 0, none⟩ (.string a.sp[k].fr)).setCell ⟨wr.heap.size, 1, none⟩ (.string a.sp[k].to)).setCell ⟨wr.heap.size, 2, none⟩ (.int .i64 a.sp[k].sh)).setCell ⟨wr.heap.size, 3, none⟩ (.int .i64 a.sp[k].ep)) ⟨wr.heap.size, 4, none⟩ (.int .i64 a.sp[k].gr)) (fun _ _ h => h))
             have hr2 : RoundCells w.heap.size b (off + k * 5) a (.slice (some ⟨b, off, none⟩) a.sp.length cap) a.sp[k].fr (((((wc.setCell ⟨wr.heap.size, 0, none⟩ (.string a.sp[k].fr)).setCell ⟨wr.heap.size, 1, none⟩ (.string a.sp[k].to)).setCell ⟨wr.heap.size, 2, none⟩ (.int .i64 a.sp[k].sh)).setCell ⟨wr.heap.size, 3, none⟩ (.int .i64 a.sp[k].ep)).setCell ⟨wr.heap.size, 4, none⟩ (.int .i64 a.sp[k].gr)) := hr1.below (hon.below (B := wr.heap.size) (Below.refl _ _) (fun q hq => by omega) hbc'.size) mlt blt
             have HR2 := Lib.hid (show (((((wc.setCell ⟨wr.heap.size, 0, none⟩ (.string a.sp[k].fr)).setCell ⟨wr.heap.size, 1, none⟩ (.string a.sp[k].to)).setCell ⟨wr.heap.size, 2, none⟩ (.int .i64 a.sp[k].sh)).setCell ⟨wr.heap.size, 3, none⟩ (.int .i64 a.sp[k].ep)).setCell ⟨wr.heap.size, 4, none⟩ (.int .i64 a.sp[k].gr)).cell? ⟨w.heap.size, 0, none⟩ = some (.int .i64 a.groups) ∧ (((((wc.setCell ⟨wr.heap.size, 0, none⟩ (.string a.sp[k].fr)).setCell ⟨wr.heap.size, 1, none⟩ (.string a.sp[k].to)).setCell ⟨wr.heap.size, 2, none⟩ (.int .i64 a.sp[k].sh)).setCell ⟨wr.heap.size, 3, none⟩ (.int .i64 a.sp[k].ep)).setCell ⟨wr.heap.size, 4, none⟩ (.int .i64 a.sp[k].gr)).cell? ⟨w.heap.size, 1, none⟩ = some (.int .i64 a.last) ∧ (((((wc.setCell ⟨wr.heap.size, 0, none⟩ (.string a.sp[k].fr)).setCell ⟨wr.heap.size, 1, none⟩ (.string a.sp[k].to)).setCell ⟨wr.heap.size, 2, none⟩ (.int .i64 a.sp[k].sh)).setCell ⟨wr.heap.size, 3, none⟩ (.int .i64 a.sp[k].ep)).setCell ⟨wr.heap.size, 4, none⟩ (.int .i64 a.sp[k].gr)).cell? ⟨w.heap.size, 2, none⟩ = some (.slice (some ⟨b, off, none⟩) a.sp.length cap) ∧ (((((wc.setCell ⟨wr.heap.size, 0, none⟩ (.string a.sp[k].fr)).setCell ⟨wr.heap.size, 1, none⟩ (.string a.sp[k].to)).setCell ⟨wr.heap.size, 2, none⟩ (.int .i64 a.sp[k].sh)).setCell ⟨wr.heap.size, 3, none⟩ (.int .i64 a.sp[k].ep)).setCell ⟨wr.heap.size, 4, none⟩ (.int .i64 a.sp[k].gr)).cell? ⟨w.heap.size, 3, none⟩ = some (.int .i64 a.plan.kind) ∧ (((((wc.setCell ⟨wr.heap.size, 0, none⟩ (.string a.sp[k].fr)).setCell ⟨wr.heap.size, 1, none⟩ (.string a.sp[k].to)).setCell ⟨wr.heap.size, 2, none⟩ (.int .i64 a.sp[k].sh)).setCell ⟨wr.heap.size, 3, none⟩ (.int .i64 a.sp[k].ep)).setCell ⟨wr.heap.size, 4, none⟩ (.int .i64 a.sp[k].gr)).cell? ⟨w.heap.size, 4, none⟩ = some (.int .i64 a.plan.phase) ∧ (((((wc.setCell ⟨wr.heap.size, 0, none⟩ (.string a.sp[k].fr)).setCell ⟨wr.heap.size, 1, none⟩ (.string a.sp[k].to)).setCell ⟨wr.heap.size, 2, none⟩ (.int .i64 a.sp[k].sh)).setCell ⟨wr.heap.size, 3, none⟩ (.int .i64 a.sp[k].ep)).setCell ⟨wr.heap.size, 4, none⟩ (.int .i64 a.sp[k].gr)).cell? ⟨w.heap.size, 5, none⟩ = some (.int .i64 a.plan.shard) ∧ (((((wc.setCell ⟨wr.heap.size, 0, none⟩ (.string a.sp[k].fr)).setCell ⟨wr.heap.size, 1, none⟩ (.string a.sp[k].to)).setCell ⟨wr.heap.size, 2, none⟩ (.int .i64 a.sp[k].sh)).setCell ⟨wr.heap.size, 3, none⟩ (.int .i64 a.sp[k].ep)).setCell ⟨wr.heap.size, 4, none⟩ (.int .i64 a.sp[k].gr)).cell? ⟨w.heap.size, 6, none⟩ = some (.int .i64 a.plan.other) ∧ (((((wc.setCell ⟨wr.heap.size, 0, none⟩ (.string a.sp[k].fr)).setCell ⟨wr.heap.size, 1, none⟩ (.string a.sp[k].to)).setCell ⟨wr.heap.size, 2, none⟩ (.int .i64 a.sp[k].sh)).setCell ⟨wr.heap.size, 3, none⟩ (.int .i64 a.sp[k].ep)).setCell ⟨wr.heap.size, 4, none⟩ (.int .i64 a.sp[k].gr)).cell? ⟨w.heap.size, 7, none⟩ = some (.int .i64 a.plan.group) ∧ (((((wc.setCell ⟨wr.heap.size, 0, none⟩ (.string a.sp[k].fr)).setCell ⟨wr.heap.size, 1, none⟩ (.string a.sp[k].to)).setCell ⟨wr.heap.size, 2, none⟩ (.int .i64 a.sp[k].sh)).setCell ⟨wr.heap.size, 3, none⟩ (.int .i64 a.sp[k].ep)).setCell ⟨wr.heap.size, 4, none⟩ (.int .i64 a.sp[k].gr)).cell? ⟨w.heap.size, 8, none⟩ = some (.int .i64 a.plan.past) ∧ (((((wc.setCell ⟨wr.heap.size, 0, none⟩ (.string a.sp[k].fr)).setCell ⟨wr.heap.size, 1, none⟩ (.string a.sp[k].to)).setCell ⟨wr.heap.size, 2, none⟩ (.int .i64 a.sp[k].sh)).setCell ⟨wr.heap.size, 3, none⟩ (.int .i64 a.sp[k].ep)).setCell ⟨wr.heap.size, 4, none⟩ (.int .i64 a.sp[k].gr)).cell? ⟨w.heap.size, 9, none⟩ = some (.int .i64 a.plan.epoch) ∧ (((((wc.setCell ⟨wr.heap.size, 0, none⟩ (.string a.sp[k].fr)).setCell ⟨wr.heap.size, 1, none⟩ (.string a.sp[k].to)).setCell ⟨wr.heap.size, 2, none⟩ (.int .i64 a.sp[k].sh)).setCell ⟨wr.heap.size, 3, none⟩ (.int .i64 a.sp[k].ep)).setCell ⟨wr.heap.size, 4, none⟩ (.int .i64 a.sp[k].gr)).cell? ⟨w.heap.size, 10, none⟩ = some (.string a.plan.key) ∧ (((((wc.setCell ⟨wr.heap.size, 0, none⟩ (.string a.sp[k].fr)).setCell ⟨wr.heap.size, 1, none⟩ (.string a.sp[k].to)).setCell ⟨wr.heap.size, 2, none⟩ (.int .i64 a.sp[k].sh)).setCell ⟨wr.heap.size, 3, none⟩ (.int .i64 a.sp[k].ep)).setCell ⟨wr.heap.size, 4, none⟩ (.int .i64 a.sp[k].gr)).cell? ⟨b, off + k * 5, none⟩ = some (.string a.sp[k].fr) from hr2)
             have HR3 := HR2
             have hbw : Below wr.heap.size wr (((((wc.setCell ⟨wr.heap.size, 0, none⟩ (.string a.sp[k].fr)).setCell ⟨wr.heap.size, 1, none⟩ (.string a.sp[k].to)).setCell ⟨wr.heap.size, 2, none⟩ (.int .i64 a.sp[k].sh)).setCell ⟨wr.heap.size, 3, none⟩ (.int .i64 a.sp[k].ep)).setCell ⟨wr.heap.size, 4, none⟩ (.int .i64 a.sp[k].gr)) := hon.below hbc' (fun q hq => by omega) hbc'.size
             have hsw : (((((wc.setCell ⟨wr.heap.size, 0, none⟩ (.string a.sp[k].fr)).setCell ⟨wr.heap.size, 1, none⟩ (.string a.sp[k].to)).setCell ⟨wr.heap.size, 2, none⟩ (.int .i64 a.sp[k].sh)).setCell ⟨wr.heap.size, 3, none⟩ (.int .i64 a.sp[k].ep)).setCell ⟨wr.heap.size, 4, none⟩ (.int .i64 a.sp[k].gr)).heap[wr.heap.size]? = some a.sp[k].blk := by
               have := (heap_setCell_at (i := 4) (heap_setCell_at (i := 3) (heap_setCell_at (i := 2) (heap_setCell_at (i := 1) (heap_setCell_at (i := 0) hzc (.string a.sp[k].fr)) (.string a.sp[k].to)) (.int .i64 a.sp[k].sh)) (.int .i64 a.sp[k].ep)) (.int .i64 a.sp[k].gr))
               refine (show _ = _ from this).trans ?_
               simp only [Span.blk, zeroS, List.setIfInBounds_toArray, List.set_cons_zero, List.set_cons_succ]
             have Hbw := Lib.hid hbw; have Hsw := Lib.hid hsw
             clear hr1 hr2 hbc hbc' hbw hsw hzc hon))
      all_goals
        clear m0 m1 m2 m3 m4 m5 m6 m7 m8 m9 m10 mlt p0 p1 p2 p3 p4
        obtain ⟨s0, s1, s2, s3, s4, slt⟩ := span_blk Hsw.out
        obtain ⟨m0, m1, m2, m3, m4, m5, m6, m7, m8, m9, m10, mlt⟩ := map_cells (blk_below Hbw.out (lt_of_some HXr.out) HXr.out)
        obtain ⟨_, _, he, blt2, p0, p1, p2, p3, p4⟩ := span_cells ((HI.out.below HBr.out).below Hbw.out).row k hlt
        injection he with he
        injection he with hx1 hx2
        subst hx1; subst hx2
        go_wp2_with fail
        go_quiet (fail)
        go_wp2_with fail
        go_roundw
        case rel => exact ⟨k + 1, by omega, by omega, by go_num, below_drewN Hbel.out Hbw.out _⟩
        case measure => simp [intOf]; omega
    · go_wp2
      go_ret
      exact ⟨rfl, hBr⟩
set_option maxRecDepth 100000 in
set_option maxHeartbeats 8000000 in
theorem finds_st (w : World) (A : Option Addr) (cap : Nat) (a : Atl) (x y z : ByteArray) (h : MapIn w A cap a) (hfr : ∀ s ∈ a.sp, s.fr.size ≤ 9223372036854775807) (S T U : Span) (o1 o2 o3 : Bool) (h1 : FoundIs A cap a x S o1) (h2 : FoundIs A cap a z T o2) (h3 : FoundIs A cap a y U o3) (hm : tr (MapOk a) = true) (q1 : o1 = true) (q2 : o2 = true) (q3 : o3 = true) (la : (Op.bytesLess x.toList y.toList || x.toList == y.toList) = true) (lb : Op.bytesLess x.toList y.toList = true ∨ x.toList = y.toList) (ma : (Op.bytesLess y.toList z.toList || y.toList == z.toList) = true) (mb : Op.bytesLess y.toList z.toList = true ∨ y.toList = z.toList) (l3 : eqS S.sh T.sh S.ep T.ep S.gr T.gr S.fr T.fr S.to T.to = false) :
    Calls Try.prog 11 #[a.val (.slice A a.sp.length cap), .string x, .string y, .string z] w fun e w' => e = .returned (.bool true) ∧ Below w.heap.size w w' := by
  subst q1
  subst q2
  subst q3
  have Hla := Lib.hid la
  have Hlb := Lib.hid lb
  have Hma := Lib.hid ma
  have Hmb := Lib.hid mb
  have Hl3 := Lib.hid l3
  clear la lb ma mb l3
  have hC1 := fun w h => check_any w A cap a h
  rw [hm] at hC1
  have H1 := Lib.hid h1; have H2 := Lib.hid h2; have H3 := Lib.hid h3; have HC := Lib.hid hC1; have HI := Lib.hid h; have Hfr := Lib.hid hfr; have Hm := Lib.hid hm
  clear h1 h2 h3 hC1 h hfr hm
  go_enter Try.func11, Try.ntmps11
  go_upto_region 1 with fail
  change Code.wp _ _ _ _ (w.alloc (a.blk (.slice A a.sp.length cap)))
  have hX0 := heap_alloc_new w (a.blk (.slice A a.sp.length cap))
  have hB0 : Below w.heap.size w (w.alloc (a.blk (.slice A a.sp.length cap))) := al _
  generalize w.alloc (a.blk (.slice A a.sp.length cap)) = w0 at *
  have HX0 := Lib.hid hX0; have HB0 := Lib.hid hB0
  clear hX0 hB0
  go_upto_region 3 with (go_at_call 13
                         refine (awakeA _).mono ?_
                         rintro e w1 ⟨rfl, hb1⟩
                         have HX1 := Lib.hid (blk_below hb1 (lt_of_some HX0.out) HX0.out)
                         have HB1 := Lib.hid (HB0.out.trans (hb1.mono HB0.out.size))
                         clear hb1)
  refine wp_region_lit ?_
  refine wpList_load26 rfl (.tmp 4) rfl (w.heap.size) rfl HX1.out ?_
  simp only [Act.put, List.setIfInBounds_toArray, List.set_cons_zero, List.set_cons_succ]
  refine wpList_step (fun K hK => ?_)
  go_simp
  refine hK _ _ ?_
  clear hK K
  refine wpList_step (fun K hK => ?_)
  go_simp
  go_at_call 30
  refine (H1.out _ (HI.out.below HB1.out)).mono ?_
  rintro e w2 ⟨rfl, hb2⟩
  refine hK _ _ ?_
  clear hK K
  refine wpList_step (fun K hK => ?_)
  go_simp
  refine hK _ _ ?_
  clear hK K
  refine wpList_step (fun K hK => ?_)
  go_simp
  refine hK _ _ ?_
  clear hK K
  refine wpList_step (fun K hK => ?_)
  go_simp
  refine hK _ _ ?_
  clear hK K
  refine wpList_step (fun K hK => ?_)
  go_simp
  refine hK _ _ ?_
  clear hK K
  refine wpList_store50 rfl (.tmp 9) (.tmp 24) rfl w2.heap.size rfl (p := S) (p0 := zeroS) rfl (heap_alloc_new w2 _) ?_
  intro w3 hS ho
  simp only [Act.put, List.setIfInBounds_toArray, List.set_cons_zero, List.set_cons_succ]
  have hb : Below w2.heap.size w2 w3 := ho.below (al _) (fun k hk => by omega) (by simp)
  have hbx : Below w1.heap.size w1 w3 := hb2.trans (hb.mono hb2.size)
  have HX3 := Lib.hid (blk_below hbx (lt_of_some HX1.out) HX1.out)
  have HB3 := Lib.hid (HB1.out.trans (hbx.mono HB1.out.size))
  have HS3 := Lib.hid hS
  clear hb2 hb hbx hS ho
  go_upto_region 4 with fail
  refine wp_region_lit ?_
  refine wpList_load26 rfl (.tmp 4) rfl (w.heap.size) rfl HX3.out ?_
  simp only [Act.put, List.setIfInBounds_toArray, List.set_cons_zero, List.set_cons_succ]
  refine wpList_step (fun K hK => ?_)
  go_simp
  refine hK _ _ ?_
  clear hK K
  refine wpList_step (fun K hK => ?_)
  go_simp
  go_at_call 30
  refine (H2.out _ (HI.out.below HB3.out)).mono ?_
  rintro e w4 ⟨rfl, hb4⟩
  refine hK _ _ ?_
  clear hK K
  refine wpList_step (fun K hK => ?_)
  go_simp
  refine hK _ _ ?_
  clear hK K
  refine wpList_step (fun K hK => ?_)
  go_simp
  refine hK _ _ ?_
  clear hK K
  refine wpList_step (fun K hK => ?_)
  go_simp
  refine hK _ _ ?_
  clear hK K
  refine wpList_step (fun K hK => ?_)
  go_simp
  refine hK _ _ ?_
  clear hK K
  refine wpList_store50 rfl (.tmp 11) (.tmp 30) rfl w4.heap.size rfl (p := T) (p0 := zeroS) rfl (heap_alloc_new w4 _) ?_
  intro w5 hT ho
  simp only [Act.put, List.setIfInBounds_toArray, List.set_cons_zero, List.set_cons_succ]
  have hb : Below w4.heap.size w4 w5 := ho.below (al _) (fun k hk => by omega) (by simp)
  have hbx : Below w3.heap.size w3 w5 := hb4.trans (hb.mono hb4.size)
  have HX5 := Lib.hid (blk_below hbx (lt_of_some HX3.out) HX3.out)
  have HB5 := Lib.hid (HB3.out.trans (hbx.mono HB3.out.size))
  have HS5 := Lib.hid (blk_below hbx (lt_of_some HS3.out) HS3.out)
  have HT5 := Lib.hid hT
  clear hb4 hb hbx hT ho
  go_upto_region 5 with fail
  refine wp_region_lit ?_
  refine wpList_load26 rfl (.tmp 4) rfl (w.heap.size) rfl HX5.out ?_
  simp only [Act.put, List.setIfInBounds_toArray, List.set_cons_zero, List.set_cons_succ]
  refine wpList_step (fun K hK => ?_)
  go_simp
  refine hK _ _ ?_
  clear hK K
  refine wpList_step (fun K hK => ?_)
  go_simp
  go_at_call 30
  refine (H3.out _ (HI.out.below HB5.out)).mono ?_
  rintro e w6 ⟨rfl, hb6⟩
  refine hK _ _ ?_
  clear hK K
  refine wpList_step (fun K hK => ?_)
  go_simp
  refine hK _ _ ?_
  clear hK K
  refine wpList_step (fun K hK => ?_)
  go_simp
  refine hK _ _ ?_
  clear hK K
  refine wpList_step (fun K hK => ?_)
  go_simp
  refine hK _ _ ?_
  clear hK K
  refine wpList_step (fun K hK => ?_)
  go_simp
  refine hK _ _ ?_
  clear hK K
  refine wpList_store50 rfl (.tmp 13) (.tmp 36) rfl w6.heap.size rfl (p := U) (p0 := zeroS) rfl (heap_alloc_new w6 _) ?_
  intro w7 hU ho
  simp only [Act.put, List.setIfInBounds_toArray, List.set_cons_zero, List.set_cons_succ]
  have hb : Below w6.heap.size w6 w7 := ho.below (al _) (fun k hk => by omega) (by simp)
  have hbx : Below w5.heap.size w5 w7 := hb6.trans (hb.mono hb6.size)
  have HX7 := Lib.hid (blk_below hbx (lt_of_some HX5.out) HX5.out)
  have HB7 := Lib.hid (HB5.out.trans (hbx.mono HB5.out.size))
  have HS7 := Lib.hid (blk_below hbx (lt_of_some HS5.out) HS5.out)
  have HT7 := Lib.hid (blk_below hbx (lt_of_some HT5.out) HT5.out)
  have HU7 := Lib.hid hU
  clear hb6 hb hbx hU ho
  go_upto_region 6 with fail
  obtain ⟨s0, s1, s2, s3, s4, slt⟩ := span_blk HS7.out
  obtain ⟨t0, t1, t2, t3, t4, tlt⟩ := span_blk HT7.out
  obtain ⟨u0, u1, u2, u3, u4, ult⟩ := span_blk HU7.out
  obtain ⟨m0, m1, m2, m3, m4, m5, m6, m7, m8, m9, m10, mlt⟩ := map_cells HX7.out
  have la := Hla.out
  have lb := Hlb.out
  have ma := Hma.out
  have mb := Hmb.out
  have l3 := Hl3.out
  go_upto_region 10 with (go_at_call 29
                          refine (HC.out _ (HI.out.below HB7.out)).mono ?_
                          rintro e w8 ⟨rfl, hb8⟩
                          have HX8 := Lib.hid (blk_below hb8 (lt_of_some HX7.out) HX7.out)
                          have HB8 := Lib.hid (HB7.out.trans (hb8.mono HB7.out.size))
                          clear hb8)
  clear s0 s1 s2 s3 s4 slt t0 t1 t2 t3 t4 tlt u0 u1 u2 u3 u4 ult m0 m1 m2 m3 m4 m5 m6 m7 m8 m9 m10 mlt
  have hm := of_tr Hm.out
  have h16 : a.sp.length ≤ 16 := hm.2.2.2.1.1
  obtain ⟨b, off, rfl⟩ : ∃ b off, A = some ⟨b, off, none⟩ := by
    obtain ⟨b, off, hA, _⟩ := span_cells HI.out.row 0 hm.2.2.2.1.2.1
    exact ⟨b, off, hA⟩
  have Hmk := Lib.hid hm
  clear hm
  go_wp2_with fail
  go_loopw [15] (fun v wr => ∃ k : Nat, 1 ≤ k ∧ k ≤ a.sp.length ∧ v = .int .i64 k ∧ Below w8.heap.size w8 wr) (fun v _ => a.sp.length - (intOf v).toNat)
  case atStart => exact ⟨1, Nat.le_refl _, Hmk.out.2.2.2.1.2.1, rfl, Below.refl _ _⟩
  case round =>
    obtain ⟨k, hk0, hk, rfl, hbel⟩ := hrel
    have hXr := blk_below hbel (lt_of_some HX8.out) HX8.out
    have hBr := HB8.out.trans (hbel.mono HB8.out.size)
    obtain ⟨m0, m1, m2, m3, m4, m5, m6, m7, m8, m9, m10, mlt⟩ := map_cells hXr
    have hw1 : IntKind.i64.wrap ((k : Int) + 1) = (k : Int) + 1 := IntWalk.i64_in _ (by omega)
    by_cases hlt : k < a.sp.length
    · obtain ⟨_, _, he, blt, p0, p1, p2, p3, p4⟩ := span_cells (HI.out.below hBr).row k hlt
      injection he with he
      injection he with hx1 hx2
      subst hx1; subst hx2
      have hk1 : (0 : Int) ≤ (k : Int) := by omega
      have hk2 : (k : Int) < (a.sp.length : Int) := by omega
      have hf : FoundIs (some ⟨b, off, none⟩) cap a a.sp[k].fr a.sp[k] true := fun w h => find_some w _ cap a a.sp[k].fr k h Hm.out (Hfr.out _ (List.getElem_mem hlt)) (by
        have := (sp_next Hmk.out.2.2.2.1 (k - 1) (by omega)).2
        simpa only [show k - 1 + 1 = k by omega] using this) hlt (found_self Hmk.out.2.2.2.1 k hlt)
      have HF := Lib.hid hf; have HBr := Lib.hid hBr; have HXr := Lib.hid hXr; have Hbel := Lib.hid hbel
      go_wp2_with fail
      have hr0 : RoundCells w.heap.size b (off + k * 5) a (.slice (some ⟨b, off, none⟩) a.sp.length cap) a.sp[k].fr wr := ⟨m0, m1, m2, m3, m4, m5, m6, m7, m8, m9, m10, p0⟩
      have HR0 := Lib.hid (show wr.drew.cell? ⟨w.heap.size, 0, none⟩ = some (.int .i64 a.groups) ∧ wr.drew.cell? ⟨w.heap.size, 1, none⟩ = some (.int .i64 a.last) ∧ wr.drew.cell? ⟨w.heap.size, 2, none⟩ = some (.slice (some ⟨b, off, none⟩) a.sp.length cap) ∧ wr.drew.cell? ⟨w.heap.size, 3, none⟩ = some (.int .i64 a.plan.kind) ∧ wr.drew.cell? ⟨w.heap.size, 4, none⟩ = some (.int .i64 a.plan.phase) ∧ wr.drew.cell? ⟨w.heap.size, 5, none⟩ = some (.int .i64 a.plan.shard) ∧ wr.drew.cell? ⟨w.heap.size, 6, none⟩ = some (.int .i64 a.plan.other) ∧ wr.drew.cell? ⟨w.heap.size, 7, none⟩ = some (.int .i64 a.plan.group) ∧ wr.drew.cell? ⟨w.heap.size, 8, none⟩ = some (.int .i64 a.plan.past) ∧ wr.drew.cell? ⟨w.heap.size, 9, none⟩ = some (.int .i64 a.plan.epoch) ∧ wr.drew.cell? ⟨w.heap.size, 10, none⟩ = some (.string a.plan.key) ∧ wr.drew.cell? ⟨b, off + k * 5, none⟩ = some (.string a.sp[k].fr) from hr0)
      have hrz : RoundCells w.heap.size b (off + k * 5) a (.slice (some ⟨b, off, none⟩) a.sp.length cap) a.sp[k].fr (wr.alloc zeroS.blk) := hr0.below (al _) mlt blt
      have HRz := Lib.hid (show (wr.alloc (.cells #[.string ⟨#[]⟩, .string ⟨#[]⟩, .int .i64 0, .int .i64 0, .int .i64 0] 50)).drew.cell? ⟨w.heap.size, 0, none⟩ = some (.int .i64 a.groups) ∧ (wr.alloc (.cells #[.string ⟨#[]⟩, .string ⟨#[]⟩, .int .i64 0, .int .i64 0, .int .i64 0] 50)).drew.cell? ⟨w.heap.size, 1, none⟩ = some (.int .i64 a.last) ∧ (wr.alloc (.cells #[.string ⟨#[]⟩, .string ⟨#[]⟩, .int .i64 0, .int .i64 0, .int .i64 0] 50)).drew.cell? ⟨w.heap.size, 2, none⟩ = some (.slice (some ⟨b, off, none⟩) a.sp.length cap) ∧ (wr.alloc (.cells #[.string ⟨#[]⟩, .string ⟨#[]⟩, .int .i64 0, .int .i64 0, .int .i64 0] 50)).drew.cell? ⟨w.heap.size, 3, none⟩ = some (.int .i64 a.plan.kind) ∧ (wr.alloc (.cells #[.string ⟨#[]⟩, .string ⟨#[]⟩, .int .i64 0, .int .i64 0, .int .i64 0] 50)).drew.cell? ⟨w.heap.size, 4, none⟩ = some (.int .i64 a.plan.phase) ∧ (wr.alloc (.cells #[.string ⟨#[]⟩, .string ⟨#[]⟩, .int .i64 0, .int .i64 0, .int .i64 0] 50)).drew.cell? ⟨w.heap.size, 5, none⟩ = some (.int .i64 a.plan.shard) ∧ (wr.alloc (.cells #[.string ⟨#[]⟩, .string ⟨#[]⟩, .int .i64 0, .int .i64 0, .int .i64 0] 50)).drew.cell? ⟨w.heap.size, 6, none⟩ = some (.int .i64 a.plan.other) ∧ (wr.alloc (.cells #[.string ⟨#[]⟩, .string ⟨#[]⟩, .int .i64 0, .int .i64 0, .int .i64 0] 50)).drew.cell? ⟨w.heap.size, 7, none⟩ = some (.int .i64 a.plan.group) ∧ (wr.alloc (.cells #[.string ⟨#[]⟩, .string ⟨#[]⟩, .int .i64 0, .int .i64 0, .int .i64 0] 50)).drew.cell? ⟨w.heap.size, 8, none⟩ = some (.int .i64 a.plan.past) ∧ (wr.alloc (.cells #[.string ⟨#[]⟩, .string ⟨#[]⟩, .int .i64 0, .int .i64 0, .int .i64 0] 50)).drew.cell? ⟨w.heap.size, 9, none⟩ = some (.int .i64 a.plan.epoch) ∧ (wr.alloc (.cells #[.string ⟨#[]⟩, .string ⟨#[]⟩, .int .i64 0, .int .i64 0, .int .i64 0] 50)).drew.cell? ⟨w.heap.size, 10, none⟩ = some (.string a.plan.key) ∧ (wr.alloc (.cells #[.string ⟨#[]⟩, .string ⟨#[]⟩, .int .i64 0, .int .i64 0, .int .i64 0] 50)).drew.cell? ⟨b, off + k * 5, none⟩ = some (.string a.sp[k].fr) from hrz)
      have hbz : Below wr.heap.size wr (wr.alloc (.cells #[.string ⟨#[]⟩, .string ⟨#[]⟩, .int .i64 0, .int .i64 0, .int .i64 0] 50)).drew := (al (w := wr) zeroS.blk).drew
      have hzz : (wr.alloc (.cells #[.string ⟨#[]⟩, .string ⟨#[]⟩, .int .i64 0, .int .i64 0, .int .i64 0] 50)).drew.heap[wr.heap.size]? = some zeroS.blk := heap_alloc_new wr _
      have Hbz := Lib.hid hbz; have Hzz := Lib.hid hzz
      clear hf hBr hXr hbel hrz hbz hzz hr0
      go_region_held3 (fun w' => w'.cell? ⟨w.heap.size, 0, none⟩ = some (.int .i64 a.groups) ∧ w'.cell? ⟨w.heap.size, 1, none⟩ = some (.int .i64 a.last) ∧ w'.cell? ⟨w.heap.size, 2, none⟩ = some (.slice (some ⟨b, off, none⟩) a.sp.length cap) ∧ w'.cell? ⟨w.heap.size, 3, none⟩ = some (.int .i64 a.plan.kind) ∧ w'.cell? ⟨w.heap.size, 4, none⟩ = some (.int .i64 a.plan.phase) ∧ w'.cell? ⟨w.heap.size, 5, none⟩ = some (.int .i64 a.plan.shard) ∧ w'.cell? ⟨w.heap.size, 6, none⟩ = some (.int .i64 a.plan.other) ∧ w'.cell? ⟨w.heap.size, 7, none⟩ = some (.int .i64 a.plan.group) ∧ w'.cell? ⟨w.heap.size, 8, none⟩ = some (.int .i64 a.plan.past) ∧ w'.cell? ⟨w.heap.size, 9, none⟩ = some (.int .i64 a.plan.epoch) ∧ w'.cell? ⟨w.heap.size, 10, none⟩ = some (.string a.plan.key) ∧ w'.cell? ⟨b, off + k * 5, none⟩ = some (.string a.sp[k].fr))
        (first | with_reducible exact HR0.out | with_reducible exact HRz.out | with_reducible exact HR1.out | with_reducible exact HR2.out | with_reducible exact HR3.out)
        (first
          | (go_at_call 30
             refine (HF.out wr.drew ((HI.out.below HBr.out).below ((Below.refl _ wr).drew))).mono ?_
             rintro e wc ⟨rfl, hbc⟩
             have hbc' : Below wr.heap.size wr wc := ((Below.refl _ wr).drew).trans hbc
             have hr1 : RoundCells w.heap.size b (off + k * 5) a (.slice (some ⟨b, off, none⟩) a.sp.length cap) a.sp[k].fr wc := RoundCells.below (w := wr.drew) HR0.out hbc mlt blt
             have HR1 := Lib.hid (show wc.cell? ⟨w.heap.size, 0, none⟩ = some (.int .i64 a.groups) ∧ wc.cell? ⟨w.heap.size, 1, none⟩ = some (.int .i64 a.last) ∧ wc.cell? ⟨w.heap.size, 2, none⟩ = some (.slice (some ⟨b, off, none⟩) a.sp.length cap) ∧ wc.cell? ⟨w.heap.size, 3, none⟩ = some (.int .i64 a.plan.kind) ∧ wc.cell? ⟨w.heap.size, 4, none⟩ = some (.int .i64 a.plan.phase) ∧ wc.cell? ⟨w.heap.size, 5, none⟩ = some (.int .i64 a.plan.shard) ∧ wc.cell? ⟨w.heap.size, 6, none⟩ = some (.int .i64 a.plan.other) ∧ wc.cell? ⟨w.heap.size, 7, none⟩ = some (.int .i64 a.plan.group) ∧ wc.cell? ⟨w.heap.size, 8, none⟩ = some (.int .i64 a.plan.past) ∧ wc.cell? ⟨w.heap.size, 9, none⟩ = some (.int .i64 a.plan.epoch) ∧ wc.cell? ⟨w.heap.size, 10, none⟩ = some (.string a.plan.key) ∧ wc.cell? ⟨b, off + k * 5, none⟩ = some (.string a.sp[k].fr) from hr1)
             have hr2 : RoundCells w.heap.size b (off + k * 5) a (.slice (some ⟨b, off, none⟩) a.sp.length cap) a.sp[k].fr (wc.alloc (zeroS.blk)) := hr1.below (al _) (Nat.lt_of_lt_of_le mlt hbc'.size) (Nat.lt_of_lt_of_le blt hbc'.size)
             have HR2 := Lib.hid (show (wc.alloc (.cells #[.string ⟨#[]⟩, .string ⟨#[]⟩, .int .i64 0, .int .i64 0, .int .i64 0] 50)).cell? ⟨w.heap.size, 0, none⟩ = some (.int .i64 a.groups) ∧ (wc.alloc (.cells #[.string ⟨#[]⟩, .string ⟨#[]⟩, .int .i64 0, .int .i64 0, .int .i64 0] 50)).cell? ⟨w.heap.size, 1, none⟩ = some (.int .i64 a.last) ∧ (wc.alloc (.cells #[.string ⟨#[]⟩, .string ⟨#[]⟩, .int .i64 0, .int .i64 0, .int .i64 0] 50)).cell? ⟨w.heap.size, 2, none⟩ = some (.slice (some ⟨b, off, none⟩) a.sp.length cap) ∧ (wc.alloc (.cells #[.string ⟨#[]⟩, .string ⟨#[]⟩, .int .i64 0, .int .i64 0, .int .i64 0] 50)).cell? ⟨w.heap.size, 3, none⟩ = some (.int .i64 a.plan.kind) ∧ (wc.alloc (.cells #[.string ⟨#[]⟩, .string ⟨#[]⟩, .int .i64 0, .int .i64 0, .int .i64 0] 50)).cell? ⟨w.heap.size, 4, none⟩ = some (.int .i64 a.plan.phase) ∧ (wc.alloc (.cells #[.string ⟨#[]⟩, .string ⟨#[]⟩, .int .i64 0, .int .i64 0, .int .i64 0] 50)).cell? ⟨w.heap.size, 5, none⟩ = some (.int .i64 a.plan.shard) ∧ (wc.alloc (.cells #[.string ⟨#[]⟩, .string ⟨#[]⟩, .int .i64 0, .int .i64 0, .int .i64 0] 50)).cell? ⟨w.heap.size, 6, none⟩ = some (.int .i64 a.plan.other) ∧ (wc.alloc (.cells #[.string ⟨#[]⟩, .string ⟨#[]⟩, .int .i64 0, .int .i64 0, .int .i64 0] 50)).cell? ⟨w.heap.size, 7, none⟩ = some (.int .i64 a.plan.group) ∧ (wc.alloc (.cells #[.string ⟨#[]⟩, .string ⟨#[]⟩, .int .i64 0, .int .i64 0, .int .i64 0] 50)).cell? ⟨w.heap.size, 8, none⟩ = some (.int .i64 a.plan.past) ∧ (wc.alloc (.cells #[.string ⟨#[]⟩, .string ⟨#[]⟩, .int .i64 0, .int .i64 0, .int .i64 0] 50)).cell? ⟨w.heap.size, 9, none⟩ = some (.int .i64 a.plan.epoch) ∧ (wc.alloc (.cells #[.string ⟨#[]⟩, .string ⟨#[]⟩, .int .i64 0, .int .i64 0, .int .i64 0] 50)).cell? ⟨w.heap.size, 10, none⟩ = some (.string a.plan.key) ∧ (wc.alloc (.cells #[.string ⟨#[]⟩, .string ⟨#[]⟩, .int .i64 0, .int .i64 0, .int .i64 0] 50)).cell? ⟨b, off + k * 5, none⟩ = some (.string a.sp[k].fr) from hr2)
             have hr3 : RoundCells w.heap.size b (off + k * 5) a (.slice (some ⟨b, off, none⟩) a.sp.length cap) a.sp[k].fr (wc.alloc (a.sp[k].blk)) := hr1.below (al _) (Nat.lt_of_lt_of_le mlt hbc'.size) (Nat.lt_of_lt_of_le blt hbc'.size)
             have HR3 := Lib.hid (show (wc.alloc (.cells #[.string a.sp[k].fr, .string a.sp[k].to, .int .i64 a.sp[k].sh, .int .i64 a.sp[k].ep, .int .i64 a.sp[k].gr] 50)).cell? ⟨w.heap.size, 0, none⟩ = some (.int .i64 a.groups) ∧ (wc.alloc (.cells #[.string a.sp[k].fr, .string a.sp[k].to, .int .i64 a.sp[k].sh, .int .i64 a.sp[k].ep, .int .i64 a.sp[k].gr] 50)).cell? ⟨w.heap.size, 1, none⟩ = some (.int .i64 a.last) ∧ (wc.alloc (.cells #[.string a.sp[k].fr, .string a.sp[k].to, .int .i64 a.sp[k].sh, .int .i64 a.sp[k].ep, .int .i64 a.sp[k].gr] 50)).cell? ⟨w.heap.size, 2, none⟩ = some (.slice (some ⟨b, off, none⟩) a.sp.length cap) ∧ (wc.alloc (.cells #[.string a.sp[k].fr, .string a.sp[k].to, .int .i64 a.sp[k].sh, .int .i64 a.sp[k].ep, .int .i64 a.sp[k].gr] 50)).cell? ⟨w.heap.size, 3, none⟩ = some (.int .i64 a.plan.kind) ∧ (wc.alloc (.cells #[.string a.sp[k].fr, .string a.sp[k].to, .int .i64 a.sp[k].sh, .int .i64 a.sp[k].ep, .int .i64 a.sp[k].gr] 50)).cell? ⟨w.heap.size, 4, none⟩ = some (.int .i64 a.plan.phase) ∧ (wc.alloc (.cells #[.string a.sp[k].fr, .string a.sp[k].to, .int .i64 a.sp[k].sh, .int .i64 a.sp[k].ep, .int .i64 a.sp[k].gr] 50)).cell? ⟨w.heap.size, 5, none⟩ = some (.int .i64 a.plan.shard) ∧ (wc.alloc (.cells #[.string a.sp[k].fr, .string a.sp[k].to, .int .i64 a.sp[k].sh, .int .i64 a.sp[k].ep, .int .i64 a.sp[k].gr] 50)).cell? ⟨w.heap.size, 6, none⟩ = some (.int .i64 a.plan.other) ∧ (wc.alloc (.cells #[.string a.sp[k].fr, .string a.sp[k].to, .int .i64 a.sp[k].sh, .int .i64 a.sp[k].ep, .int .i64 a.sp[k].gr] 50)).cell? ⟨w.heap.size, 7, none⟩ = some (.int .i64 a.plan.group) ∧ (wc.alloc (.cells #[.string a.sp[k].fr, .string a.sp[k].to, .int .i64 a.sp[k].sh, .int .i64 a.sp[k].ep, .int .i64 a.sp[k].gr] 50)).cell? ⟨w.heap.size, 8, none⟩ = some (.int .i64 a.plan.past) ∧ (wc.alloc (.cells #[.string a.sp[k].fr, .string a.sp[k].to, .int .i64 a.sp[k].sh, .int .i64 a.sp[k].ep, .int .i64 a.sp[k].gr] 50)).cell? ⟨w.heap.size, 9, none⟩ = some (.int .i64 a.plan.epoch) ∧ (wc.alloc (.cells #[.string a.sp[k].fr, .string a.sp[k].to, .int .i64 a.sp[k].sh, .int .i64 a.sp[k].ep, .int .i64 a.sp[k].gr] 50)).cell? ⟨w.heap.size, 10, none⟩ = some (.string a.plan.key) ∧ (wc.alloc (.cells #[.string a.sp[k].fr, .string a.sp[k].to, .int .i64 a.sp[k].sh, .int .i64 a.sp[k].ep, .int .i64 a.sp[k].gr] 50)).cell? ⟨b, off + k * 5, none⟩ = some (.string a.sp[k].fr) from hr3)
             have hbw : Below wr.heap.size wr (wc.alloc (.cells #[.string a.sp[k].fr, .string a.sp[k].to, .int .i64 a.sp[k].sh, .int .i64 a.sp[k].ep, .int .i64 a.sp[k].gr] 50)) := hbc'.trans ((al (w := wc) a.sp[k].blk).mono hbc'.size)
             have hsw : (wc.alloc (.cells #[.string a.sp[k].fr, .string a.sp[k].to, .int .i64 a.sp[k].sh, .int .i64 a.sp[k].ep, .int .i64 a.sp[k].gr] 50)).heap[wc.heap.size]? = some a.sp[k].blk := heap_alloc_new wc _
             have Hbw := Lib.hid hbw; have Hsw := Lib.hid hsw
             clear hr1 hr2 hr3 hbc hbc' hbw hsw)
          | (go_at_call 30
             refine (HF.out (wr.alloc (.cells #[.string ⟨#[]⟩, .string ⟨#[]⟩, .int .i64 0, .int .i64 0, .int .i64 0] 50)).drew ((HI.out.below HBr.out).below Hbz.out)).mono ?_
             rintro e wc ⟨rfl, hbc⟩
             have hbc' : Below wr.heap.size wr wc := Hbz.out.trans (hbc.mono Hbz.out.size)
             have hr1 : RoundCells w.heap.size b (off + k * 5) a (.slice (some ⟨b, off, none⟩) a.sp.length cap) a.sp[k].fr wc := RoundCells.below (w := (wr.alloc (.cells #[.string ⟨#[]⟩, .string ⟨#[]⟩, .int .i64 0, .int .i64 0, .int .i64 0] 50)).drew) HRz.out hbc (Nat.lt_of_lt_of_le mlt Hbz.out.size) (Nat.lt_of_lt_of_le blt Hbz.out.size)
             have HR1 := Lib.hid (show wc.cell? ⟨w.heap.size, 0, none⟩ = some (.int .i64 a.groups) ∧ wc.cell? ⟨w.heap.size, 1, none⟩ = some (.int .i64 a.last) ∧ wc.cell? ⟨w.heap.size, 2, none⟩ = some (.slice (some ⟨b, off, none⟩) a.sp.length cap) ∧ wc.cell? ⟨w.heap.size, 3, none⟩ = some (.int .i64 a.plan.kind) ∧ wc.cell? ⟨w.heap.size, 4, none⟩ = some (.int .i64 a.plan.phase) ∧ wc.cell? ⟨w.heap.size, 5, none⟩ = some (.int .i64 a.plan.shard) ∧ wc.cell? ⟨w.heap.size, 6, none⟩ = some (.int .i64 a.plan.other) ∧ wc.cell? ⟨w.heap.size, 7, none⟩ = some (.int .i64 a.plan.group) ∧ wc.cell? ⟨w.heap.size, 8, none⟩ = some (.int .i64 a.plan.past) ∧ wc.cell? ⟨w.heap.size, 9, none⟩ = some (.int .i64 a.plan.epoch) ∧ wc.cell? ⟨w.heap.size, 10, none⟩ = some (.string a.plan.key) ∧ wc.cell? ⟨b, off + k * 5, none⟩ = some (.string a.sp[k].fr) from hr1)
             have hzc := blk_below hbc (lt_of_some Hzz.out) Hzz.out
             obtain ⟨z0, z1, z2, z3, z4, zlt⟩ := span_blk hzc
             have fz0 := fz_blk hzc 0; have fz1 := fz_blk hzc 1; have fz2 := fz_blk hzc 2; have fz3 := fz_blk hzc 3; have fz4 := fz_blk hzc 4
             simp only [zeroS] at z0 z1 z2 z3 z4
             have hon : Only (· = wr.heap.size) wc (((((wc.setCell ⟨wr.heap.size, 0, none⟩ (.string a.sp[k].fr)).setCell ⟨wr.heap.size, 1, none⟩ (.string a.sp[k].to)).setCell ⟨wr.heap.size, 2, none⟩ (.int .i64 a.sp[k].sh)).setCell ⟨wr.heap.size, 3, none⟩ (.int .i64 a.sp[k].ep)).setCell ⟨wr.heap.size, 4, none⟩ (.int .i64 a.sp[k].gr)) := (((((only_setCell wc ⟨wr.heap.size, 0, none⟩ (.string a.sp[k].fr)).trans (only_setCell (wc.setCell ⟨wr.heap.size, 0, none⟩ (.string a.sp[k].fr)) ⟨wr.heap.size, 1, none⟩ (.string a.sp[k].to)) (fun _ _ h => h)).trans (only_setCell ((wc.setCell ⟨wr.heap.size, 0, none⟩ (.string a.sp[k].fr)).setCell ⟨wr.heap.size, 1, none⟩ (.string a.sp[k].to)) ⟨wr.heap.size, 2, none⟩ (.int .i64 a.sp[k].sh)) (fun _ _ h => h)).trans (only_setCell (((wc.setCell ⟨wr.heap.size, 0, none⟩ (.string a.sp[k].fr)).setCell ⟨wr.heap.size, 1, none⟩ (.string a.sp[k].to)).setCell ⟨wr.heap.size, 2, none⟩ (.int .i64 a.sp[k].sh)) ⟨wr.heap.size, 3, none⟩ (.int .i64 a.sp[k].ep)) (fun _ _ h => h)).trans (only_setCell ((((wc.setCell ⟨wr.heap.size, 0, none⟩ (.string a.sp[k].fr)).setCell ⟨wr.heap.size, 1, none⟩ (.string a.sp[k].to)).setCell ⟨wr.heap.size, 2, none⟩ (.int .i64 a.sp[k].sh)).setCell ⟨wr.heap.size, 3, none⟩ (.int .i64 a.sp[k].ep)) ⟨wr.heap.size, 4, none⟩ (.int .i64 a.sp[k].gr)) (fun _ _ h => h))
             have hr2 : RoundCells w.heap.size b (off + k * 5) a (.slice (some ⟨b, off, none⟩) a.sp.length cap) a.sp[k].fr (((((wc.setCell ⟨wr.heap.size, 0, none⟩ (.string a.sp[k].fr)).setCell ⟨wr.heap.size, 1, none⟩ (.string a.sp[k].to)).setCell ⟨wr.heap.size, 2, none⟩ (.int .i64 a.sp[k].sh)).setCell ⟨wr.heap.size, 3, none⟩ (.int .i64 a.sp[k].ep)).setCell ⟨wr.heap.size, 4, none⟩ (.int .i64 a.sp[k].gr)) := hr1.below (hon.below (B := wr.heap.size) (Below.refl _ _) (fun q hq => by omega) hbc'.size) mlt blt
             have HR2 := Lib.hid (show (((((wc.setCell ⟨wr.heap.size, 0, none⟩ (.string a.sp[k].fr)).setCell ⟨wr.heap.size, 1, none⟩ (.string a.sp[k].to)).setCell ⟨wr.heap.size, 2, none⟩ (.int .i64 a.sp[k].sh)).setCell ⟨wr.heap.size, 3, none⟩ (.int .i64 a.sp[k].ep)).setCell ⟨wr.heap.size, 4, none⟩ (.int .i64 a.sp[k].gr)).cell? ⟨w.heap.size, 0, none⟩ = some (.int .i64 a.groups) ∧ (((((wc.setCell ⟨wr.heap.size, 0, none⟩ (.string a.sp[k].fr)).setCell ⟨wr.heap.size, 1, none⟩ (.string a.sp[k].to)).setCell ⟨wr.heap.size, 2, none⟩ (.int .i64 a.sp[k].sh)).setCell ⟨wr.heap.size, 3, none⟩ (.int .i64 a.sp[k].ep)).setCell ⟨wr.heap.size, 4, none⟩ (.int .i64 a.sp[k].gr)).cell? ⟨w.heap.size, 1, none⟩ = some (.int .i64 a.last) ∧ (((((wc.setCell ⟨wr.heap.size, 0, none⟩ (.string a.sp[k].fr)).setCell ⟨wr.heap.size, 1, none⟩ (.string a.sp[k].to)).setCell ⟨wr.heap.size, 2, none⟩ (.int .i64 a.sp[k].sh)).setCell ⟨wr.heap.size, 3, none⟩ (.int .i64 a.sp[k].ep)).setCell ⟨wr.heap.size, 4, none⟩ (.int .i64 a.sp[k].gr)).cell? ⟨w.heap.size, 2, none⟩ = some (.slice (some ⟨b, off, none⟩) a.sp.length cap) ∧ (((((wc.setCell ⟨wr.heap.size, 0, none⟩ (.string a.sp[k].fr)).setCell ⟨wr.heap.size, 1, none⟩ (.string a.sp[k].to)).setCell ⟨wr.heap.size, 2, none⟩ (.int .i64 a.sp[k].sh)).setCell ⟨wr.heap.size, 3, none⟩ (.int .i64 a.sp[k].ep)).setCell ⟨wr.heap.size, 4, none⟩ (.int .i64 a.sp[k].gr)).cell? ⟨w.heap.size, 3, none⟩ = some (.int .i64 a.plan.kind) ∧ (((((wc.setCell ⟨wr.heap.size, 0, none⟩ (.string a.sp[k].fr)).setCell ⟨wr.heap.size, 1, none⟩ (.string a.sp[k].to)).setCell ⟨wr.heap.size, 2, none⟩ (.int .i64 a.sp[k].sh)).setCell ⟨wr.heap.size, 3, none⟩ (.int .i64 a.sp[k].ep)).setCell ⟨wr.heap.size, 4, none⟩ (.int .i64 a.sp[k].gr)).cell? ⟨w.heap.size, 4, none⟩ = some (.int .i64 a.plan.phase) ∧ (((((wc.setCell ⟨wr.heap.size, 0, none⟩ (.string a.sp[k].fr)).setCell ⟨wr.heap.size, 1, none⟩ (.string a.sp[k].to)).setCell ⟨wr.heap.size, 2, none⟩ (.int .i64 a.sp[k].sh)).setCell ⟨wr.heap.size, 3, none⟩ (.int .i64 a.sp[k].ep)).setCell ⟨wr.heap.size, 4, none⟩ (.int .i64 a.sp[k].gr)).cell? ⟨w.heap.size, 5, none⟩ = some (.int .i64 a.plan.shard) ∧ (((((wc.setCell ⟨wr.heap.size, 0, none⟩ (.string a.sp[k].fr)).setCell ⟨wr.heap.size, 1, none⟩ (.string a.sp[k].to)).setCell ⟨wr.heap.size, 2, none⟩ (.int .i64 a.sp[k].sh)).setCell ⟨wr.heap.size, 3, none⟩ (.int .i64 a.sp[k].ep)).setCell ⟨wr.heap.size, 4, none⟩ (.int .i64 a.sp[k].gr)).cell? ⟨w.heap.size, 6, none⟩ = some (.int .i64 a.plan.other) ∧ (((((wc.setCell ⟨wr.heap.size, 0, none⟩ (.string a.sp[k].fr)).setCell ⟨wr.heap.size, 1, none⟩ (.string a.sp[k].to)).setCell ⟨wr.heap.size, 2, none⟩ (.int .i64 a.sp[k].sh)).setCell ⟨wr.heap.size, 3, none⟩ (.int .i64 a.sp[k].ep)).setCell ⟨wr.heap.size, 4, none⟩ (.int .i64 a.sp[k].gr)).cell? ⟨w.heap.size, 7, none⟩ = some (.int .i64 a.plan.group) ∧ (((((wc.setCell ⟨wr.heap.size, 0, none⟩ (.string a.sp[k].fr)).setCell ⟨wr.heap.size, 1, none⟩ (.string a.sp[k].to)).setCell ⟨wr.heap.size, 2, none⟩ (.int .i64 a.sp[k].sh)).setCell ⟨wr.heap.size, 3, none⟩ (.int .i64 a.sp[k].ep)).setCell ⟨wr.heap.size, 4, none⟩ (.int .i64 a.sp[k].gr)).cell? ⟨w.heap.size, 8, none⟩ = some (.int .i64 a.plan.past) ∧ (((((wc.setCell ⟨wr.heap.size, 0, none⟩ (.string a.sp[k].fr)).setCell ⟨wr.heap.size, 1, none⟩ (.string a.sp[k].to)).setCell ⟨wr.heap.size, 2, none⟩ (.int .i64 a.sp[k].sh)).setCell ⟨wr.heap.size, 3, none⟩ (.int .i64 a.sp[k].ep)).setCell ⟨wr.heap.size, 4, none⟩ (.int .i64 a.sp[k].gr)).cell? ⟨w.heap.size, 9, none⟩ = some (.int .i64 a.plan.epoch) ∧ (((((wc.setCell ⟨wr.heap.size, 0, none⟩ (.string a.sp[k].fr)).setCell ⟨wr.heap.size, 1, none⟩ (.string a.sp[k].to)).setCell ⟨wr.heap.size, 2, none⟩ (.int .i64 a.sp[k].sh)).setCell ⟨wr.heap.size, 3, none⟩ (.int .i64 a.sp[k].ep)).setCell ⟨wr.heap.size, 4, none⟩ (.int .i64 a.sp[k].gr)).cell? ⟨w.heap.size, 10, none⟩ = some (.string a.plan.key) ∧ (((((wc.setCell ⟨wr.heap.size, 0, none⟩ (.string a.sp[k].fr)).setCell ⟨wr.heap.size, 1, none⟩ (.string a.sp[k].to)).setCell ⟨wr.heap.size, 2, none⟩ (.int .i64 a.sp[k].sh)).setCell ⟨wr.heap.size, 3, none⟩ (.int .i64 a.sp[k].ep)).setCell ⟨wr.heap.size, 4, none⟩ (.int .i64 a.sp[k].gr)).cell? ⟨b, off + k * 5, none⟩ = some (.string a.sp[k].fr) from hr2)
             have HR3 := HR2
             have hbw : Below wr.heap.size wr (((((wc.setCell ⟨wr.heap.size, 0, none⟩ (.string a.sp[k].fr)).setCell ⟨wr.heap.size, 1, none⟩ (.string a.sp[k].to)).setCell ⟨wr.heap.size, 2, none⟩ (.int .i64 a.sp[k].sh)).setCell ⟨wr.heap.size, 3, none⟩ (.int .i64 a.sp[k].ep)).setCell ⟨wr.heap.size, 4, none⟩ (.int .i64 a.sp[k].gr)) := hon.below hbc' (fun q hq => by omega) hbc'.size
             have hsw : (((((wc.setCell ⟨wr.heap.size, 0, none⟩ (.string a.sp[k].fr)).setCell ⟨wr.heap.size, 1, none⟩ (.string a.sp[k].to)).setCell ⟨wr.heap.size, 2, none⟩ (.int .i64 a.sp[k].sh)).setCell ⟨wr.heap.size, 3, none⟩ (.int .i64 a.sp[k].ep)).setCell ⟨wr.heap.size, 4, none⟩ (.int .i64 a.sp[k].gr)).heap[wr.heap.size]? = some a.sp[k].blk := by
               have := (heap_setCell_at (i := 4) (heap_setCell_at (i := 3) (heap_setCell_at (i := 2) (heap_setCell_at (i := 1) (heap_setCell_at (i := 0) hzc (.string a.sp[k].fr)) (.string a.sp[k].to)) (.int .i64 a.sp[k].sh)) (.int .i64 a.sp[k].ep)) (.int .i64 a.sp[k].gr))
               refine (show _ = _ from this).trans ?_
               simp only [Span.blk, zeroS, List.setIfInBounds_toArray, List.set_cons_zero, List.set_cons_succ]
             have Hbw := Lib.hid hbw; have Hsw := Lib.hid hsw
             clear hr1 hr2 hbc hbc' hbw hsw hzc hon))
      all_goals
        clear m0 m1 m2 m3 m4 m5 m6 m7 m8 m9 m10 mlt p0 p1 p2 p3 p4
        obtain ⟨s0, s1, s2, s3, s4, slt⟩ := span_blk Hsw.out
        obtain ⟨m0, m1, m2, m3, m4, m5, m6, m7, m8, m9, m10, mlt⟩ := map_cells (blk_below Hbw.out (lt_of_some HXr.out) HXr.out)
        obtain ⟨_, _, he, blt2, p0, p1, p2, p3, p4⟩ := span_cells ((HI.out.below HBr.out).below Hbw.out).row k hlt
        injection he with he
        injection he with hx1 hx2
        subst hx1; subst hx2
        go_wp2_with fail
        go_quiet (fail)
        go_wp2_with fail
        go_roundw
        case rel => exact ⟨k + 1, by omega, by omega, by go_num, below_drewN Hbel.out Hbw.out _⟩
        case measure => simp [intOf]; omega
    · go_wp2
      go_ret
      exact ⟨rfl, hBr⟩
set_option maxRecDepth 100000 in
set_option maxHeartbeats 8000000 in
theorem finds_us (w : World) (A : Option Addr) (cap : Nat) (a : Atl) (x y z : ByteArray) (h : MapIn w A cap a) (hfr : ∀ s ∈ a.sp, s.fr.size ≤ 9223372036854775807) (S T U : Span) (o1 o2 o3 : Bool) (h1 : FoundIs A cap a x S o1) (h2 : FoundIs A cap a z T o2) (h3 : FoundIs A cap a y U o3) (hm : tr (MapOk a) = true) (q1 : o1 = true) (q2 : o2 = true) (q3 : o3 = true) (la : (Op.bytesLess x.toList y.toList || x.toList == y.toList) = true) (lb : Op.bytesLess x.toList y.toList = true ∨ x.toList = y.toList) (ma : (Op.bytesLess y.toList z.toList || y.toList == z.toList) = true) (mb : Op.bytesLess y.toList z.toList = true ∨ y.toList = z.toList) (l3 : eqS S.sh T.sh S.ep T.ep S.gr T.gr S.fr T.fr S.to T.to = true) (l4 : eqS U.sh S.sh U.ep S.ep U.gr S.gr U.fr S.fr U.to S.to = true) :
    Calls Try.prog 11 #[a.val (.slice A a.sp.length cap), .string x, .string y, .string z] w fun e w' => e = .returned (.bool true) ∧ Below w.heap.size w w' := by
  subst q1
  subst q2
  subst q3
  have Hla := Lib.hid la
  have Hlb := Lib.hid lb
  have Hma := Lib.hid ma
  have Hmb := Lib.hid mb
  have Hl3 := Lib.hid l3
  have Hl4 := Lib.hid l4
  clear la lb ma mb l3 l4
  have hC1 := fun w h => check_any w A cap a h
  rw [hm] at hC1
  have H1 := Lib.hid h1; have H2 := Lib.hid h2; have H3 := Lib.hid h3; have HC := Lib.hid hC1; have HI := Lib.hid h; have Hfr := Lib.hid hfr; have Hm := Lib.hid hm
  clear h1 h2 h3 hC1 h hfr hm
  go_enter Try.func11, Try.ntmps11
  go_upto_region 1 with fail
  change Code.wp _ _ _ _ (w.alloc (a.blk (.slice A a.sp.length cap)))
  have hX0 := heap_alloc_new w (a.blk (.slice A a.sp.length cap))
  have hB0 : Below w.heap.size w (w.alloc (a.blk (.slice A a.sp.length cap))) := al _
  generalize w.alloc (a.blk (.slice A a.sp.length cap)) = w0 at *
  have HX0 := Lib.hid hX0; have HB0 := Lib.hid hB0
  clear hX0 hB0
  go_upto_region 3 with (go_at_call 13
                         refine (awakeA _).mono ?_
                         rintro e w1 ⟨rfl, hb1⟩
                         have HX1 := Lib.hid (blk_below hb1 (lt_of_some HX0.out) HX0.out)
                         have HB1 := Lib.hid (HB0.out.trans (hb1.mono HB0.out.size))
                         clear hb1)
  refine wp_region_lit ?_
  refine wpList_load26 rfl (.tmp 4) rfl (w.heap.size) rfl HX1.out ?_
  simp only [Act.put, List.setIfInBounds_toArray, List.set_cons_zero, List.set_cons_succ]
  refine wpList_step (fun K hK => ?_)
  go_simp
  refine hK _ _ ?_
  clear hK K
  refine wpList_step (fun K hK => ?_)
  go_simp
  go_at_call 30
  refine (H1.out _ (HI.out.below HB1.out)).mono ?_
  rintro e w2 ⟨rfl, hb2⟩
  refine hK _ _ ?_
  clear hK K
  refine wpList_step (fun K hK => ?_)
  go_simp
  refine hK _ _ ?_
  clear hK K
  refine wpList_step (fun K hK => ?_)
  go_simp
  refine hK _ _ ?_
  clear hK K
  refine wpList_step (fun K hK => ?_)
  go_simp
  refine hK _ _ ?_
  clear hK K
  refine wpList_step (fun K hK => ?_)
  go_simp
  refine hK _ _ ?_
  clear hK K
  refine wpList_store50 rfl (.tmp 9) (.tmp 24) rfl w2.heap.size rfl (p := S) (p0 := zeroS) rfl (heap_alloc_new w2 _) ?_
  intro w3 hS ho
  simp only [Act.put, List.setIfInBounds_toArray, List.set_cons_zero, List.set_cons_succ]
  have hb : Below w2.heap.size w2 w3 := ho.below (al _) (fun k hk => by omega) (by simp)
  have hbx : Below w1.heap.size w1 w3 := hb2.trans (hb.mono hb2.size)
  have HX3 := Lib.hid (blk_below hbx (lt_of_some HX1.out) HX1.out)
  have HB3 := Lib.hid (HB1.out.trans (hbx.mono HB1.out.size))
  have HS3 := Lib.hid hS
  clear hb2 hb hbx hS ho
  go_upto_region 4 with fail
  refine wp_region_lit ?_
  refine wpList_load26 rfl (.tmp 4) rfl (w.heap.size) rfl HX3.out ?_
  simp only [Act.put, List.setIfInBounds_toArray, List.set_cons_zero, List.set_cons_succ]
  refine wpList_step (fun K hK => ?_)
  go_simp
  refine hK _ _ ?_
  clear hK K
  refine wpList_step (fun K hK => ?_)
  go_simp
  go_at_call 30
  refine (H2.out _ (HI.out.below HB3.out)).mono ?_
  rintro e w4 ⟨rfl, hb4⟩
  refine hK _ _ ?_
  clear hK K
  refine wpList_step (fun K hK => ?_)
  go_simp
  refine hK _ _ ?_
  clear hK K
  refine wpList_step (fun K hK => ?_)
  go_simp
  refine hK _ _ ?_
  clear hK K
  refine wpList_step (fun K hK => ?_)
  go_simp
  refine hK _ _ ?_
  clear hK K
  refine wpList_step (fun K hK => ?_)
  go_simp
  refine hK _ _ ?_
  clear hK K
  refine wpList_store50 rfl (.tmp 11) (.tmp 30) rfl w4.heap.size rfl (p := T) (p0 := zeroS) rfl (heap_alloc_new w4 _) ?_
  intro w5 hT ho
  simp only [Act.put, List.setIfInBounds_toArray, List.set_cons_zero, List.set_cons_succ]
  have hb : Below w4.heap.size w4 w5 := ho.below (al _) (fun k hk => by omega) (by simp)
  have hbx : Below w3.heap.size w3 w5 := hb4.trans (hb.mono hb4.size)
  have HX5 := Lib.hid (blk_below hbx (lt_of_some HX3.out) HX3.out)
  have HB5 := Lib.hid (HB3.out.trans (hbx.mono HB3.out.size))
  have HS5 := Lib.hid (blk_below hbx (lt_of_some HS3.out) HS3.out)
  have HT5 := Lib.hid hT
  clear hb4 hb hbx hT ho
  go_upto_region 5 with fail
  refine wp_region_lit ?_
  refine wpList_load26 rfl (.tmp 4) rfl (w.heap.size) rfl HX5.out ?_
  simp only [Act.put, List.setIfInBounds_toArray, List.set_cons_zero, List.set_cons_succ]
  refine wpList_step (fun K hK => ?_)
  go_simp
  refine hK _ _ ?_
  clear hK K
  refine wpList_step (fun K hK => ?_)
  go_simp
  go_at_call 30
  refine (H3.out _ (HI.out.below HB5.out)).mono ?_
  rintro e w6 ⟨rfl, hb6⟩
  refine hK _ _ ?_
  clear hK K
  refine wpList_step (fun K hK => ?_)
  go_simp
  refine hK _ _ ?_
  clear hK K
  refine wpList_step (fun K hK => ?_)
  go_simp
  refine hK _ _ ?_
  clear hK K
  refine wpList_step (fun K hK => ?_)
  go_simp
  refine hK _ _ ?_
  clear hK K
  refine wpList_step (fun K hK => ?_)
  go_simp
  refine hK _ _ ?_
  clear hK K
  refine wpList_store50 rfl (.tmp 13) (.tmp 36) rfl w6.heap.size rfl (p := U) (p0 := zeroS) rfl (heap_alloc_new w6 _) ?_
  intro w7 hU ho
  simp only [Act.put, List.setIfInBounds_toArray, List.set_cons_zero, List.set_cons_succ]
  have hb : Below w6.heap.size w6 w7 := ho.below (al _) (fun k hk => by omega) (by simp)
  have hbx : Below w5.heap.size w5 w7 := hb6.trans (hb.mono hb6.size)
  have HX7 := Lib.hid (blk_below hbx (lt_of_some HX5.out) HX5.out)
  have HB7 := Lib.hid (HB5.out.trans (hbx.mono HB5.out.size))
  have HS7 := Lib.hid (blk_below hbx (lt_of_some HS5.out) HS5.out)
  have HT7 := Lib.hid (blk_below hbx (lt_of_some HT5.out) HT5.out)
  have HU7 := Lib.hid hU
  clear hb6 hb hbx hU ho
  go_upto_region 6 with fail
  obtain ⟨s0, s1, s2, s3, s4, slt⟩ := span_blk HS7.out
  obtain ⟨t0, t1, t2, t3, t4, tlt⟩ := span_blk HT7.out
  obtain ⟨u0, u1, u2, u3, u4, ult⟩ := span_blk HU7.out
  obtain ⟨m0, m1, m2, m3, m4, m5, m6, m7, m8, m9, m10, mlt⟩ := map_cells HX7.out
  have la := Hla.out
  have lb := Hlb.out
  have ma := Hma.out
  have mb := Hmb.out
  have l3 := Hl3.out
  have l4 := Hl4.out
  go_upto_region 10 with (go_at_call 29
                          refine (HC.out _ (HI.out.below HB7.out)).mono ?_
                          rintro e w8 ⟨rfl, hb8⟩
                          have HX8 := Lib.hid (blk_below hb8 (lt_of_some HX7.out) HX7.out)
                          have HB8 := Lib.hid (HB7.out.trans (hb8.mono HB7.out.size))
                          clear hb8)
  clear s0 s1 s2 s3 s4 slt t0 t1 t2 t3 t4 tlt u0 u1 u2 u3 u4 ult m0 m1 m2 m3 m4 m5 m6 m7 m8 m9 m10 mlt
  have hm := of_tr Hm.out
  have h16 : a.sp.length ≤ 16 := hm.2.2.2.1.1
  obtain ⟨b, off, rfl⟩ : ∃ b off, A = some ⟨b, off, none⟩ := by
    obtain ⟨b, off, hA, _⟩ := span_cells HI.out.row 0 hm.2.2.2.1.2.1
    exact ⟨b, off, hA⟩
  have Hmk := Lib.hid hm
  clear hm
  go_wp2_with fail
  go_loopw [15] (fun v wr => ∃ k : Nat, 1 ≤ k ∧ k ≤ a.sp.length ∧ v = .int .i64 k ∧ Below w8.heap.size w8 wr) (fun v _ => a.sp.length - (intOf v).toNat)
  case atStart => exact ⟨1, Nat.le_refl _, Hmk.out.2.2.2.1.2.1, rfl, Below.refl _ _⟩
  case round =>
    obtain ⟨k, hk0, hk, rfl, hbel⟩ := hrel
    have hXr := blk_below hbel (lt_of_some HX8.out) HX8.out
    have hBr := HB8.out.trans (hbel.mono HB8.out.size)
    obtain ⟨m0, m1, m2, m3, m4, m5, m6, m7, m8, m9, m10, mlt⟩ := map_cells hXr
    have hw1 : IntKind.i64.wrap ((k : Int) + 1) = (k : Int) + 1 := IntWalk.i64_in _ (by omega)
    by_cases hlt : k < a.sp.length
    · obtain ⟨_, _, he, blt, p0, p1, p2, p3, p4⟩ := span_cells (HI.out.below hBr).row k hlt
      injection he with he
      injection he with hx1 hx2
      subst hx1; subst hx2
      have hk1 : (0 : Int) ≤ (k : Int) := by omega
      have hk2 : (k : Int) < (a.sp.length : Int) := by omega
      have hf : FoundIs (some ⟨b, off, none⟩) cap a a.sp[k].fr a.sp[k] true := fun w h => find_some w _ cap a a.sp[k].fr k h Hm.out (Hfr.out _ (List.getElem_mem hlt)) (by
        have := (sp_next Hmk.out.2.2.2.1 (k - 1) (by omega)).2
        simpa only [show k - 1 + 1 = k by omega] using this) hlt (found_self Hmk.out.2.2.2.1 k hlt)
      have HF := Lib.hid hf; have HBr := Lib.hid hBr; have HXr := Lib.hid hXr; have Hbel := Lib.hid hbel
      go_wp2_with fail
      have hr0 : RoundCells w.heap.size b (off + k * 5) a (.slice (some ⟨b, off, none⟩) a.sp.length cap) a.sp[k].fr wr := ⟨m0, m1, m2, m3, m4, m5, m6, m7, m8, m9, m10, p0⟩
      have HR0 := Lib.hid (show wr.drew.cell? ⟨w.heap.size, 0, none⟩ = some (.int .i64 a.groups) ∧ wr.drew.cell? ⟨w.heap.size, 1, none⟩ = some (.int .i64 a.last) ∧ wr.drew.cell? ⟨w.heap.size, 2, none⟩ = some (.slice (some ⟨b, off, none⟩) a.sp.length cap) ∧ wr.drew.cell? ⟨w.heap.size, 3, none⟩ = some (.int .i64 a.plan.kind) ∧ wr.drew.cell? ⟨w.heap.size, 4, none⟩ = some (.int .i64 a.plan.phase) ∧ wr.drew.cell? ⟨w.heap.size, 5, none⟩ = some (.int .i64 a.plan.shard) ∧ wr.drew.cell? ⟨w.heap.size, 6, none⟩ = some (.int .i64 a.plan.other) ∧ wr.drew.cell? ⟨w.heap.size, 7, none⟩ = some (.int .i64 a.plan.group) ∧ wr.drew.cell? ⟨w.heap.size, 8, none⟩ = some (.int .i64 a.plan.past) ∧ wr.drew.cell? ⟨w.heap.size, 9, none⟩ = some (.int .i64 a.plan.epoch) ∧ wr.drew.cell? ⟨w.heap.size, 10, none⟩ = some (.string a.plan.key) ∧ wr.drew.cell? ⟨b, off + k * 5, none⟩ = some (.string a.sp[k].fr) from hr0)
      have hrz : RoundCells w.heap.size b (off + k * 5) a (.slice (some ⟨b, off, none⟩) a.sp.length cap) a.sp[k].fr (wr.alloc zeroS.blk) := hr0.below (al _) mlt blt
      have HRz := Lib.hid (show (wr.alloc (.cells #[.string ⟨#[]⟩, .string ⟨#[]⟩, .int .i64 0, .int .i64 0, .int .i64 0] 50)).drew.cell? ⟨w.heap.size, 0, none⟩ = some (.int .i64 a.groups) ∧ (wr.alloc (.cells #[.string ⟨#[]⟩, .string ⟨#[]⟩, .int .i64 0, .int .i64 0, .int .i64 0] 50)).drew.cell? ⟨w.heap.size, 1, none⟩ = some (.int .i64 a.last) ∧ (wr.alloc (.cells #[.string ⟨#[]⟩, .string ⟨#[]⟩, .int .i64 0, .int .i64 0, .int .i64 0] 50)).drew.cell? ⟨w.heap.size, 2, none⟩ = some (.slice (some ⟨b, off, none⟩) a.sp.length cap) ∧ (wr.alloc (.cells #[.string ⟨#[]⟩, .string ⟨#[]⟩, .int .i64 0, .int .i64 0, .int .i64 0] 50)).drew.cell? ⟨w.heap.size, 3, none⟩ = some (.int .i64 a.plan.kind) ∧ (wr.alloc (.cells #[.string ⟨#[]⟩, .string ⟨#[]⟩, .int .i64 0, .int .i64 0, .int .i64 0] 50)).drew.cell? ⟨w.heap.size, 4, none⟩ = some (.int .i64 a.plan.phase) ∧ (wr.alloc (.cells #[.string ⟨#[]⟩, .string ⟨#[]⟩, .int .i64 0, .int .i64 0, .int .i64 0] 50)).drew.cell? ⟨w.heap.size, 5, none⟩ = some (.int .i64 a.plan.shard) ∧ (wr.alloc (.cells #[.string ⟨#[]⟩, .string ⟨#[]⟩, .int .i64 0, .int .i64 0, .int .i64 0] 50)).drew.cell? ⟨w.heap.size, 6, none⟩ = some (.int .i64 a.plan.other) ∧ (wr.alloc (.cells #[.string ⟨#[]⟩, .string ⟨#[]⟩, .int .i64 0, .int .i64 0, .int .i64 0] 50)).drew.cell? ⟨w.heap.size, 7, none⟩ = some (.int .i64 a.plan.group) ∧ (wr.alloc (.cells #[.string ⟨#[]⟩, .string ⟨#[]⟩, .int .i64 0, .int .i64 0, .int .i64 0] 50)).drew.cell? ⟨w.heap.size, 8, none⟩ = some (.int .i64 a.plan.past) ∧ (wr.alloc (.cells #[.string ⟨#[]⟩, .string ⟨#[]⟩, .int .i64 0, .int .i64 0, .int .i64 0] 50)).drew.cell? ⟨w.heap.size, 9, none⟩ = some (.int .i64 a.plan.epoch) ∧ (wr.alloc (.cells #[.string ⟨#[]⟩, .string ⟨#[]⟩, .int .i64 0, .int .i64 0, .int .i64 0] 50)).drew.cell? ⟨w.heap.size, 10, none⟩ = some (.string a.plan.key) ∧ (wr.alloc (.cells #[.string ⟨#[]⟩, .string ⟨#[]⟩, .int .i64 0, .int .i64 0, .int .i64 0] 50)).drew.cell? ⟨b, off + k * 5, none⟩ = some (.string a.sp[k].fr) from hrz)
      have hbz : Below wr.heap.size wr (wr.alloc (.cells #[.string ⟨#[]⟩, .string ⟨#[]⟩, .int .i64 0, .int .i64 0, .int .i64 0] 50)).drew := (al (w := wr) zeroS.blk).drew
      have hzz : (wr.alloc (.cells #[.string ⟨#[]⟩, .string ⟨#[]⟩, .int .i64 0, .int .i64 0, .int .i64 0] 50)).drew.heap[wr.heap.size]? = some zeroS.blk := heap_alloc_new wr _
      have Hbz := Lib.hid hbz; have Hzz := Lib.hid hzz
      clear hf hBr hXr hbel hrz hbz hzz hr0
      go_region_held3 (fun w' => w'.cell? ⟨w.heap.size, 0, none⟩ = some (.int .i64 a.groups) ∧ w'.cell? ⟨w.heap.size, 1, none⟩ = some (.int .i64 a.last) ∧ w'.cell? ⟨w.heap.size, 2, none⟩ = some (.slice (some ⟨b, off, none⟩) a.sp.length cap) ∧ w'.cell? ⟨w.heap.size, 3, none⟩ = some (.int .i64 a.plan.kind) ∧ w'.cell? ⟨w.heap.size, 4, none⟩ = some (.int .i64 a.plan.phase) ∧ w'.cell? ⟨w.heap.size, 5, none⟩ = some (.int .i64 a.plan.shard) ∧ w'.cell? ⟨w.heap.size, 6, none⟩ = some (.int .i64 a.plan.other) ∧ w'.cell? ⟨w.heap.size, 7, none⟩ = some (.int .i64 a.plan.group) ∧ w'.cell? ⟨w.heap.size, 8, none⟩ = some (.int .i64 a.plan.past) ∧ w'.cell? ⟨w.heap.size, 9, none⟩ = some (.int .i64 a.plan.epoch) ∧ w'.cell? ⟨w.heap.size, 10, none⟩ = some (.string a.plan.key) ∧ w'.cell? ⟨b, off + k * 5, none⟩ = some (.string a.sp[k].fr))
        (first | with_reducible exact HR0.out | with_reducible exact HRz.out | with_reducible exact HR1.out | with_reducible exact HR2.out | with_reducible exact HR3.out)
        (first
          | (go_at_call 30
             refine (HF.out wr.drew ((HI.out.below HBr.out).below ((Below.refl _ wr).drew))).mono ?_
             rintro e wc ⟨rfl, hbc⟩
             have hbc' : Below wr.heap.size wr wc := ((Below.refl _ wr).drew).trans hbc
             have hr1 : RoundCells w.heap.size b (off + k * 5) a (.slice (some ⟨b, off, none⟩) a.sp.length cap) a.sp[k].fr wc := RoundCells.below (w := wr.drew) HR0.out hbc mlt blt
             have HR1 := Lib.hid (show wc.cell? ⟨w.heap.size, 0, none⟩ = some (.int .i64 a.groups) ∧ wc.cell? ⟨w.heap.size, 1, none⟩ = some (.int .i64 a.last) ∧ wc.cell? ⟨w.heap.size, 2, none⟩ = some (.slice (some ⟨b, off, none⟩) a.sp.length cap) ∧ wc.cell? ⟨w.heap.size, 3, none⟩ = some (.int .i64 a.plan.kind) ∧ wc.cell? ⟨w.heap.size, 4, none⟩ = some (.int .i64 a.plan.phase) ∧ wc.cell? ⟨w.heap.size, 5, none⟩ = some (.int .i64 a.plan.shard) ∧ wc.cell? ⟨w.heap.size, 6, none⟩ = some (.int .i64 a.plan.other) ∧ wc.cell? ⟨w.heap.size, 7, none⟩ = some (.int .i64 a.plan.group) ∧ wc.cell? ⟨w.heap.size, 8, none⟩ = some (.int .i64 a.plan.past) ∧ wc.cell? ⟨w.heap.size, 9, none⟩ = some (.int .i64 a.plan.epoch) ∧ wc.cell? ⟨w.heap.size, 10, none⟩ = some (.string a.plan.key) ∧ wc.cell? ⟨b, off + k * 5, none⟩ = some (.string a.sp[k].fr) from hr1)
             have hr2 : RoundCells w.heap.size b (off + k * 5) a (.slice (some ⟨b, off, none⟩) a.sp.length cap) a.sp[k].fr (wc.alloc (zeroS.blk)) := hr1.below (al _) (Nat.lt_of_lt_of_le mlt hbc'.size) (Nat.lt_of_lt_of_le blt hbc'.size)
             have HR2 := Lib.hid (show (wc.alloc (.cells #[.string ⟨#[]⟩, .string ⟨#[]⟩, .int .i64 0, .int .i64 0, .int .i64 0] 50)).cell? ⟨w.heap.size, 0, none⟩ = some (.int .i64 a.groups) ∧ (wc.alloc (.cells #[.string ⟨#[]⟩, .string ⟨#[]⟩, .int .i64 0, .int .i64 0, .int .i64 0] 50)).cell? ⟨w.heap.size, 1, none⟩ = some (.int .i64 a.last) ∧ (wc.alloc (.cells #[.string ⟨#[]⟩, .string ⟨#[]⟩, .int .i64 0, .int .i64 0, .int .i64 0] 50)).cell? ⟨w.heap.size, 2, none⟩ = some (.slice (some ⟨b, off, none⟩) a.sp.length cap) ∧ (wc.alloc (.cells #[.string ⟨#[]⟩, .string ⟨#[]⟩, .int .i64 0, .int .i64 0, .int .i64 0] 50)).cell? ⟨w.heap.size, 3, none⟩ = some (.int .i64 a.plan.kind) ∧ (wc.alloc (.cells #[.string ⟨#[]⟩, .string ⟨#[]⟩, .int .i64 0, .int .i64 0, .int .i64 0] 50)).cell? ⟨w.heap.size, 4, none⟩ = some (.int .i64 a.plan.phase) ∧ (wc.alloc (.cells #[.string ⟨#[]⟩, .string ⟨#[]⟩, .int .i64 0, .int .i64 0, .int .i64 0] 50)).cell? ⟨w.heap.size, 5, none⟩ = some (.int .i64 a.plan.shard) ∧ (wc.alloc (.cells #[.string ⟨#[]⟩, .string ⟨#[]⟩, .int .i64 0, .int .i64 0, .int .i64 0] 50)).cell? ⟨w.heap.size, 6, none⟩ = some (.int .i64 a.plan.other) ∧ (wc.alloc (.cells #[.string ⟨#[]⟩, .string ⟨#[]⟩, .int .i64 0, .int .i64 0, .int .i64 0] 50)).cell? ⟨w.heap.size, 7, none⟩ = some (.int .i64 a.plan.group) ∧ (wc.alloc (.cells #[.string ⟨#[]⟩, .string ⟨#[]⟩, .int .i64 0, .int .i64 0, .int .i64 0] 50)).cell? ⟨w.heap.size, 8, none⟩ = some (.int .i64 a.plan.past) ∧ (wc.alloc (.cells #[.string ⟨#[]⟩, .string ⟨#[]⟩, .int .i64 0, .int .i64 0, .int .i64 0] 50)).cell? ⟨w.heap.size, 9, none⟩ = some (.int .i64 a.plan.epoch) ∧ (wc.alloc (.cells #[.string ⟨#[]⟩, .string ⟨#[]⟩, .int .i64 0, .int .i64 0, .int .i64 0] 50)).cell? ⟨w.heap.size, 10, none⟩ = some (.string a.plan.key) ∧ (wc.alloc (.cells #[.string ⟨#[]⟩, .string ⟨#[]⟩, .int .i64 0, .int .i64 0, .int .i64 0] 50)).cell? ⟨b, off + k * 5, none⟩ = some (.string a.sp[k].fr) from hr2)
             have hr3 : RoundCells w.heap.size b (off + k * 5) a (.slice (some ⟨b, off, none⟩) a.sp.length cap) a.sp[k].fr (wc.alloc (a.sp[k].blk)) := hr1.below (al _) (Nat.lt_of_lt_of_le mlt hbc'.size) (Nat.lt_of_lt_of_le blt hbc'.size)
             have HR3 := Lib.hid (show (wc.alloc (.cells #[.string a.sp[k].fr, .string a.sp[k].to, .int .i64 a.sp[k].sh, .int .i64 a.sp[k].ep, .int .i64 a.sp[k].gr] 50)).cell? ⟨w.heap.size, 0, none⟩ = some (.int .i64 a.groups) ∧ (wc.alloc (.cells #[.string a.sp[k].fr, .string a.sp[k].to, .int .i64 a.sp[k].sh, .int .i64 a.sp[k].ep, .int .i64 a.sp[k].gr] 50)).cell? ⟨w.heap.size, 1, none⟩ = some (.int .i64 a.last) ∧ (wc.alloc (.cells #[.string a.sp[k].fr, .string a.sp[k].to, .int .i64 a.sp[k].sh, .int .i64 a.sp[k].ep, .int .i64 a.sp[k].gr] 50)).cell? ⟨w.heap.size, 2, none⟩ = some (.slice (some ⟨b, off, none⟩) a.sp.length cap) ∧ (wc.alloc (.cells #[.string a.sp[k].fr, .string a.sp[k].to, .int .i64 a.sp[k].sh, .int .i64 a.sp[k].ep, .int .i64 a.sp[k].gr] 50)).cell? ⟨w.heap.size, 3, none⟩ = some (.int .i64 a.plan.kind) ∧ (wc.alloc (.cells #[.string a.sp[k].fr, .string a.sp[k].to, .int .i64 a.sp[k].sh, .int .i64 a.sp[k].ep, .int .i64 a.sp[k].gr] 50)).cell? ⟨w.heap.size, 4, none⟩ = some (.int .i64 a.plan.phase) ∧ (wc.alloc (.cells #[.string a.sp[k].fr, .string a.sp[k].to, .int .i64 a.sp[k].sh, .int .i64 a.sp[k].ep, .int .i64 a.sp[k].gr] 50)).cell? ⟨w.heap.size, 5, none⟩ = some (.int .i64 a.plan.shard) ∧ (wc.alloc (.cells #[.string a.sp[k].fr, .string a.sp[k].to, .int .i64 a.sp[k].sh, .int .i64 a.sp[k].ep, .int .i64 a.sp[k].gr] 50)).cell? ⟨w.heap.size, 6, none⟩ = some (.int .i64 a.plan.other) ∧ (wc.alloc (.cells #[.string a.sp[k].fr, .string a.sp[k].to, .int .i64 a.sp[k].sh, .int .i64 a.sp[k].ep, .int .i64 a.sp[k].gr] 50)).cell? ⟨w.heap.size, 7, none⟩ = some (.int .i64 a.plan.group) ∧ (wc.alloc (.cells #[.string a.sp[k].fr, .string a.sp[k].to, .int .i64 a.sp[k].sh, .int .i64 a.sp[k].ep, .int .i64 a.sp[k].gr] 50)).cell? ⟨w.heap.size, 8, none⟩ = some (.int .i64 a.plan.past) ∧ (wc.alloc (.cells #[.string a.sp[k].fr, .string a.sp[k].to, .int .i64 a.sp[k].sh, .int .i64 a.sp[k].ep, .int .i64 a.sp[k].gr] 50)).cell? ⟨w.heap.size, 9, none⟩ = some (.int .i64 a.plan.epoch) ∧ (wc.alloc (.cells #[.string a.sp[k].fr, .string a.sp[k].to, .int .i64 a.sp[k].sh, .int .i64 a.sp[k].ep, .int .i64 a.sp[k].gr] 50)).cell? ⟨w.heap.size, 10, none⟩ = some (.string a.plan.key) ∧ (wc.alloc (.cells #[.string a.sp[k].fr, .string a.sp[k].to, .int .i64 a.sp[k].sh, .int .i64 a.sp[k].ep, .int .i64 a.sp[k].gr] 50)).cell? ⟨b, off + k * 5, none⟩ = some (.string a.sp[k].fr) from hr3)
             have hbw : Below wr.heap.size wr (wc.alloc (.cells #[.string a.sp[k].fr, .string a.sp[k].to, .int .i64 a.sp[k].sh, .int .i64 a.sp[k].ep, .int .i64 a.sp[k].gr] 50)) := hbc'.trans ((al (w := wc) a.sp[k].blk).mono hbc'.size)
             have hsw : (wc.alloc (.cells #[.string a.sp[k].fr, .string a.sp[k].to, .int .i64 a.sp[k].sh, .int .i64 a.sp[k].ep, .int .i64 a.sp[k].gr] 50)).heap[wc.heap.size]? = some a.sp[k].blk := heap_alloc_new wc _
             have Hbw := Lib.hid hbw; have Hsw := Lib.hid hsw
             clear hr1 hr2 hr3 hbc hbc' hbw hsw)
          | (go_at_call 30
             refine (HF.out (wr.alloc (.cells #[.string ⟨#[]⟩, .string ⟨#[]⟩, .int .i64 0, .int .i64 0, .int .i64 0] 50)).drew ((HI.out.below HBr.out).below Hbz.out)).mono ?_
             rintro e wc ⟨rfl, hbc⟩
             have hbc' : Below wr.heap.size wr wc := Hbz.out.trans (hbc.mono Hbz.out.size)
             have hr1 : RoundCells w.heap.size b (off + k * 5) a (.slice (some ⟨b, off, none⟩) a.sp.length cap) a.sp[k].fr wc := RoundCells.below (w := (wr.alloc (.cells #[.string ⟨#[]⟩, .string ⟨#[]⟩, .int .i64 0, .int .i64 0, .int .i64 0] 50)).drew) HRz.out hbc (Nat.lt_of_lt_of_le mlt Hbz.out.size) (Nat.lt_of_lt_of_le blt Hbz.out.size)
             have HR1 := Lib.hid (show wc.cell? ⟨w.heap.size, 0, none⟩ = some (.int .i64 a.groups) ∧ wc.cell? ⟨w.heap.size, 1, none⟩ = some (.int .i64 a.last) ∧ wc.cell? ⟨w.heap.size, 2, none⟩ = some (.slice (some ⟨b, off, none⟩) a.sp.length cap) ∧ wc.cell? ⟨w.heap.size, 3, none⟩ = some (.int .i64 a.plan.kind) ∧ wc.cell? ⟨w.heap.size, 4, none⟩ = some (.int .i64 a.plan.phase) ∧ wc.cell? ⟨w.heap.size, 5, none⟩ = some (.int .i64 a.plan.shard) ∧ wc.cell? ⟨w.heap.size, 6, none⟩ = some (.int .i64 a.plan.other) ∧ wc.cell? ⟨w.heap.size, 7, none⟩ = some (.int .i64 a.plan.group) ∧ wc.cell? ⟨w.heap.size, 8, none⟩ = some (.int .i64 a.plan.past) ∧ wc.cell? ⟨w.heap.size, 9, none⟩ = some (.int .i64 a.plan.epoch) ∧ wc.cell? ⟨w.heap.size, 10, none⟩ = some (.string a.plan.key) ∧ wc.cell? ⟨b, off + k * 5, none⟩ = some (.string a.sp[k].fr) from hr1)
             have hzc := blk_below hbc (lt_of_some Hzz.out) Hzz.out
             obtain ⟨z0, z1, z2, z3, z4, zlt⟩ := span_blk hzc
             have fz0 := fz_blk hzc 0; have fz1 := fz_blk hzc 1; have fz2 := fz_blk hzc 2; have fz3 := fz_blk hzc 3; have fz4 := fz_blk hzc 4
             simp only [zeroS] at z0 z1 z2 z3 z4
             have hon : Only (· = wr.heap.size) wc (((((wc.setCell ⟨wr.heap.size, 0, none⟩ (.string a.sp[k].fr)).setCell ⟨wr.heap.size, 1, none⟩ (.string a.sp[k].to)).setCell ⟨wr.heap.size, 2, none⟩ (.int .i64 a.sp[k].sh)).setCell ⟨wr.heap.size, 3, none⟩ (.int .i64 a.sp[k].ep)).setCell ⟨wr.heap.size, 4, none⟩ (.int .i64 a.sp[k].gr)) := (((((only_setCell wc ⟨wr.heap.size, 0, none⟩ (.string a.sp[k].fr)).trans (only_setCell (wc.setCell ⟨wr.heap.size, 0, none⟩ (.string a.sp[k].fr)) ⟨wr.heap.size, 1, none⟩ (.string a.sp[k].to)) (fun _ _ h => h)).trans (only_setCell ((wc.setCell ⟨wr.heap.size, 0, none⟩ (.string a.sp[k].fr)).setCell ⟨wr.heap.size, 1, none⟩ (.string a.sp[k].to)) ⟨wr.heap.size, 2, none⟩ (.int .i64 a.sp[k].sh)) (fun _ _ h => h)).trans (only_setCell (((wc.setCell ⟨wr.heap.size, 0, none⟩ (.string a.sp[k].fr)).setCell ⟨wr.heap.size, 1, none⟩ (.string a.sp[k].to)).setCell ⟨wr.heap.size, 2, none⟩ (.int .i64 a.sp[k].sh)) ⟨wr.heap.size, 3, none⟩ (.int .i64 a.sp[k].ep)) (fun _ _ h => h)).trans (only_setCell ((((wc.setCell ⟨wr.heap.size, 0, none⟩ (.string a.sp[k].fr)).setCell ⟨wr.heap.size, 1, none⟩ (.string a.sp[k].to)).setCell ⟨wr.heap.size, 2, none⟩ (.int .i64 a.sp[k].sh)).setCell ⟨wr.heap.size, 3, none⟩ (.int .i64 a.sp[k].ep)) ⟨wr.heap.size, 4, none⟩ (.int .i64 a.sp[k].gr)) (fun _ _ h => h))
             have hr2 : RoundCells w.heap.size b (off + k * 5) a (.slice (some ⟨b, off, none⟩) a.sp.length cap) a.sp[k].fr (((((wc.setCell ⟨wr.heap.size, 0, none⟩ (.string a.sp[k].fr)).setCell ⟨wr.heap.size, 1, none⟩ (.string a.sp[k].to)).setCell ⟨wr.heap.size, 2, none⟩ (.int .i64 a.sp[k].sh)).setCell ⟨wr.heap.size, 3, none⟩ (.int .i64 a.sp[k].ep)).setCell ⟨wr.heap.size, 4, none⟩ (.int .i64 a.sp[k].gr)) := hr1.below (hon.below (B := wr.heap.size) (Below.refl _ _) (fun q hq => by omega) hbc'.size) mlt blt
             have HR2 := Lib.hid (show (((((wc.setCell ⟨wr.heap.size, 0, none⟩ (.string a.sp[k].fr)).setCell ⟨wr.heap.size, 1, none⟩ (.string a.sp[k].to)).setCell ⟨wr.heap.size, 2, none⟩ (.int .i64 a.sp[k].sh)).setCell ⟨wr.heap.size, 3, none⟩ (.int .i64 a.sp[k].ep)).setCell ⟨wr.heap.size, 4, none⟩ (.int .i64 a.sp[k].gr)).cell? ⟨w.heap.size, 0, none⟩ = some (.int .i64 a.groups) ∧ (((((wc.setCell ⟨wr.heap.size, 0, none⟩ (.string a.sp[k].fr)).setCell ⟨wr.heap.size, 1, none⟩ (.string a.sp[k].to)).setCell ⟨wr.heap.size, 2, none⟩ (.int .i64 a.sp[k].sh)).setCell ⟨wr.heap.size, 3, none⟩ (.int .i64 a.sp[k].ep)).setCell ⟨wr.heap.size, 4, none⟩ (.int .i64 a.sp[k].gr)).cell? ⟨w.heap.size, 1, none⟩ = some (.int .i64 a.last) ∧ (((((wc.setCell ⟨wr.heap.size, 0, none⟩ (.string a.sp[k].fr)).setCell ⟨wr.heap.size, 1, none⟩ (.string a.sp[k].to)).setCell ⟨wr.heap.size, 2, none⟩ (.int .i64 a.sp[k].sh)).setCell ⟨wr.heap.size, 3, none⟩ (.int .i64 a.sp[k].ep)).setCell ⟨wr.heap.size, 4, none⟩ (.int .i64 a.sp[k].gr)).cell? ⟨w.heap.size, 2, none⟩ = some (.slice (some ⟨b, off, none⟩) a.sp.length cap) ∧ (((((wc.setCell ⟨wr.heap.size, 0, none⟩ (.string a.sp[k].fr)).setCell ⟨wr.heap.size, 1, none⟩ (.string a.sp[k].to)).setCell ⟨wr.heap.size, 2, none⟩ (.int .i64 a.sp[k].sh)).setCell ⟨wr.heap.size, 3, none⟩ (.int .i64 a.sp[k].ep)).setCell ⟨wr.heap.size, 4, none⟩ (.int .i64 a.sp[k].gr)).cell? ⟨w.heap.size, 3, none⟩ = some (.int .i64 a.plan.kind) ∧ (((((wc.setCell ⟨wr.heap.size, 0, none⟩ (.string a.sp[k].fr)).setCell ⟨wr.heap.size, 1, none⟩ (.string a.sp[k].to)).setCell ⟨wr.heap.size, 2, none⟩ (.int .i64 a.sp[k].sh)).setCell ⟨wr.heap.size, 3, none⟩ (.int .i64 a.sp[k].ep)).setCell ⟨wr.heap.size, 4, none⟩ (.int .i64 a.sp[k].gr)).cell? ⟨w.heap.size, 4, none⟩ = some (.int .i64 a.plan.phase) ∧ (((((wc.setCell ⟨wr.heap.size, 0, none⟩ (.string a.sp[k].fr)).setCell ⟨wr.heap.size, 1, none⟩ (.string a.sp[k].to)).setCell ⟨wr.heap.size, 2, none⟩ (.int .i64 a.sp[k].sh)).setCell ⟨wr.heap.size, 3, none⟩ (.int .i64 a.sp[k].ep)).setCell ⟨wr.heap.size, 4, none⟩ (.int .i64 a.sp[k].gr)).cell? ⟨w.heap.size, 5, none⟩ = some (.int .i64 a.plan.shard) ∧ (((((wc.setCell ⟨wr.heap.size, 0, none⟩ (.string a.sp[k].fr)).setCell ⟨wr.heap.size, 1, none⟩ (.string a.sp[k].to)).setCell ⟨wr.heap.size, 2, none⟩ (.int .i64 a.sp[k].sh)).setCell ⟨wr.heap.size, 3, none⟩ (.int .i64 a.sp[k].ep)).setCell ⟨wr.heap.size, 4, none⟩ (.int .i64 a.sp[k].gr)).cell? ⟨w.heap.size, 6, none⟩ = some (.int .i64 a.plan.other) ∧ (((((wc.setCell ⟨wr.heap.size, 0, none⟩ (.string a.sp[k].fr)).setCell ⟨wr.heap.size, 1, none⟩ (.string a.sp[k].to)).setCell ⟨wr.heap.size, 2, none⟩ (.int .i64 a.sp[k].sh)).setCell ⟨wr.heap.size, 3, none⟩ (.int .i64 a.sp[k].ep)).setCell ⟨wr.heap.size, 4, none⟩ (.int .i64 a.sp[k].gr)).cell? ⟨w.heap.size, 7, none⟩ = some (.int .i64 a.plan.group) ∧ (((((wc.setCell ⟨wr.heap.size, 0, none⟩ (.string a.sp[k].fr)).setCell ⟨wr.heap.size, 1, none⟩ (.string a.sp[k].to)).setCell ⟨wr.heap.size, 2, none⟩ (.int .i64 a.sp[k].sh)).setCell ⟨wr.heap.size, 3, none⟩ (.int .i64 a.sp[k].ep)).setCell ⟨wr.heap.size, 4, none⟩ (.int .i64 a.sp[k].gr)).cell? ⟨w.heap.size, 8, none⟩ = some (.int .i64 a.plan.past) ∧ (((((wc.setCell ⟨wr.heap.size, 0, none⟩ (.string a.sp[k].fr)).setCell ⟨wr.heap.size, 1, none⟩ (.string a.sp[k].to)).setCell ⟨wr.heap.size, 2, none⟩ (.int .i64 a.sp[k].sh)).setCell ⟨wr.heap.size, 3, none⟩ (.int .i64 a.sp[k].ep)).setCell ⟨wr.heap.size, 4, none⟩ (.int .i64 a.sp[k].gr)).cell? ⟨w.heap.size, 9, none⟩ = some (.int .i64 a.plan.epoch) ∧ (((((wc.setCell ⟨wr.heap.size, 0, none⟩ (.string a.sp[k].fr)).setCell ⟨wr.heap.size, 1, none⟩ (.string a.sp[k].to)).setCell ⟨wr.heap.size, 2, none⟩ (.int .i64 a.sp[k].sh)).setCell ⟨wr.heap.size, 3, none⟩ (.int .i64 a.sp[k].ep)).setCell ⟨wr.heap.size, 4, none⟩ (.int .i64 a.sp[k].gr)).cell? ⟨w.heap.size, 10, none⟩ = some (.string a.plan.key) ∧ (((((wc.setCell ⟨wr.heap.size, 0, none⟩ (.string a.sp[k].fr)).setCell ⟨wr.heap.size, 1, none⟩ (.string a.sp[k].to)).setCell ⟨wr.heap.size, 2, none⟩ (.int .i64 a.sp[k].sh)).setCell ⟨wr.heap.size, 3, none⟩ (.int .i64 a.sp[k].ep)).setCell ⟨wr.heap.size, 4, none⟩ (.int .i64 a.sp[k].gr)).cell? ⟨b, off + k * 5, none⟩ = some (.string a.sp[k].fr) from hr2)
             have HR3 := HR2
             have hbw : Below wr.heap.size wr (((((wc.setCell ⟨wr.heap.size, 0, none⟩ (.string a.sp[k].fr)).setCell ⟨wr.heap.size, 1, none⟩ (.string a.sp[k].to)).setCell ⟨wr.heap.size, 2, none⟩ (.int .i64 a.sp[k].sh)).setCell ⟨wr.heap.size, 3, none⟩ (.int .i64 a.sp[k].ep)).setCell ⟨wr.heap.size, 4, none⟩ (.int .i64 a.sp[k].gr)) := hon.below hbc' (fun q hq => by omega) hbc'.size
             have hsw : (((((wc.setCell ⟨wr.heap.size, 0, none⟩ (.string a.sp[k].fr)).setCell ⟨wr.heap.size, 1, none⟩ (.string a.sp[k].to)).setCell ⟨wr.heap.size, 2, none⟩ (.int .i64 a.sp[k].sh)).setCell ⟨wr.heap.size, 3, none⟩ (.int .i64 a.sp[k].ep)).setCell ⟨wr.heap.size, 4, none⟩ (.int .i64 a.sp[k].gr)).heap[wr.heap.size]? = some a.sp[k].blk := by
               have := (heap_setCell_at (i := 4) (heap_setCell_at (i := 3) (heap_setCell_at (i := 2) (heap_setCell_at (i := 1) (heap_setCell_at (i := 0) hzc (.string a.sp[k].fr)) (.string a.sp[k].to)) (.int .i64 a.sp[k].sh)) (.int .i64 a.sp[k].ep)) (.int .i64 a.sp[k].gr))
               refine (show _ = _ from this).trans ?_
               simp only [Span.blk, zeroS, List.setIfInBounds_toArray, List.set_cons_zero, List.set_cons_succ]
             have Hbw := Lib.hid hbw; have Hsw := Lib.hid hsw
             clear hr1 hr2 hbc hbc' hbw hsw hzc hon))
      all_goals
        clear m0 m1 m2 m3 m4 m5 m6 m7 m8 m9 m10 mlt p0 p1 p2 p3 p4
        obtain ⟨s0, s1, s2, s3, s4, slt⟩ := span_blk Hsw.out
        obtain ⟨m0, m1, m2, m3, m4, m5, m6, m7, m8, m9, m10, mlt⟩ := map_cells (blk_below Hbw.out (lt_of_some HXr.out) HXr.out)
        obtain ⟨_, _, he, blt2, p0, p1, p2, p3, p4⟩ := span_cells ((HI.out.below HBr.out).below Hbw.out).row k hlt
        injection he with he
        injection he with hx1 hx2
        subst hx1; subst hx2
        go_wp2_with fail
        go_quiet (fail)
        go_wp2_with fail
        go_roundw
        case rel => exact ⟨k + 1, by omega, by omega, by go_num, below_drewN Hbel.out Hbw.out _⟩
        case measure => simp [intOf]; omega
    · go_wp2
      go_ret
      exact ⟨rfl, hBr⟩
theorem findsA_any (w : World) (A : Option Addr) (cap : Nat) (a : Atl) (x y z : ByteArray) (h : MapIn w A cap a) (hfr : ∀ s ∈ a.sp, s.fr.size ≤ 9223372036854775807) (hx : x.size ≤ 9223372036854775807) (hy : y.size ≤ 9223372036854775807) (hz : z.size ≤ 9223372036854775807) :
    Calls Try.prog 11 #[a.val (.slice A a.sp.length cap), .string x, .string y, .string z] w fun e w' => e = .returned (.bool true) ∧ Below w.heap.size w w' := by
  cases hm : tr (MapOk a)
  · exact finds_wrong w A cap a x y z h hfr zeroS zeroS zeroS false false false (fun w h => find_bad w A cap a x h hm) (fun w h => find_bad w A cap a z h hm) (fun w h => find_bad w A cap a y h hm) hm rfl rfl rfl
  have hok := of_tr hm
  rcases found_ex A cap a x hx hm with h1 | ⟨i, hi, h1, i1, i2⟩
  · rcases found_ex A cap a z hz hm with h2 | ⟨j, hj, h2, j1, j2⟩
    · rcases found_ex A cap a y hy hm with h3 | ⟨k, hk, h3, k1, k2⟩
      · exact finds_x w A cap a x y z h hfr _ _ _ _ _ _ h1 h2 h3 hm rfl
      · exact finds_x w A cap a x y z h hfr _ _ _ _ _ _ h1 h2 h3 hm rfl
    · rcases found_ex A cap a y hy hm with h3 | ⟨k, hk, h3, k1, k2⟩
      · exact finds_x w A cap a x y z h hfr _ _ _ _ _ _ h1 h2 h3 hm rfl
      · exact finds_x w A cap a x y z h hfr _ _ _ _ _ _ h1 h2 h3 hm rfl
  rcases found_ex A cap a z hz hm with h2 | ⟨j, hj, h2, j1, j2⟩
  · rcases found_ex A cap a y hy hm with h3 | ⟨k, hk, h3, k1, k2⟩
    · exact finds_z w A cap a x y z h hfr _ _ _ _ _ _ h1 h2 h3 hm rfl rfl
    · exact finds_z w A cap a x y z h hfr _ _ _ _ _ _ h1 h2 h3 hm rfl rfl
  rcases found_ex A cap a y hy hm with h3 | ⟨k, hk, h3, k1, k2⟩
  · exact finds_y w A cap a x y z h hfr _ _ _ _ _ _ h1 h2 h3 hm rfl rfl rfl
  have le_of : ∀ p q : ByteArray, (Op.bytesLess p.toList q.toList || p.toList == q.toList) = leS p q := fun p q => by
    unfold leS
    rw [lt_or_ge p q]
    simp only [sLt, sEq, Bool.not_not]
    congr 1
    rw [Bool.eq_iff_iff]
    simp
  cases l : (Op.bytesLess x.toList y.toList || x.toList == y.toList)
  · obtain ⟨l1, l2⟩ := Bool.or_eq_false_iff.1 l
    exact finds_xy w A cap a x y z h hfr _ _ _ _ _ _ h1 h2 h3 hm rfl rfl rfl l1 l2 (by simpa using l2)
  have lp : Op.bytesLess x.toList y.toList = true ∨ x.toList = y.toList := by simpa using l
  cases m : (Op.bytesLess y.toList z.toList || y.toList == z.toList)
  · obtain ⟨m1, m2⟩ := Bool.or_eq_false_iff.1 m
    exact finds_yz w A cap a x y z h hfr _ _ _ _ _ _ h1 h2 h3 hm rfl rfl rfl l lp m1 m2 (by simpa using m2)
  have mp : Op.bytesLess y.toList z.toList = true ∨ y.toList = z.toList := by simpa using m
  cases e : eqS a.sp[i].sh a.sp[j].sh a.sp[i].ep a.sp[j].ep a.sp[i].gr a.sp[j].gr a.sp[i].fr a.sp[j].fr a.sp[i].to a.sp[j].to
  · exact finds_st w A cap a x y z h hfr _ _ _ _ _ _ h1 h2 h3 hm rfl rfl rfl l lp m mp e
  have hij : i = j := same_span hok hi hj (eqS_sh e)
  have hik : i ≤ k := found_mono hk hi hok.2.2.2.1 i1 k2 (by rw [← le_of]; exact l)
  have hkj : k ≤ j := found_mono hj hk hok.2.2.2.1 k1 j2 (by rw [← le_of]; exact m)
  obtain rfl : k = i := by omega
  exact finds_us w A cap a x y z h hfr _ _ _ _ _ _ h1 h2 h3 hm rfl rfl rfl l lp m mp e (eqS_refl _ _ _ _ _)
end Go.Proofs.Ytimondpollbdfaa
