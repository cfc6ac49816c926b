/- What is proved: the law's first question on maps (the answers that the document fixes) is answered yes. -/
import Derived.Test.YtimondpollbdfaaAdv17
import Derived.Test.YtimondpollbdfaaPlan42
import Derived.Test.YtimondpollbdfaaFind
set_option linter.unusedVariables false
set_option linter.unusedSimpArgs false
namespace Go.Proofs.Ytimondpollbdfaa
open Go.RowKit
attribute [local go_sem] Span.val Atl.val Plan.val

theorem span_range {W : World} {g : Nat} {s : Span} (h : W.heap[g]? = some s.blk) : W.rangeAt g 0 [.string s.fr, .string s.to, .int .i64 s.sh, .int .i64 s.ep, .int .i64 s.gr] := fun i u hi => by
    rw [Nat.zero_add]
    simp only [World.cell?, h, Span.blk]
    simpa using hi
theorem span_one (s : Span) : (#[Value.string s.fr, .string s.to, .int .i64 s.sh, .int .i64 s.ep, .int .i64 s.gr] : Array Value).all (·.oneCell') = true := by
  refine all_oneCell_toArray (cs := [_, _, _, _, _]) ?_
  intro u hu
  simp only [List.mem_cons, List.not_mem_nil, or_false] at hu
  rcases hu with rfl | rfl | rfl | rfl | rfl
  all_goals rfl
theorem info50' : (Try.prog.info? 50).map (·.size) = some 5 := by kernel_rfl
theorem wpList_store50 {ops : Array Oper} {rest : List Oper} {op : Oper} {a : Act} {w : World} {Q : Exit → Act → World → Prop} (hgd : op.guard = none) (x y : Operand) (ho : op.op = .store 50 x y) (g : Nat) (hx : a.eval x = .pointer (some ⟨g, 0, none⟩))
    {p p0 : Span} (hy : a.eval y = p.val) (h : w.heap[g]? = some p0.blk)
    (hK : ∀ w', w'.heap[g]? = some p.blk → Only (· = g) w w' → wpList Try.prog ops Q rest (a.put op.dst undef) w') : wpList Try.prog ops Q (op :: rest) a w :=
  wpList_store_row hgd 50 x y ho g _ hx hy 50 _ h info50' rfl (span_one p) (hK _ (setRow_heap w g _ _ 50 (0, 0) h) (only_setRow w g _))

def awP : Plan := ⟨1, 0, 1, 0, 2, 0, 0, ⟨#[]⟩⟩
def awB : Atl := ⟨2, 1, [newS], ⟨1, 1, 1, 0, 2, 1, 1, ⟨#[]⟩⟩⟩
def awS : Span := ⟨⟨#[]⟩, ⟨#[]⟩, 1, 2, 2⟩
def awC : Atl := ⟨2, 1, [awS], ⟨1, 2, 1, 0, 2, 1, 1, ⟨#[]⟩⟩⟩
def xS : ByteArray := ⟨#[120]⟩
theorem xS_ok : named xS = true := by decide
theorem newA2_ok' : MapOk (newA 2) := newA_ok (by decide) (by decide)
theorem awB_ok : tr (MapOk awB) = true := tr_true ⟨by decide, by decide, by decide, newA2_ok'.2.2.2.1, newA2_ok'.2.2.2.2.1, .inr ⟨0, by decide, rfl, by decide, by decide, .inl ⟨rfl, by simp [moveOk, isE, awB, newS]⟩⟩⟩
theorem awC_ok : tr (MapOk awC) = true := tr_true ⟨by decide, by decide, by decide, ⟨by simp [awC], by simp [awC], by simp [awC, awS], by simp [awC, awS], fun i h => by simp [awC] at h⟩, fun i h => by
  have : i = 0 := by simp [awC] at h; exact h
  subst this
  exact ⟨by show (1 : Int) ≤ 1; omega, by show (1 : Int) ≤ 1; omega, rfl, by show (1 : Int) ≤ 2; omega, by show (2 : Int) ≤ 1099511627776; omega, by show (1 : Int) ≤ 2; omega, by show (2 : Int) ≤ 2; omega⟩, .inr ⟨0, by decide, rfl, by decide, by decide, .inl ⟨rfl, by simp [moveOk, isE, awC, awS]⟩⟩⟩
theorem awC_first : idxOf (inSp xS) awC.sp = ((0 : Nat) : Int) := by
  obtain ⟨i, hi, hx, _⟩ := inSp_ex xS (of_tr awC_ok).2.2.2.1
  have : i = 0 := by simp [awC] at hi; exact hi
  subst this
  exact hx
theorem awa14 (w : World) (A : Option Addr) (cap : Nat) (h : MapIn w A cap (newA 2)) : Calls Try.prog 14 #[(newA 2).val (.slice A 1 cap), awP.val] w fun e w' => ∃ A' cap', e = .returned (.tuple #[awB.val (.slice A' 1 cap'), .int .i64 0]) ∧ MapIn w' A' cap' awB ∧ Below w.heap.size w w' :=
  begin_plain w A cap (newA 2) awP h (tr_true newA2_ok') 0 { plan0 newS awP with group := 2, past := 1 } (by decide) rfl
    (fun w A cap h => plan_move w A cap (newA 2) 0 newS awP h.row (by decide) (by decide) (by decide) rfl (by decide) (by decide) (by decide) (by decide) rfl (by decide) (by decide) (by decide) (by decide)) (by decide) rfl (by decide) (by decide) (by decide) rfl
theorem awa17 (w : World) (A : Option Addr) (cap : Nat) (h : MapIn w A cap awB) : Calls Try.prog 17 #[awB.val (.slice A 1 cap), .int .i64 1] w fun e w' => ∃ A' cap', e = .returned (.tuple #[awC.val (.slice A' 1 cap'), .int .i64 0]) ∧ MapIn w' A' cap' awC ∧ Below w.heap.size w w' :=
  advance_move1 w A cap awB h awB_ok 0 newS (by decide) rfl rfl (by decide) (by decide) (by decide) (by decide) (by decide) (by decide) (by decide)
theorem awa17b (w : World) (A : Option Addr) (cap : Nat) (h : MapIn w A cap awC) : Calls Try.prog 17 #[awC.val (.slice A 1 cap), .int .i64 1] w fun e w' => ∃ A' cap', e = .returned (.tuple #[awC.val (.slice A' 1 cap'), .int .i64 4]) ∧ MapIn w' A' cap' awC ∧ Below w.heap.size w w' :=
  advance_phase w A cap awC 1 h awC_ok (by decide) (by decide)
theorem awa30 (w : World) (A : Option Addr) (cap : Nat) (h : MapIn w A cap awC) : Calls Try.prog 30 #[awC.val (.slice A 1 cap), .string xS] w fun e w' => e = .returned (.tuple #[awS.val, .bool true]) ∧ Below w.heap.size w w' :=
  find_some w A cap awC xS 0 h awC_ok (by decide) xS_ok (by decide) awC_first

set_option maxRecDepth 100000 in
set_option maxHeartbeats 2000000 in
theorem awakeA (w : World) : Calls Try.prog 13 #[] w fun e w' => e = .returned (.bool true) ∧ Below w.heap.size w w' := by
  go_enter Try.func13, Try.ntmps13
  go_upto_region 1 with fail
  refine wp_region_lit ?_
  refine wpList_step (fun K hK => ?_)
  go_simp
  go_at_call 37
  refine (new_ok _ 2 (by decide) (by decide)).mono ?_
  rintro e w1 ⟨nb, rfl, hI1, hb1⟩
  refine hK _ _ ?_
  clear hK K
  refine wpList_step (fun K hK => ?_)
  go_simp
  refine hK _ _ ?_
  clear hK K
  refine wpList_step (fun K hK => ?_)
  go_simp
  refine hK _ _ ?_
  clear hK K
  refine wpList_step (fun K hK => ?_)
  go_simp
  refine hK _ _ ?_
  clear hK K
  refine wpList_step (fun K hK => ?_)
  go_simp
  refine hK _ _ ?_
  clear hK K
  refine wpList_store26 rfl (.tmp 1) (.tmp 13) rfl w1.heap.size rfl (m := newA 2) (v := (.slice (some ⟨nb, 0, none⟩) 1 1)) (m0 := zeroA) (v0 := nilV) rfl rfl (heap_alloc_new w1 _) ?_
  intro w2 hA2 ho
  simp only [Act.put, List.setIfInBounds_toArray, List.set_cons_zero, List.set_cons_succ]
  have hb : Below w1.heap.size w1 w2 := ho.below (al _) (fun k hk => by omega) (by simp)
  have hl : w1.heap.size < w2.heap.size := lt_of_some hA2
  clear ho
  have HB2 := Lib.hid (hb1.trans (hb.mono hb1.size))
  have HI2 := Lib.hid (hI1.below hb)
  have HA2 := Lib.hid hA2
  clear hb1 hb hI1 hA2
  go_upto_region 2 with fail
  refine wp_region_lit ?_
  refine wpList_load26 rfl (.tmp 1) rfl (w1.heap.size) rfl HA2.out ?_
  simp only [Act.put, List.setIfInBounds_toArray, List.set_cons_zero, List.set_cons_succ]
  refine wpList_step (fun K hK => ?_)
  go_simp
  refine hK _ _ ?_
  clear hK K
  refine wpList_step (fun K hK => ?_)
  go_simp
  go_at_call 14
  refine (awa14 _ _ _ HI2.out).mono ?_
  rintro e w3 ⟨A3, c3, rfl, hI3, hb3⟩
  refine hK _ _ ?_
  clear hK K
  refine wpList_step (fun K hK => ?_)
  go_simp
  refine hK _ _ ?_
  clear hK K
  refine wpList_step (fun K hK => ?_)
  go_simp
  refine hK _ _ ?_
  clear hK K
  refine wpList_step (fun K hK => ?_)
  go_simp
  refine hK _ _ ?_
  clear hK K
  refine wpList_step (fun K hK => ?_)
  go_simp
  refine hK _ _ ?_
  clear hK K
  refine wpList_store26 rfl (.tmp 3) (.tmp 19) rfl w3.heap.size rfl (m := awB) (v := (.slice A3 1 c3)) (m0 := zeroA) (v0 := nilV) rfl rfl (heap_alloc_new w3 _) ?_
  intro w4 hA4 ho
  simp only [Act.put, List.setIfInBounds_toArray, List.set_cons_zero, List.set_cons_succ]
  have hb : Below w3.heap.size w3 w4 := ho.below (al _) (fun k hk => by omega) (by simp)
  have hl : w3.heap.size < w4.heap.size := lt_of_some hA4
  clear ho
  have hbx : Below w2.heap.size w2 w4 := hb3.trans (hb.mono hb3.size)
  have HB4 := Lib.hid (HB2.out.trans (hbx.mono HB2.out.size))
  have HI4 := Lib.hid (hI3.below hb)
  have HA4 := Lib.hid hA4
  clear hb3 hb hI3 hA4 hbx
  go_upto_region 3 with fail
  refine wp_region_lit ?_
  refine wpList_load26 rfl (.tmp 3) rfl (w3.heap.size) rfl HA4.out ?_
  simp only [Act.put, List.setIfInBounds_toArray, List.set_cons_zero, List.set_cons_succ]
  refine wpList_step (fun K hK => ?_)
  go_simp
  go_at_call 17
  refine (awa17 _ _ _ HI4.out).mono ?_
  rintro e w5 ⟨A5, c5, rfl, hI5, hb5⟩
  refine hK _ _ ?_
  clear hK K
  refine wpList_step (fun K hK => ?_)
  go_simp
  refine hK _ _ ?_
  clear hK K
  refine wpList_step (fun K hK => ?_)
  go_simp
  refine hK _ _ ?_
  clear hK K
  refine wpList_step (fun K hK => ?_)
  go_simp
  refine hK _ _ ?_
  clear hK K
  refine wpList_step (fun K hK => ?_)
  go_simp
  refine hK _ _ ?_
  clear hK K
  refine wpList_store26 rfl (.tmp 5) (.tmp 24) rfl w5.heap.size rfl (m := awC) (v := (.slice A5 1 c5)) (m0 := zeroA) (v0 := nilV) rfl rfl (heap_alloc_new w5 _) ?_
  intro w6 hA6 ho
  simp only [Act.put, List.setIfInBounds_toArray, List.set_cons_zero, List.set_cons_succ]
  have hb : Below w5.heap.size w5 w6 := ho.below (al _) (fun k hk => by omega) (by simp)
  have hl : w5.heap.size < w6.heap.size := lt_of_some hA6
  clear ho
  have hbx : Below w4.heap.size w4 w6 := hb5.trans (hb.mono hb5.size)
  have HB6 := Lib.hid (HB4.out.trans (hbx.mono HB4.out.size))
  have HI6 := Lib.hid (hI5.below hb)
  have HA6 := Lib.hid hA6
  have HAb6 := Lib.hid (blk_below hbx (lt_of_some HA4.out) HA4.out)
  clear hb5 hb hI5 hA6 hbx
  go_upto_region 4 with fail
  refine wp_region_lit ?_
  refine wpList_load26 rfl (.tmp 5) rfl (w5.heap.size) rfl HA6.out ?_
  simp only [Act.put, List.setIfInBounds_toArray, List.set_cons_zero, List.set_cons_succ]
  refine wpList_step (fun K hK => ?_)
  go_simp
  go_at_call 30
  refine (awa30 _ _ _ HI6.out).mono ?_
  rintro e w7 ⟨rfl, hb7⟩
  refine hK _ _ ?_
  clear hK K
  refine wpList_step (fun K hK => ?_)
  go_simp
  refine hK _ _ ?_
  clear hK K
  refine wpList_step (fun K hK => ?_)
  go_simp
  refine hK _ _ ?_
  clear hK K
  refine wpList_step (fun K hK => ?_)
  go_simp
  refine hK _ _ ?_
  clear hK K
  refine wpList_step (fun K hK => ?_)
  go_simp
  refine hK _ _ ?_
  clear hK K
  refine wpList_store50 rfl (.tmp 7) (.tmp 29) rfl w7.heap.size rfl (p := awS) (p0 := zeroS) rfl (heap_alloc_new w7 _) ?_
  intro w8 hS8 ho
  simp only [Act.put, List.setIfInBounds_toArray, List.set_cons_zero, List.set_cons_succ]
  have hb : Below w7.heap.size w7 w8 := ho.below (al _) (fun k hk => by omega) (by simp)
  have hl : w7.heap.size < w8.heap.size := lt_of_some hS8
  have hbx : Below w6.heap.size w6 w8 := hb7.trans (hb.mono hb7.size)
  have HB8 := Lib.hid (HB6.out.trans (hbx.mono HB6.out.size))
  have HI8 := Lib.hid (HI6.out.below hbx)
  have HA8 := Lib.hid (blk_below hbx (lt_of_some HA6.out) HA6.out)
  have HAb8 := Lib.hid (blk_below hbx (lt_of_some HAb6.out) HAb6.out)
  have HS8 := Lib.hid hS8
  clear hb7 hb hbx hS8 ho
  go_upto_region 5 with fail
  refine wp_region_lit ?_
  refine wpList_load26 rfl (.tmp 5) rfl (w5.heap.size) rfl HA8.out ?_
  simp only [Act.put, List.setIfInBounds_toArray, List.set_cons_zero, List.set_cons_succ]
  refine wpList_step (fun K hK => ?_)
  go_simp
  go_at_call 17
  refine (awa17b _ _ _ HI8.out).mono ?_
  rintro e w9 ⟨A9, c9, rfl, hI9, hb9⟩
  refine hK _ _ ?_
  clear hK K
  refine wpList_step (fun K hK => ?_)
  go_simp
  refine hK _ _ ?_
  clear hK K
  refine wpList_step (fun K hK => ?_)
  go_simp
  refine hK _ _ ?_
  clear hK K
  refine wpList_step (fun K hK => ?_)
  go_simp
  refine hK _ _ ?_
  clear hK K
  refine wpList_step (fun K hK => ?_)
  go_simp
  refine hK _ _ ?_
  clear hK K
  refine wpList_store26 rfl (.tmp 9) (.tmp 34) rfl w9.heap.size rfl (m := awC) (v := (.slice A9 1 c9)) (m0 := zeroA) (v0 := nilV) rfl rfl (heap_alloc_new w9 _) ?_
  intro w10 hA10 ho
  simp only [Act.put, List.setIfInBounds_toArray, List.set_cons_zero, List.set_cons_succ]
  have hb : Below w9.heap.size w9 w10 := ho.below (al _) (fun k hk => by omega) (by simp)
  have hl : w9.heap.size < w10.heap.size := lt_of_some hA10
  clear ho
  have hbx : Below w8.heap.size w8 w10 := hb9.trans (hb.mono hb9.size)
  have HB10 := Lib.hid (HB8.out.trans (hbx.mono HB8.out.size))
  obtain ⟨m0, m1, m2, m3, m4, m5, m6, m7, m8, m9, m10, mlt⟩ := map_cells (blk_below hbx (lt_of_some HAb8.out) HAb8.out)
  obtain ⟨s0, s1, s2, s3, s4, slt⟩ := span_blk (blk_below hbx (lt_of_some HS8.out) HS8.out)
  clear hb9 hb hI9 hA10 hbx
  go_wp2_with fail
  go_ret
  exact ⟨rfl, HB10.out⟩
end Go.Proofs.Ytimondpollbdfaa
