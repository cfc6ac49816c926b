/- What is proved: AtlasTells answers yes, whatever the map, the name and the number of groups. -/
import Derived.Test.YtimondpollbdfaaAwakeA
import Derived.Test.YtimondpollbdfaaTellsLaw
set_option linter.unusedVariables false
set_option linter.unusedSimpArgs false
namespace Go.Proofs.Ytimondpollbdfaa
open Go.RowKit
attribute [local go_sem] Span.val Atl.val Plan.val
attribute [local go_sem high] run_eql_eqP run_neq_eqP run_eql_eqS run_neq_eqS
attribute [local go_sem] eqP_refl eqS_refl

theorem find_both (A : Option Addr) (cap : Nat) (a : Atl) (key : ByteArray) (hk : key.size ≤ 9223372036854775807) :
    ∃ (S : Span) (ok : Bool), (∀ w, MapIn w A cap a → Calls Try.prog 30 #[a.val (.slice A a.sp.length cap), .string key] w fun e w' => e = .returned (.tuple #[S.val, .bool ok]) ∧ Below w.heap.size w w') ∧
      (∀ w, MapIn w A cap a → Calls Try.prog 36 #[a.val (.slice A a.sp.length cap), .string key] w fun e w' => e = .returned (.tuple #[S.val, .bool ok]) ∧ Below w.heap.size w w') := by
  cases hm : tr (MapOk a)
  · exact ⟨zeroS, false, fun w h => find_bad w A cap a key h hm, fun w h => rFind_bad w A cap a key (rChecks_all A cap a) h hm⟩
  cases hn : named key
  · exact ⟨zeroS, false, fun w h => find_nameless w A cap a key h hm hk hn, fun w h => rFind_nameless w A cap a key (rChecks_all A cap a) h hm hk hn⟩
  obtain ⟨i, hi, hx, hy, hz⟩ := inSp_ex key (of_tr hm).2.2.2.1
  exact ⟨a.sp[i], true, fun w h => find_some w A cap a key i h hm hk hn hi hx, fun w h => rFind_some w A cap a key i (rChecks_all A cap a) h hm hk hn hi hy hz⟩
def Newed (f : FuncId) (g : Int) (M : Atl) (n : Int) : Prop :=
  ∀ w, Calls Try.prog f #[.int .i64 g] w fun e w' => ∃ A cap, e = .returned (.tuple #[M.val (.slice A M.sp.length cap), .int .i64 n]) ∧ MapIn w' A cap M ∧ Below w.heap.size w w'
theorem new_both (g : Int) : ∃ M n, Newed 37 g M n ∧ Newed 38 g M n := by
  by_cases h : 1 ≤ g ∧ g ≤ 8
  · refine ⟨newA g, 0, fun w => (new_ok w g h.1 h.2).mono ?_, fun w => (rNew_ok w g h.1 h.2).mono ?_⟩
    · rintro e w' ⟨b, rfl, hI, hb⟩
      exact ⟨some ⟨b, 0, none⟩, 1, rfl, hI, hb⟩
    · rintro e w' ⟨b, rfl, hI, hb⟩
      exact ⟨some ⟨b, 0, none⟩, 1, rfl, hI, hb⟩
  · refine ⟨zeroA, 1, fun w => (new_bad w g h).mono ?_, fun w => (rNew_bad w g h).mono ?_⟩
    · rintro e w' ⟨rfl, hb⟩
      exact ⟨none, 0, rfl, noMap_in w' rfl rfl, hb⟩
    · rintro e w' ⟨rfl, hb⟩
      exact ⟨none, 0, rfl, noMap_in w' rfl rfl, hb⟩
theorem wpQuiet_load26 {ops : Array Oper} {rest : List Oper} {op : Oper} {a : Act} {w : World} {Q : Act → Prop} (hw : Region.wanted op (yielded ops a.tmps) = true) (x : Operand) (ho : op.op = .load 26 x) (g : Nat) (hx : a.eval x = .pointer (some ⟨g, 0, none⟩))
    {m : Atl} {v : Value} (h : w.heap[g]? = some (m.blk v)) (hK : wpQuiet Try.prog ops (fun w' => ∃ x, w' = over w x) Q rest (a.put op.dst (m.val v))) : wpQuiet Try.prog ops (fun w' => ∃ x, w' = over w x) Q (op :: rest) a := by
  refine wpQuiet_step fun K hK' => ?_
  rw [if_pos hw]
  refine ⟨_, ?_, hK' _ hK⟩
  rintro _ ⟨y, rfl⟩
  unfold Oper.quietAt execOp
  simp only [ho, hx, Instr.loadAt, Instr.sureAddr, Sem.run_bind, Sem.run_pure, Result.andThen_ok, run_loadVar_mid (over w y) g 0 26 _ _ (map_range (blk_over h)) Try.underlying26 rfl info26]
  exact ⟨rfl, rfl⟩
theorem wpQuiet_load50 {ops : Array Oper} {rest : List Oper} {op : Oper} {a : Act} {w : World} {Q : Act → Prop} (hw : Region.wanted op (yielded ops a.tmps) = true) (x : Operand) (ho : op.op = .load 50 x) (g : Nat) (hx : a.eval x = .pointer (some ⟨g, 0, none⟩))
    {s : Span} (h : w.heap[g]? = some s.blk) (hK : wpQuiet Try.prog ops (fun w' => ∃ x, w' = over w x) Q rest (a.put op.dst s.val)) : wpQuiet Try.prog ops (fun w' => ∃ x, w' = over w x) Q (op :: rest) a := by
  refine wpQuiet_step fun K hK' => ?_
  rw [if_pos hw]
  refine ⟨_, ?_, hK' _ hK⟩
  rintro _ ⟨y, rfl⟩
  unfold Oper.quietAt execOp
  simp only [ho, hx, Instr.loadAt, Instr.sureAddr, Sem.run_bind, Sem.run_pure, Result.andThen_ok, run_loadVar_mid (over w y) g 0 50 _ _ (span_range (blk_over h)) Try.underlying50 rfl info50']
  exact ⟨rfl, rfl⟩

set_option maxRecDepth 100000 in
set_option maxHeartbeats 4000000 in
theorem tellsA_any (w : World) (A : Option Addr) (cap : Nat) (a : Atl) (key : ByteArray) (groups : Int) (h : MapIn w A cap a) (hk : key.size ≤ 9223372036854775807) :
    Calls Try.prog 9 #[a.val (.slice A a.sp.length cap), .string key, .int .i64 groups] w fun e w' => e = .returned (.bool true) ∧ Below w.heap.size w w' := by
  obtain ⟨S, ok, hF1, hF2⟩ := find_both A cap a key hk
  obtain ⟨M, en, hN1, hN2⟩ := new_both groups
  have hC1 := fun w h => check_any w A cap a h
  have hC2 := fun w h => rCheck_any w A cap a h
  generalize tr (MapOk a) = mk at hC1 hC2
  have HF1 := Lib.hid hF1; have HF2 := Lib.hid hF2; have HN1 := Lib.hid hN1; have HN2 := Lib.hid hN2; have HC1 := Lib.hid hC1; have HC2 := Lib.hid hC2
  have HI := Lib.hid h
  clear hF1 hF2 hN1 hN2 hC1 hC2 h hk
  go_enter Try.func9, Try.ntmps9
  go_upto_region 1 with fail
  change Code.wp _ _ _ _ (w.alloc (a.blk (.slice A a.sp.length cap)))
  have hX0 := heap_alloc_new w (a.blk (.slice A a.sp.length cap))
  have hB0 : Below w.heap.size w (w.alloc (a.blk (.slice A a.sp.length cap))) := al _
  generalize w.alloc (a.blk (.slice A a.sp.length cap)) = w0 at *
  have HX0 := Lib.hid hX0; have HB0 := Lib.hid hB0
  clear hX0 hB0
  go_upto_region 3 with (go_at_call 13
                         refine (awakeA _).mono ?_
                         rintro e w1 ⟨rfl, hb1⟩
                         have HX1 := Lib.hid (blk_below hb1 (lt_of_some HX0.out) HX0.out)
                         have HB1 := Lib.hid (HB0.out.trans (hb1.mono HB0.out.size))
                         clear hb1)
  refine wp_region_lit ?_
  refine wpList_load26 rfl (.tmp 3) rfl (w.heap.size) rfl HX1.out ?_
  simp only [Act.put, List.setIfInBounds_toArray, List.set_cons_zero, List.set_cons_succ]
  refine wpList_step (fun K hK => ?_)
  go_simp
  refine hK _ _ ?_
  clear hK K
  refine wpList_step (fun K hK => ?_)
  go_simp
  go_at_call 30
  refine (HF1.out _ (HI.out.below HB1.out)).mono ?_
  rintro e w2 ⟨rfl, hb2⟩
  refine hK _ _ ?_
  clear hK K
  refine wpList_step (fun K hK => ?_)
  go_simp
  refine hK _ _ ?_
  clear hK K
  refine wpList_step (fun K hK => ?_)
  go_simp
  refine hK _ _ ?_
  clear hK K
  refine wpList_step (fun K hK => ?_)
  go_simp
  refine hK _ _ ?_
  clear hK K
  refine wpList_step (fun K hK => ?_)
  go_simp
  refine hK _ _ ?_
  clear hK K
  refine wpList_store50 rfl (.tmp 7) (.tmp 21) rfl w2.heap.size rfl (p := S) (p0 := zeroS) rfl (heap_alloc_new w2 _) ?_
  intro w3 hS ho
  simp only [Act.put, List.setIfInBounds_toArray, List.set_cons_zero, List.set_cons_succ]
  have hb : Below w2.heap.size w2 w3 := ho.below (al _) (fun k hk => by omega) (by simp)
  have hl3 : w2.heap.size < w3.heap.size := lt_of_some hS
  have hbx : Below w1.heap.size w1 w3 := hb2.trans (hb.mono hb2.size)
  have HX3 := Lib.hid (blk_below hbx (lt_of_some HX1.out) HX1.out)
  have HB3 := Lib.hid (HB1.out.trans (hbx.mono HB1.out.size))
  have HS3 := Lib.hid hS
  clear hb2 hb hbx hS ho
  go_upto_region 4 with fail
  refine wp_region_lit ?_
  refine wpList_load26 rfl (.tmp 3) rfl (w.heap.size) rfl HX3.out ?_
  simp only [Act.put, List.setIfInBounds_toArray, List.set_cons_zero, List.set_cons_succ]
  refine wpList_step (fun K hK => ?_)
  go_simp
  refine hK _ _ ?_
  clear hK K
  refine wpList_step (fun K hK => ?_)
  go_simp
  go_at_call 36
  refine (HF2.out _ (HI.out.below HB3.out)).mono ?_
  rintro e w4 ⟨rfl, hb4⟩
  refine hK _ _ ?_
  clear hK K
  refine wpList_step (fun K hK => ?_)
  go_simp
  refine hK _ _ ?_
  clear hK K
  refine wpList_step (fun K hK => ?_)
  go_simp
  refine hK _ _ ?_
  clear hK K
  refine wpList_step (fun K hK => ?_)
  go_simp
  refine hK _ _ ?_
  clear hK K
  refine wpList_step (fun K hK => ?_)
  go_simp
  refine hK _ _ ?_
  clear hK K
  refine wpList_store50 rfl (.tmp 9) (.tmp 27) rfl w4.heap.size rfl (p := S) (p0 := zeroS) rfl (heap_alloc_new w4 _) ?_
  intro w5 hT ho
  simp only [Act.put, List.setIfInBounds_toArray, List.set_cons_zero, List.set_cons_succ]
  have hb : Below w4.heap.size w4 w5 := ho.below (al _) (fun k hk => by omega) (by simp)
  have hl5 : w4.heap.size < w5.heap.size := lt_of_some hT
  have hbx : Below w3.heap.size w3 w5 := hb4.trans (hb.mono hb4.size)
  have HX5 := Lib.hid (blk_below hbx (lt_of_some HX3.out) HX3.out)
  have HB5 := Lib.hid (HB3.out.trans (hbx.mono HB3.out.size))
  have HS5 := Lib.hid (blk_below hbx (lt_of_some HS3.out) HS3.out)
  have HT5 := Lib.hid hT
  clear hb4 hb hbx hT ho
  go_upto_region 5 with fail
  refine wp_region_lit ?_
  refine wpList_step (fun K hK => ?_)
  go_simp
  refine hK _ _ ?_
  clear hK K
  refine wpList_step (fun K hK => ?_)
  go_simp
  go_at_call 37
  refine (HN1.out _).mono ?_
  rintro e w6 ⟨Ap, cp, rfl, hIp, hb6⟩
  refine hK _ _ ?_
  clear hK K
  refine wpList_step (fun K hK => ?_)
  go_simp
  refine hK _ _ ?_
  clear hK K
  refine wpList_step (fun K hK => ?_)
  go_simp
  refine hK _ _ ?_
  clear hK K
  refine wpList_step (fun K hK => ?_)
  go_simp
  refine hK _ _ ?_
  clear hK K
  refine wpList_step (fun K hK => ?_)
  go_simp
  refine hK _ _ ?_
  clear hK K
  refine wpList_store26 rfl (.tmp 11) (.tmp 32) rfl w6.heap.size rfl (m := M) (v := (.slice Ap M.sp.length cp)) (m0 := zeroA) (v0 := nilV) rfl rfl (heap_alloc_new w6 _) ?_
  intro w7 hMp ho
  simp only [Act.put, List.setIfInBounds_toArray, List.set_cons_zero, List.set_cons_succ]
  have hb : Below w6.heap.size w6 w7 := ho.below (al _) (fun k hk => by omega) (by simp)
  have hl : w6.heap.size < w7.heap.size := lt_of_some hMp
  clear ho
  have hbx : Below w5.heap.size w5 w7 := hb6.trans (hb.mono hb6.size)
  have HX7 := Lib.hid (blk_below hbx (lt_of_some HX5.out) HX5.out)
  have HS7 := Lib.hid (blk_below hbx (lt_of_some HS5.out) HS5.out)
  have HT7 := Lib.hid (blk_below hbx (lt_of_some HT5.out) HT5.out)
  have HB7 := Lib.hid (HB5.out.trans (hbx.mono HB5.out.size))
  have HMp7 := Lib.hid hMp
  have HIp7 := Lib.hid (hIp.below hb)
  clear hb6 hb hbx hMp hIp
  go_upto_region 6 with fail
  refine wp_region_lit ?_
  refine wpList_step (fun K hK => ?_)
  go_simp
  refine hK _ _ ?_
  clear hK K
  refine wpList_step (fun K hK => ?_)
  go_simp
  go_at_call 38
  refine (HN2.out _).mono ?_
  rintro e w8 ⟨Aq, cq, rfl, hIq, hb8⟩
  refine hK _ _ ?_
  clear hK K
  refine wpList_step (fun K hK => ?_)
  go_simp
  refine hK _ _ ?_
  clear hK K
  refine wpList_step (fun K hK => ?_)
  go_simp
  refine hK _ _ ?_
  clear hK K
  refine wpList_step (fun K hK => ?_)
  go_simp
  refine hK _ _ ?_
  clear hK K
  refine wpList_step (fun K hK => ?_)
  go_simp
  refine hK _ _ ?_
  clear hK K
  refine wpList_store26 rfl (.tmp 13) (.tmp 37) rfl w8.heap.size rfl (m := M) (v := (.slice Aq M.sp.length cq)) (m0 := zeroA) (v0 := nilV) rfl rfl (heap_alloc_new w8 _) ?_
  intro w9 hMq ho
  simp only [Act.put, List.setIfInBounds_toArray, List.set_cons_zero, List.set_cons_succ]
  have hb : Below w8.heap.size w8 w9 := ho.below (al _) (fun k hk => by omega) (by simp)
  have hl : w8.heap.size < w9.heap.size := lt_of_some hMq
  clear ho
  have hbx : Below w7.heap.size w7 w9 := hb8.trans (hb.mono hb8.size)
  have HX9 := Lib.hid (blk_below hbx (lt_of_some HX7.out) HX7.out)
  have HS9 := Lib.hid (blk_below hbx (lt_of_some HS7.out) HS7.out)
  have HT9 := Lib.hid (blk_below hbx (lt_of_some HT7.out) HT7.out)
  have HB9 := Lib.hid (HB7.out.trans (hbx.mono HB7.out.size))
  have HMp9 := Lib.hid (blk_below hbx (lt_of_some HMp7.out) HMp7.out)
  have HIp9 := Lib.hid (HIp7.out.below hbx)
  have HMq9 := Lib.hid hMq
  have HIq9 := Lib.hid (hIq.below hb)
  clear hb8 hb hbx hMq hIq
  go_upto_region 7 with fail
  have hpost : ∀ x, Below w.heap.size w (over w9 x) := fun x => HB9.out.trans ((below_over w9 x).mono HB9.out.size)
  refine wp_region_over (by kernel_rfl) (by kernel_rfl) ?_
  refine wpQuiet_load26 rfl (.tmp 3) rfl (w.heap.size) rfl HX9.out ?_
  simp only [Act.put, List.setIfInBounds_toArray, List.set_cons_zero, List.set_cons_succ]
  go_big_quiet_step (first
    | (go_at_call 29; exact calls_over (HC1.out _ ((HI.out.below HB9.out).below (below_over w9 _))))
    | (go_at_call 39; exact calls_over (HC2.out _ ((HI.out.below HB9.out).below (below_over w9 _))))
    | (go_at_call 16; exact calls_over (same_true (over w9 _) Ap Aq cp cq M (HIp9.out.below (below_over w9 _)) (HIq9.out.below (below_over w9 _)))))
  refine wpQuiet_load26 rfl (.tmp 3) rfl (w.heap.size) rfl HX9.out ?_
  simp only [Act.put, List.setIfInBounds_toArray, List.set_cons_zero, List.set_cons_succ]
  go_big_quiet_step (first
    | (go_at_call 29; exact calls_over (HC1.out _ ((HI.out.below HB9.out).below (below_over w9 _))))
    | (go_at_call 39; exact calls_over (HC2.out _ ((HI.out.below HB9.out).below (below_over w9 _))))
    | (go_at_call 16; exact calls_over (same_true (over w9 _) Ap Aq cp cq M (HIp9.out.below (below_over w9 _)) (HIq9.out.below (below_over w9 _)))))
  go_big_quiet_step (fail)
  go_big_quiet_step (fail)
  refine wpQuiet_load50 rfl (.tmp 7) rfl (w2.heap.size) rfl HS9.out ?_
  simp only [Act.put, List.setIfInBounds_toArray, List.set_cons_zero, List.set_cons_succ]
  refine wpQuiet_load50 rfl (.tmp 9) rfl (w4.heap.size) rfl HT9.out ?_
  simp only [Act.put, List.setIfInBounds_toArray, List.set_cons_zero, List.set_cons_succ]
  go_big_quiet_step (fail)
  go_big_quiet_step (fail)
  go_big_quiet_step (fail)
  go_big_quiet_step (fail)
  go_big_quiet_step (fail)
  go_big_quiet_step (fail)
  go_big_quiet_step (fail)
  go_big_quiet_step (fail)
  refine wpQuiet_load26 rfl (.tmp 11) rfl (w6.heap.size) rfl HMp9.out ?_
  simp only [Act.put, List.setIfInBounds_toArray, List.set_cons_zero, List.set_cons_succ]
  refine wpQuiet_load26 rfl (.tmp 13) rfl (w8.heap.size) rfl HMq9.out ?_
  simp only [Act.put, List.setIfInBounds_toArray, List.set_cons_zero, List.set_cons_succ]
  go_big_quiet_step (first
    | (go_at_call 29; exact calls_over (HC1.out _ ((HI.out.below HB9.out).below (below_over w9 _))))
    | (go_at_call 39; exact calls_over (HC2.out _ ((HI.out.below HB9.out).below (below_over w9 _))))
    | (go_at_call 16; exact calls_over (same_true (over w9 _) Ap Aq cp cq M (HIp9.out.below (below_over w9 _)) (HIq9.out.below (below_over w9 _)))))
  go_big_quiet_step (fail)
  go_big_quiet_step (fail)
  go_big_quiet_step (fail)
  go_big_quiet_step (fail)
  go_big_quiet_step (fail)
  go_big_quiet_step (fail)
  go_big_quiet_step (fail)
  refine wpQuiet_nil ?_
  intro _ hw'
  obtain ⟨nx, hw''⟩ := hw'
  subst hw''
  go_wp2
  go_ret
  exact ⟨rfl, hpost nx⟩
end Go.Proofs.Ytimondpollbdfaa
