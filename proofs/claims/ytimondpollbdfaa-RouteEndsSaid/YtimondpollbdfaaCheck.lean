/- What is proved: whether a map is right: the program's Check. -/
import Derived.Test.YtimondpollbdfaaPlanAny
set_option linter.unusedVariables false
set_option linter.unusedSimpArgs false
namespace Go.Proofs.Ytimondpollbdfaa
open Go.RowKit
attribute [local go_sem] Span.val Atl.val Plan.val
attribute [local go_sem high] run_eql_eqP run_neq_eqP run_eql_eqS run_neq_eqS

def SpanOk (a : Atl) (i : Nat) (s : Span) : Prop := 1 ≤ s.sh ∧ s.sh ≤ a.last ∧ place a.sp s.sh = (i : Int) ∧ 1 ≤ s.ep ∧ s.ep ≤ 1099511627776 ∧ 1 ≤ s.gr ∧ s.gr ≤ a.groups
def MapOk (a : Atl) : Prop := 1 ≤ a.groups ∧ a.groups ≤ 8 ∧ a.last ≤ 1099511627776 ∧ CoversOk a.sp ∧ (∀ i (h : i < a.sp.length), SpanOk a i a.sp[i]) ∧ PlanOk a
/-- A map that is handed in: what is known of its memory. -/
structure MapIn (w : World) (A : Option Addr) (cap : Nat) (a : Atl) : Prop where
  row : RowAt w w.heap.size 5 A (a.sp.map Span.cells)
  ncap : a.sp.length ≤ cap
  cmax : cap ≤ 9223372036854775807
  sz : ∀ s ∈ a.sp, s.to.size ≤ 9223372036854775807
  key : a.plan.key.size ≤ 9223372036854775807
theorem MapIn.below {w w' : World} {A : Option Addr} {cap : Nat} {a : Atl} (h : MapIn w A cap a) (hb : Below w.heap.size w w') : MapIn w' A cap a :=
  ⟨(h.row.below hb (Nat.le_refl _)).more hb.size, h.ncap, h.cmax, h.sz, h.key⟩

set_option maxRecDepth 100000 in
set_option maxHeartbeats 4000000 in
theorem check_any (w : World) (A : Option Addr) (cap : Nat) (a : Atl) (h : MapIn w A cap a) :
    Calls Try.prog 29 #[a.val (.slice A a.sp.length cap)] w fun e w' => e = .returned (.bool (tr (MapOk a))) ∧ Below w.heap.size w w' := by
  have hlen : a.sp.length ≤ 9223372036854775807 := Nat.le_trans h.ncap h.cmax
  have hcov := fun w hr => covers_any w A cap a.sp.length a.sp hr rfl hlen h.ncap h.cmax h.sz
  have Hcov := Lib.hid hcov; have HI := Lib.hid h; clear hcov h
  by_cases hC : CoversOk a.sp
  case neg =>
    have Hfal := Lib.hid (tr_false (P := MapOk a) fun h => hC h.2.2.2.1)
    rw [tr_false hC] at Hcov
    clear hC
    go_enter Try.func29, Try.ntmps29
    go_wp2_with (first
      | (go_at_call 52
         refine (Hcov.out _ (HI.out.below (al _)).row).mono ?_
         rintro e w1 ⟨rfl, hb1⟩))
    all_goals
      go_ret
      first
        | exact ⟨ret_bool Hfal.out.symm, al _⟩
        | exact ⟨ret_bool Hfal.out.symm, (al _).trans (hb1.mono (by simp))⟩
  have h16 := hC.1
  rw [tr_true hC] at Hcov
  have HC := Lib.hid hC; clear hC
  go_enter Try.func29, Try.ntmps29
  go_wp2_with (first
    | (go_at_call 52
       refine (Hcov.out _ (HI.out.below (al _)).row).mono ?_
       rintro e w1 ⟨rfl, hb1⟩
       have hM := blk_below (o := a.blk (.slice A a.sp.length cap)) hb1 (by simp) (heap_alloc_new w _)
       obtain ⟨m0, m1, m2, m3, m4, m5, m6, m7, m8, m9, m10, mlt⟩ := map_cells hM
       have hB := (al (w := w) (a.blk (.slice A a.sp.length cap))).trans (hb1.mono (by simp))
       have HM := Lib.hid hM; have HB := Lib.hid hB
       clear hb1 hM hB))
  all_goals try (
    go_ret
    first
      | exact ⟨ret_bool (tr_false (P := MapOk a) fun h => by have := h.1; have := h.2.1; have := h.2.2.1; omega).symm, al _⟩
      | exact ⟨ret_bool (tr_false (P := MapOk a) fun h => by have := h.1; have := h.2.1; have := h.2.2.1; omega).symm, HB.out⟩)
  have hg1 : 1 ≤ a.groups := by omega
  have hg2 : a.groups ≤ 8 := by omega
  have hg3 : a.last ≤ 1099511627776 := by omega
  go_loopw [27] (fun i wr => ∃ k : Nat, k ≤ a.sp.length ∧ (∀ j (_ : j < k) (h : j < a.sp.length), SpanOk a j a.sp[j]) ∧ i = .int .i64 k ∧ Below w1.heap.size w1 wr) (fun i _ => a.sp.length - (intOf i).toNat)
  case atStart => exact ⟨0, Nat.zero_le _, fun j h => absurd h (by omega), rfl, Below.refl _ _⟩
  case round =>
    obtain ⟨k, hk, hyes, rfl, hbel⟩ := hrel
    have Hyes := Lib.hid hyes; clear hyes
    have hM2 := blk_below hbel (by omega) HM.out
    have hI2 := (HI.out.below HB.out).below hbel
    have hB2 := HB.out.trans (hbel.mono HB.out.size)
    obtain ⟨m0', m1', m2', m3', m4', m5', m6', m7', m8', m9', m10', mlt'⟩ := map_cells hM2
    by_cases hlt : k < a.sp.length
    · obtain ⟨b, off, rfl, hb, p0, p1, p2, p3, p4⟩ := span_cells hI2.row k hlt
      have hno : ¬ SpanOk a k a.sp[k] → tr (MapOk a) = false := fun h => tr_false fun hm => h (hm.2.2.2.2.1 k hlt)
      have hok : SpanOk a k a.sp[k] → ∀ j (_ : j < k + 1) (h : j < a.sp.length), SpanOk a j a.sp[j] := fun h j hj hj' => by
        rcases Nat.lt_succ_iff_lt_or_eq.1 hj with h1 | h1
        · exact Hyes.out j h1 hj'
        · subst h1; exact h
      unfold SpanOk at hno
      have Hno := Lib.hid hno; have Hok := Lib.hid hok; have HM2 := Lib.hid hM2; have HI2 := Lib.hid hI2; have HB2 := Lib.hid hB2
      clear hno hok hM2 hI2 hB2 m0 m1 m2 m3 m4 m5 m6 m7 m8 m9 m10 mlt
      have hpl := fun w x hr => place_any w (some ⟨b, off, none⟩) cap a x hr (by omega)
      have Hpl := Lib.hid hpl; clear hpl
      generalize hs : a.sp[k] = s at *
      go_wp2_with (go_at_call 41
                   refine (Hpl.out _ s.sh (HI2.out.below (al _)).row).mono ?_
                   rintro e w3 ⟨rfl, hb3⟩
                   have hM3 := blk_below hb3 (by simp; omega) ((Below.heap_alloc _ _ _ (by omega)).trans HM2.out)
                   have hS3 := blk_below (o := s.blk) hb3 (by simp) (heap_alloc_new wr _)
                   obtain ⟨m0, m1, m2, m3, m4, m5, m6, m7, m8, m9, m10, mlt⟩ := map_cells hM3
                   obtain ⟨t0, t1, t2, t3, t4, tlt⟩ := span_blk hS3
                   have hB3 := (al (w := wr) s.blk).trans (hb3.mono (by simp))
                   have HB3 := Lib.hid hB3
                   clear hb3 hM3 hS3 hB3)
      all_goals first
        | (go_ret
           refine ⟨ret_bool (Hno.out ?_).symm, ?_⟩
           · omega
           · first
               | exact HB2.out.trans ((al _).mono HB2.out.size)
               | exact HB2.out.trans (HB3.out.mono HB2.out.size))
        | (refine ⟨⟨k + 1, by omega, Hok.out ⟨by omega, by omega, by omega, by omega, by omega, by omega, by omega⟩, by go_num, hbel.trans (HB3.out.mono hbel.size)⟩, ?_⟩
           simp [intOf]; omega)
        | go_outline
    · have hall : ∀ i (h : i < a.sp.length), SpanOk a i a.sp[i] := fun i h => Hyes.out i (by omega) h
      have hep : ∀ s ∈ a.sp, 1 ≤ s.ep ∧ s.ep ≤ 1099511627776 := fun s hs => by
        obtain ⟨j, hj, rfl⟩ := List.getElem_of_mem hs
        exact ⟨(hall j hj).2.2.2.1, (hall j hj).2.2.2.2.1⟩
      have hiff : MapOk a ↔ PlanOk a := ⟨fun h => h.2.2.2.2.2, fun h => ⟨hg1, hg2, hg3, HC.out, hall, h⟩⟩
      have Hiff := Lib.hid (tr_iff hiff); have HI2 := Lib.hid hI2; have HB2 := Lib.hid hB2; have Hep := Lib.hid hep
      clear hiff hI2 hB2 hall hep hM2 m0 m1 m2 m3 m4 m5 m6 m7 m8 m9 m10 mlt
      go_wp2_with (go_at_call 53
                   refine (planned_any _ A cap a HI2.out.row h16 Hep.out HI2.out.key).mono ?_
                   rintro e w3 ⟨rfl, hb3⟩)
      go_ret
      exact ⟨ret_bool Hiff.out.symm, HB2.out.trans (hb3.mono HB2.out.size)⟩
end Go.Proofs.Ytimondpollbdfaa
