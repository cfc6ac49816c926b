/- What is proved: whether spans are right: the document's spans. -/
import Derived.Test.YtimondpollbdfaaCheck
set_option linter.unusedVariables false
set_option linter.unusedSimpArgs false
namespace Go.Proofs.Ytimondpollbdfaa
open Go.RowKit
attribute [local go_sem] Span.val Atl.val Plan.val
attribute [local go_sem high] run_eql_eqP run_neq_eqP run_eql_eqS run_neq_eqS

def SpansOk (a : Atl) : Prop := 1 ≤ a.groups ∧ a.groups ≤ 8 ∧ a.last ≤ 1099511627776 ∧ CoversOk a.sp ∧ (∀ i (h : i < a.sp.length), SpanOk a i a.sp[i])
def fromAt (l : List Span) : Nat → List UInt8
  | 0 => []
  | j + 1 => if h : j < l.length then l[j].to.toList else []
def RefStep (a : Atl) (k : Nat) (s : Span) : Prop := s.fr.toList = fromAt a.sp k ∧ SpanOk a k s ∧ (k + 1 < a.sp.length → named s.to = true ∧ sLt s.fr s.to = true) ∧ (k + 1 = a.sp.length → s.to.toList = [])
theorem spansOk_iff {a : Atl} (h0 : 0 < a.sp.length) : SpansOk a ↔ 1 ≤ a.groups ∧ a.groups ≤ 8 ∧ a.last ≤ 1099511627776 ∧ a.sp.length ≤ 16 ∧ ∀ k (h : k < a.sp.length), RefStep a k a.sp[k] := by
  constructor
  · rintro ⟨h1, h2, h3, ⟨h4, h5, h6, h7, h8⟩, h9⟩
    refine ⟨h1, h2, h3, h4, fun k hk => ⟨?_, h9 k hk, fun hk1 => ?_, fun hk1 => ?_⟩⟩
    · cases k with
      | zero => exact h6
      | succ j =>
        simp only [fromAt]
        rw [dif_pos (by omega)]
        exact (h8 j hk).2.2
    · exact ⟨(h8 k hk1).1, (h8 k hk1).2.1⟩
    · have : a.sp.length - 1 = k := by omega
      simpa only [this] using h7
  · rintro ⟨h1, h2, h3, h4, h5⟩
    refine ⟨h1, h2, h3, ⟨h4, h0, (h5 0 h0).1, (h5 _ (by omega)).2.2.2 (by omega), fun i hi => ?_⟩, fun i hi => (h5 i hi).2.1⟩
    have e := (h5 (i + 1) hi).1
    simp only [fromAt] at e
    rw [dif_pos (by omega)] at e
    exact ⟨((h5 i (by omega)).2.2.1 hi).1, ((h5 i (by omega)).2.2.1 hi).2, e⟩
theorem place_le {l : List Span} {k : Nat} (hk : k < l.length) : 0 ≤ place l l[k].sh ∧ place l l[k].sh ≤ (k : Int) := by
  unfold place
  rcases idxOf_cases (hasSh l[k].sh) l with h | ⟨j, hj, h⟩
  · have := idxOf_no h k hk
    simp [hasSh] at this
  · rw [h]
    refine ⟨by omega, ?_⟩
    rcases Nat.lt_or_ge k j with hlt | hge
    · obtain ⟨_, _, hno⟩ := idxOf_first h
      have := hno k hlt
      simp [hasSh] at this
    · omega

set_option maxRecDepth 100000 in
set_option maxHeartbeats 8000000 in
theorem rSpans_any (w : World) (A : Option Addr) (cap : Nat) (a : Atl) (h : MapIn w A cap a) :
    Calls Try.prog 61 #[a.val (.slice A a.sp.length cap)] w fun e w' => e = .returned (.bool (tr (SpansOk a))) ∧ Below w.heap.size w w' := by
  have hlen : a.sp.length ≤ 9223372036854775807 := Nat.le_trans h.ncap h.cmax
  have HI := Lib.hid h; clear h
  by_cases hn0 : a.sp.length = 0
  · have Hfal := Lib.hid (tr_false (P := SpansOk a) fun h => by obtain ⟨_, h, _⟩ := h.2.2.2.1; omega)
    have hi0 : (a.sp.length : Int) = 0 := by omega
    go_enter Try.func61, Try.ntmps61
    go_wp2
    all_goals
      go_ret
      exact ⟨ret_bool Hfal.out.symm, al _⟩
  have hiff := spansOk_iff (a := a) (by omega)
  have Hiff := Lib.hid hiff; clear hiff
  have hi0 : (1 : Int) ≤ (a.sp.length : Int) := by omega
  have hi1 : ((a.sp.length : Int) == 0) = false := beq_eq_false_iff_ne.2 (by omega)
  go_enter Try.func61, Try.ntmps61
  go_wp2
  all_goals try (
    go_ret
    exact ⟨ret_bool (tr_false (P := SpansOk a) fun h => by have h := Hiff.out.1 h; have := h.1; have := h.2.1; have := h.2.2.1; have := h.2.2.2.1; omega).symm, al _⟩)
  have hg1 : 1 ≤ a.groups := by omega
  have hg2 : a.groups ≤ 8 := by omega
  have hg3 : a.last ≤ 1099511627776 := by omega
  have hg4 : a.sp.length ≤ 16 := by omega
  have hM := heap_alloc_new w (a.blk (.slice A a.sp.length cap))
  have hB := al (w := w) (a.blk (.slice A a.sp.length cap))
  change Code.wp _ _ _ _ (w.alloc (a.blk (.slice A a.sp.length cap)))
  generalize w.alloc (a.blk (.slice A a.sp.length cap)) = w1 at *
  have HM := Lib.hid hM; have HB := Lib.hid hB; clear hM hB
  go_loopw [4, 5] (fun v i wr => ∃ (k : Nat) (f : ByteArray), k ≤ a.sp.length ∧ (∀ j (_ : j < k) (h : j < a.sp.length), RefStep a j a.sp[j]) ∧ v = .string f ∧ f.toList = fromAt a.sp k ∧ i = .int .i64 k ∧ Below w1.heap.size w1 wr) (fun _ i _ => a.sp.length - (intOf i).toNat)
  case atStart => exact ⟨0, ⟨#[]⟩, Nat.zero_le _, fun j h => absurd h (by omega), rfl, by simp [fromAt], rfl, Below.refl _ _⟩
  case round =>
    obtain ⟨k, f, hk, hyes, rfl, hf, rfl, hbel⟩ := hrel
    have Hyes := Lib.hid hyes; clear hyes
    have hM2 := blk_below hbel (lt_of_some HM.out) HM.out
    have hI2 := (HI.out.below HB.out).below hbel
    have hB2 := HB.out.trans (hbel.mono HB.out.size)
    obtain ⟨m0, m1, m2, m3, m4, m5, m6, m7, m8, m9, m10, mlt⟩ := map_cells hM2
    by_cases hlt : k < a.sp.length
    · obtain ⟨b, off, rfl, hb, p0, p1, p2, p3, p4⟩ := span_cells hI2.row k hlt
      have hpl1 := place_le hlt
      have hsz := hI2.sz _ (List.getElem_mem hlt)
      have hno : ¬ RefStep a k a.sp[k] → tr (SpansOk a) = false := fun h => tr_false fun hm => h ((Hiff.out.1 hm).2.2.2.2 k hlt)
      have hok : RefStep a k a.sp[k] → ∀ j (_ : j < k + 1) (h : j < a.sp.length), RefStep a j a.sp[j] := fun h j hj hj' => by
        rcases Nat.lt_succ_iff_lt_or_eq.1 hj with h1 | h1
        · exact Hyes.out j h1 hj'
        · subst h1; exact h
      have hfn : fromAt a.sp (k + 1) = a.sp[k].to.toList := by simp only [fromAt]; rw [dif_pos hlt]
      have Hno := Lib.hid hno; have Hok := Lib.hid hok; have HM2 := Lib.hid hM2; have HI2 := Lib.hid hI2; have HB2 := Lib.hid hB2; have Hfn := Lib.hid hfn
      clear hno hok hM2 hI2 hB2 hfn
      have hpl := fun w x hr => rPlace_any w (some ⟨b, off, none⟩) cap a x hr (by omega)
      have Hpl := Lib.hid hpl; clear hpl
      generalize hs : a.sp[k] = s at *
      have hnm := fun w => rNamed_any s.to hsz w
      have Hnm := Lib.hid hnm; clear hnm
      have Hf := Lib.hid hf; clear hf
      have Hyes' := Hyes; clear Hyes
      by_cases e1 : s.fr.toList = f.toList
      case neg =>
        have Hbad := Lib.hid (Hno.out fun h => e1 (h.1.trans Hf.out.symm))
        have e1' : (s.fr.toList == f.toList) = false := by simpa using e1
        go_wp2_with (first
          | (go_at_call 32
             refine (Hpl.out _ s.sh (HI2.out.below (al _)).row).mono ?_
             rintro e w3 ⟨rfl, hb3⟩
             have hM3 := blk_below hb3 (by simp; omega) ((Below.heap_alloc _ _ _ (by omega)).trans HM2.out)
             have hS3 := blk_below (o := s.blk) hb3 (by simp) (heap_alloc_new wr _)
             obtain ⟨m0, m1, m2, m3, m4, m5, m6, m7, m8, m9, m10, mlt⟩ := map_cells hM3
             obtain ⟨t0, t1, t2, t3, t4, tlt⟩ := span_blk hS3
             have hB3 := (al (w := wr) s.blk).trans (hb3.mono (by simp))
             have HB3 := Lib.hid hB3; have HS3 := Lib.hid hS3
             clear hb3 hM3 hS3 hB3)
          | (go_at_call 49
             refine (Hnm.out _).mono ?_
             rintro e w4 ⟨rfl, hb4⟩
             obtain ⟨t0, t1, t2, t3, t4, tlt⟩ := span_blk (blk_below hb4 (lt_of_some HS3.out) HS3.out)
             have HB4 := Lib.hid hb4
             clear hb4))
        all_goals
          go_ret
          refine ⟨ret_bool Hbad.out.symm, ?_⟩
          first
            | exact HB2.out.trans ((al _).mono HB2.out.size)
            | exact HB2.out.trans (HB3.out.mono HB2.out.size)
            | exact HB2.out.trans ((HB3.out.trans (HB4.out.mono HB3.out.size)).mono HB2.out.size)
      have e1' : (s.fr.toList == f.toList) = true := by simpa using e1
      have hlo := lt_or_ge s.to s.fr
      unfold sLt sEq at hlo
      cases hkb : ((k : Int) == (a.sp.length : Int) - 1)
      · have hkc : ¬ (k : Int) = (a.sp.length : Int) - 1 := by simpa using hkb
        have hkd : (k : Int) < (a.sp.length : Int) - 1 := by omega
        cases hn1 : named s.to
        · have Hbad := Lib.hid (Hno.out fun h => by have := (h.2.2.1 (by omega)).1; rw [hn1] at this; cases this)
          rw [hn1] at Hnm
          go_wp2_with (first
            | (go_at_call 32
               refine (Hpl.out _ s.sh (HI2.out.below (al _)).row).mono ?_
               rintro e w3 ⟨rfl, hb3⟩
               have hM3 := blk_below hb3 (by simp; omega) ((Below.heap_alloc _ _ _ (by omega)).trans HM2.out)
               have hS3 := blk_below (o := s.blk) hb3 (by simp) (heap_alloc_new wr _)
               obtain ⟨m0, m1, m2, m3, m4, m5, m6, m7, m8, m9, m10, mlt⟩ := map_cells hM3
               obtain ⟨t0, t1, t2, t3, t4, tlt⟩ := span_blk hS3
               have hB3 := (al (w := wr) s.blk).trans (hb3.mono (by simp))
               have HB3 := Lib.hid hB3; have HS3 := Lib.hid hS3
               clear hb3 hM3 hS3 hB3)
            | (go_at_call 49
               refine (Hnm.out _).mono ?_
               rintro e w4 ⟨rfl, hb4⟩
               obtain ⟨t0, t1, t2, t3, t4, tlt⟩ := span_blk (blk_below hb4 (lt_of_some HS3.out) HS3.out)
               have HB4 := Lib.hid hb4
               clear hb4))
          all_goals
            go_ret
            refine ⟨ret_bool Hbad.out.symm, ?_⟩
            first
              | exact HB2.out.trans ((al _).mono HB2.out.size)
              | exact HB2.out.trans (HB3.out.mono HB2.out.size)
              | exact HB2.out.trans ((HB3.out.trans (HB4.out.mono HB3.out.size)).mono HB2.out.size)
        rw [hn1] at Hnm
        cases l1 : Op.bytesLess s.to.toList f.toList <;> cases l2 : (s.to.toList == f.toList)
        · have hlt2 : sLt s.fr s.to = true := by
            unfold sLt
            have l3 : ¬ s.to.toList = f.toList := by simpa using l2
            rw [hlo, e1, l1]; simp [l3]
          have Hlt2 := Lib.hid hlt2
          clear hlt2 hlo
          go_wp2_with (first
            | (go_at_call 32
               refine (Hpl.out _ s.sh (HI2.out.below (al _)).row).mono ?_
               rintro e w3 ⟨rfl, hb3⟩
               have hM3 := blk_below hb3 (by simp; omega) ((Below.heap_alloc _ _ _ (by omega)).trans HM2.out)
               have hS3 := blk_below (o := s.blk) hb3 (by simp) (heap_alloc_new wr _)
               obtain ⟨m0, m1, m2, m3, m4, m5, m6, m7, m8, m9, m10, mlt⟩ := map_cells hM3
               obtain ⟨t0, t1, t2, t3, t4, tlt⟩ := span_blk hS3
               have hB3 := (al (w := wr) s.blk).trans (hb3.mono (by simp))
               have HB3 := Lib.hid hB3; have HS3 := Lib.hid hS3
               clear hb3 hM3 hS3 hB3)
            | (go_at_call 49
               refine (Hnm.out _).mono ?_
               rintro e w4 ⟨rfl, hb4⟩
               obtain ⟨t0, t1, t2, t3, t4, tlt⟩ := span_blk (blk_below hb4 (lt_of_some HS3.out) HS3.out)
               have HB4 := Lib.hid hb4
               clear hb4))
          all_goals first
            | (go_ret
               refine ⟨ret_bool (Hno.out fun h => ?_).symm, ?_⟩
               · obtain ⟨_, ⟨h1, h2, h3, h4, h5, h6, h7⟩, _⟩ := h
                 omega
               · first
                 | exact HB2.out.trans ((al _).mono HB2.out.size)
                 | exact HB2.out.trans (HB3.out.mono HB2.out.size)
                 | exact HB2.out.trans ((HB3.out.trans (HB4.out.mono HB3.out.size)).mono HB2.out.size))
            | (have hq : RefStep a k s := ⟨e1.trans Hf.out, ⟨by omega, by omega, by omega, by omega, by omega, by omega, by omega⟩, fun _ => ⟨hn1, Hlt2.out⟩, fun h => by omega⟩
               refine ⟨⟨k + 1, s.to, by omega, Hok.out hq, rfl, Hfn.out.symm, by go_num, ?_⟩, by simp [intOf]; omega⟩
               first
                | exact hbel.trans (HB3.out.mono hbel.size)
                | exact hbel.trans ((HB3.out.trans (HB4.out.mono HB3.out.size)).mono hbel.size))
        all_goals
          have Hbad := Lib.hid (Hno.out fun h => by
            have h2 := (h.2.2.1 (by omega)).2
            unfold sLt at h2
            rw [hlo, e1, l1] at h2
            first
              | (simp at h2; done)
              | (have l3 : s.to.toList = f.toList := by simpa using l2
                 simp [l3] at h2))
          clear hlo
          go_wp2_with (first
            | (go_at_call 32
               refine (Hpl.out _ s.sh (HI2.out.below (al _)).row).mono ?_
               rintro e w3 ⟨rfl, hb3⟩
               have hM3 := blk_below hb3 (by simp; omega) ((Below.heap_alloc _ _ _ (by omega)).trans HM2.out)
               have hS3 := blk_below (o := s.blk) hb3 (by simp) (heap_alloc_new wr _)
               obtain ⟨m0, m1, m2, m3, m4, m5, m6, m7, m8, m9, m10, mlt⟩ := map_cells hM3
               obtain ⟨t0, t1, t2, t3, t4, tlt⟩ := span_blk hS3
               have hB3 := (al (w := wr) s.blk).trans (hb3.mono (by simp))
               have HB3 := Lib.hid hB3; have HS3 := Lib.hid hS3
               clear hb3 hM3 hS3 hB3)
            | (go_at_call 49
               refine (Hnm.out _).mono ?_
               rintro e w4 ⟨rfl, hb4⟩
               obtain ⟨t0, t1, t2, t3, t4, tlt⟩ := span_blk (blk_below hb4 (lt_of_some HS3.out) HS3.out)
               have HB4 := Lib.hid hb4
               clear hb4))
          all_goals
            go_ret
            refine ⟨ret_bool Hbad.out.symm, ?_⟩
            first
              | exact HB2.out.trans ((al _).mono HB2.out.size)
              | exact HB2.out.trans (HB3.out.mono HB2.out.size)
              | exact HB2.out.trans ((HB3.out.trans (HB4.out.mono HB3.out.size)).mono HB2.out.size)
      · have hkc : (k : Int) = (a.sp.length : Int) - 1 := by simpa using hkb
        have hkd : decide ((k : Int) < (a.sp.length : Int) - 1) = false := by simp; omega
        clear hlo
        by_cases e2 : s.to.toList = []
        case neg =>
          have Hbad := Lib.hid (Hno.out fun h => e2 (h.2.2.2 (by omega)))
          have e2' : s.to.toList.isEmpty = false := by simpa using e2
          have e3' : (s.to.toList == []) = false := by simpa using e2
          have Hkc := Lib.hid hkc; clear hkc
          go_wp2_with (first
            | (go_at_call 32
               refine (Hpl.out _ s.sh (HI2.out.below (al _)).row).mono ?_
               rintro e w3 ⟨rfl, hb3⟩
               have hM3 := blk_below hb3 (by simp; omega) ((Below.heap_alloc _ _ _ (by omega)).trans HM2.out)
               have hS3 := blk_below (o := s.blk) hb3 (by simp) (heap_alloc_new wr _)
               obtain ⟨m0, m1, m2, m3, m4, m5, m6, m7, m8, m9, m10, mlt⟩ := map_cells hM3
               obtain ⟨t0, t1, t2, t3, t4, tlt⟩ := span_blk hS3
               have hB3 := (al (w := wr) s.blk).trans (hb3.mono (by simp))
               have HB3 := Lib.hid hB3; have HS3 := Lib.hid hS3
               clear hb3 hM3 hS3 hB3)
            | (go_at_call 49
               refine (Hnm.out _).mono ?_
               rintro e w4 ⟨rfl, hb4⟩
               obtain ⟨t0, t1, t2, t3, t4, tlt⟩ := span_blk (blk_below hb4 (lt_of_some HS3.out) HS3.out)
               have HB4 := Lib.hid hb4
               clear hb4))
          all_goals
            go_ret
            refine ⟨ret_bool Hbad.out.symm, ?_⟩
            first
              | exact HB2.out.trans ((al _).mono HB2.out.size)
              | exact HB2.out.trans (HB3.out.mono HB2.out.size)
              | exact HB2.out.trans ((HB3.out.trans (HB4.out.mono HB3.out.size)).mono HB2.out.size)
        have Hkc := Lib.hid hkc; clear hkc
        go_wp2_with (first
          | (go_at_call 32
             refine (Hpl.out _ s.sh (HI2.out.below (al _)).row).mono ?_
             rintro e w3 ⟨rfl, hb3⟩
             have hM3 := blk_below hb3 (by simp; omega) ((Below.heap_alloc _ _ _ (by omega)).trans HM2.out)
             have hS3 := blk_below (o := s.blk) hb3 (by simp) (heap_alloc_new wr _)
             obtain ⟨m0, m1, m2, m3, m4, m5, m6, m7, m8, m9, m10, mlt⟩ := map_cells hM3
             obtain ⟨t0, t1, t2, t3, t4, tlt⟩ := span_blk hS3
             have hB3 := (al (w := wr) s.blk).trans (hb3.mono (by simp))
             have HB3 := Lib.hid hB3; have HS3 := Lib.hid hS3
             clear hb3 hM3 hS3 hB3)
          | (go_at_call 49
             refine (Hnm.out _).mono ?_
             rintro e w4 ⟨rfl, hb4⟩
             obtain ⟨t0, t1, t2, t3, t4, tlt⟩ := span_blk (blk_below hb4 (lt_of_some HS3.out) HS3.out)
             have HB4 := Lib.hid hb4
             clear hb4))
        all_goals first
          | (go_ret
             refine ⟨ret_bool (Hno.out fun h => ?_).symm, ?_⟩
             · obtain ⟨_, ⟨h1, h2, h3, h4, h5, h6, h7⟩, _⟩ := h
               omega
             · first
               | exact HB2.out.trans ((al _).mono HB2.out.size)
               | exact HB2.out.trans (HB3.out.mono HB2.out.size)
               | exact HB2.out.trans ((HB3.out.trans (HB4.out.mono HB3.out.size)).mono HB2.out.size))
          | (have hq : RefStep a k s := ⟨e1.trans Hf.out, ⟨by omega, by omega, by omega, by omega, by omega, by omega, by omega⟩, fun h => by have := Hkc.out; omega, fun _ => e2⟩
             refine ⟨⟨k + 1, s.to, by omega, Hok.out hq, rfl, Hfn.out.symm, by go_num, ?_⟩, by simp [intOf]; omega⟩
             first
              | exact hbel.trans (HB3.out.mono hbel.size)
              | exact hbel.trans ((HB3.out.trans (HB4.out.mono HB3.out.size)).mono hbel.size))
    · have hk2 : k = a.sp.length := by omega
      have hok : tr (SpansOk a) = true := tr_true (Hiff.out.2 ⟨hg1, hg2, hg3, hg4, fun j hj => Hyes.out j (by omega) hj⟩)
      have Hok := Lib.hid hok; clear hok
      go_wp2
      go_ret
      exact ⟨ret_bool Hok.out.symm, hB2⟩
end Go.Proofs.Ytimondpollbdfaa
