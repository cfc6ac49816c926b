/- What is proved: the span in which a key lies: the document's Find. -/
import Derived.Test.YtimondpollbdfaaFind
import Derived.Deep.DeepCutAuto
import Derived.Deep.CutBlock
set_option linter.unusedVariables false
set_option linter.unusedSimpArgs false
namespace Go.Proofs.Ytimondpollbdfaa
open Go.RowKit
attribute [local go_sem] Span.val Atl.val Plan.val

theorem rfind_blocks {w w1 : World} {v : Value} {a : Atl} {o : Obj} (hb1 : Below ((w.alloc (a.blk v)).alloc o).heap.size ((w.alloc (a.blk v)).alloc o) w1) :
    w1.heap[w.heap.size]? = some (a.blk v) ∧ w1.heap[w.heap.size + 1]? = some o ∧ Below w.heap.size w w1 := by
  refine ⟨blk_below hb1 (by simp; omega) ?_, blk_below hb1 (by simp) ?_, (al2 _ _).trans (hb1.mono (by simp; omega))⟩
  · exact (Below.heap_alloc _ _ _ (by simp)).trans (heap_alloc_new w _)
  · simpa using heap_alloc_new (w.alloc (a.blk v)) o

def RChecks (A : Option Addr) (cap : Nat) (a : Atl) : Prop := ∀ w, MapIn w A cap a → Calls Try.prog 39 #[a.val (.slice A a.sp.length cap)] w fun e w' => e = .returned (.bool (tr (MapOk a))) ∧ Below w.heap.size w w'

set_option maxRecDepth 100000 in
set_option maxHeartbeats 4000000 in
theorem rFind_bad (w : World) (A : Option Addr) (cap : Nat) (a : Atl) (key : ByteArray) (hrc : RChecks A cap a) (h : MapIn w A cap a) (hm : tr (MapOk a) = false) :
    Calls Try.prog 36 #[a.val (.slice A a.sp.length cap), .string key] w fun e w' => e = .returned (.tuple #[zeroS.val, .bool false]) ∧ Below w.heap.size w w' := by
  unfold RChecks at hrc
  rw [hm] at hrc
  have Hck := Lib.hid hrc; have HI := Lib.hid h; clear hrc h hm
  go_enter Try.func36, Try.ntmps36
  go_wp2_with (go_at_call 39
               refine (Hck.out _ (HI.out.below (al2 _ _))).mono ?_
               rintro e w1 ⟨rfl, hb1⟩
               obtain ⟨hM, hR, hB⟩ := rfind_blocks hb1
               obtain ⟨c0, c1, c2, c3, c4, clt⟩ := blk5 hR
               have hf0 := fz_blk hR 0; have hf1 := fz_blk hR 1; have hf2 := fz_blk hR 2; have hf3 := fz_blk hR 3; have hf4 := fz_blk hR 4
               have HB := Lib.hid hB
               clear hb1 hM hR hB)
  refine bodyPost_ret (v := .tuple #[zeroS.val, .bool false]) (by simp [results, Try.results36, go_sem, Span.val, zeroS, c0, c1, c2, c3, c4]) rfl ⟨rfl, ?_⟩
  exact set5 HB.out (by omega)

set_option maxRecDepth 100000 in
set_option maxHeartbeats 4000000 in
theorem rFind_nameless (w : World) (A : Option Addr) (cap : Nat) (a : Atl) (key : ByteArray) (hrc : RChecks A cap a) (h : MapIn w A cap a) (hm : tr (MapOk a) = true) (hk : key.size ≤ 9223372036854775807) (hn : named key = false) :
    Calls Try.prog 36 #[a.val (.slice A a.sp.length cap), .string key] w fun e w' => e = .returned (.tuple #[zeroS.val, .bool false]) ∧ Below w.heap.size w w' := by
  unfold RChecks at hrc
  rw [hm] at hrc
  have hnm := fun w => rNamed_any key hk w
  rw [hn] at hnm
  have Hck := Lib.hid hrc; have HI := Lib.hid h; have Hnm := Lib.hid hnm; clear hrc h hm hnm hn
  go_enter Try.func36, Try.ntmps36
  go_wp2_with (first
    | (go_at_call 39
       refine (Hck.out _ (HI.out.below (al2 _ _))).mono ?_
       rintro e w1 ⟨rfl, hb1⟩
       obtain ⟨hM, hR, hB⟩ := rfind_blocks hb1
       have HB := Lib.hid hB; have HR := Lib.hid hR
       clear hb1 hM hR hB)
    | (go_at_call 49
       refine (Hnm.out _).mono ?_
       rintro e w2 ⟨rfl, hb2⟩
       have hR := blk_below hb2 (lt_of_some HR.out) HR.out
       obtain ⟨c0, c1, c2, c3, c4, clt⟩ := blk5 hR
       have hf0 := fz_blk hR 0; have hf1 := fz_blk hR 1; have hf2 := fz_blk hR 2; have hf3 := fz_blk hR 3; have hf4 := fz_blk hR 4
       have HB2 := Lib.hid (HB.out.trans (hb2.mono HB.out.size))
       clear hb2 hR))
  refine bodyPost_ret (v := .tuple #[zeroS.val, .bool false]) (by simp [results, Try.results36, go_sem, Span.val, zeroS, c0, c1, c2, c3, c4]) rfl ⟨rfl, ?_⟩
  exact set5 HB2.out (by omega)

set_option maxRecDepth 100000 in
set_option maxHeartbeats 4000000 in
theorem rFind_some (w : World) (A : Option Addr) (cap : Nat) (a : Atl) (key : ByteArray) (i : Nat) (hrc : RChecks A cap a) (h : MapIn w A cap a) (hm : tr (MapOk a) = true) (hk : key.size ≤ 9223372036854775807) (hn : named key = true) (hi : i < a.sp.length)
    (hx1 : ∀ m (h : m < a.sp.length), m ≤ i → sLt key a.sp[m].fr = false) (hx2 : ∀ h : i + 1 < a.sp.length, sLt key a.sp[i+1].fr = true) :
    Calls Try.prog 36 #[a.val (.slice A a.sp.length cap), .string key] w fun e w' => e = .returned (.tuple #[a.sp[i].val, .bool true]) ∧ Below w.heap.size w w' := by
  have hlen : a.sp.length ≤ 9223372036854775807 := Nat.le_trans h.ncap h.cmax
  have h16 : a.sp.length ≤ 16 := (of_tr hm).2.2.2.1.1
  unfold RChecks at hrc
  rw [hm] at hrc
  have hnm := fun w => rNamed_any key hk w
  rw [hn] at hnm
  have Hck := Lib.hid hrc; have HI := Lib.hid h; have Hnm := Lib.hid hnm; have H1 := Lib.hid hx1; have H2 := Lib.hid hx2; clear hrc h hm hnm hn hx1 hx2
  have hi1 : (0 : Int) ≤ (i : Int) := by omega
  have hi2 : (i : Int) < (a.sp.length : Int) := by omega
  go_enter Try.func36, Try.ntmps36
  go_upto_block 0 with (first
    | (go_at_call 39
       refine (Hck.out _ (HI.out.below (al2 _ _))).mono ?_
       rintro e w1 ⟨rfl, hb1⟩
       obtain ⟨hM, hR, hB⟩ := rfind_blocks hb1
       have HB := Lib.hid hB; have HR := Lib.hid hR; have HM := Lib.hid hM
       clear hb1 hM hR hB)
    | (go_at_call 49
       refine (Hnm.out _).mono ?_
       rintro e w2 ⟨rfl, hb2⟩
       have hR := blk_below hb2 (lt_of_some HR.out) HR.out
       have hM := blk_below hb2 (lt_of_some HM.out) HM.out
       obtain ⟨m0, m1, m2, m3, m4, m5, m6, m7, m8, m9, m10, mlt⟩ := map_cells hM
       obtain ⟨c0, c1, c2, c3, c4, clt⟩ := blk5 hR
       have hf0 := fz_blk hR 0; have hf1 := fz_blk hR 1; have hf2 := fz_blk hR 2; have hf3 := fz_blk hR 3; have hf4 := fz_blk hR 4
       have HB2 := Lib.hid (HB.out.trans (hb2.mono HB.out.size))
       clear hb2 hR hM))
  have hI2 := HI.out.below HB2.out
  obtain ⟨b, off, rfl, hb, p0, p1, p2, p3, p4⟩ := span_cells hI2.row i hi
  have HI2 := Lib.hid hI2; clear hI2
  go_cut [6] (fun v wx => v = .int .i64 i ∧ wx = w2)
  case first =>
    go_wp2_with fail
    go_loopw [6] (fun v wr => ∃ k : Nat, k ≤ i ∧ v = .int .i64 k ∧ wr = w2) (fun v _ => i - (intOf v).toNat)
    case atStart => exact ⟨0, Nat.zero_le _, rfl, rfl⟩
    case round =>
      obtain ⟨k, hk, rfl, rfl⟩ := hrel
      have hw1 : IntKind.i64.wrap ((k : Int) + 1) = (k : Int) + 1 := IntWalk.i64_in _ (by omega)
      have hk1 : (0 : Int) ≤ (k : Int) + 1 := by omega
      have hk2 : ((k : Int) + 1).toNat = k + 1 := by omega
      by_cases hn : k + 1 < a.sp.length
      · obtain ⟨_, _, he, _, q0, q1, q2, q3, q4⟩ := span_cells HI2.out.row (k + 1) hn
        injection he with he
        injection he with hx1 hx2
        subst hx1; subst hx2
        have hn1 : (k : Int) + 1 < (a.sp.length : Int) := by omega
        have hlo := lt_or_ge a.sp[k+1].fr key
        unfold sLt sEq at hlo
        by_cases hlt : k < i
        · have h3 := H1.out (k + 1) hn (by omega)
          unfold sLt at h3
          rw [h3] at hlo
          cases l1 : Op.bytesLess a.sp[k+1].fr.toList key.toList <;> cases l2 : (a.sp[k+1].fr.toList == key.toList)
          · exfalso
            have l3 : ¬ a.sp[k+1].fr.toList = key.toList := by simpa using l2
            rw [l1] at hlo
            simp [l3] at hlo
          all_goals
            clear hlo
            have l3 : (k : Int) < (i : Int) := by omega
            go_wp2
            go_roundw
            case rel => exact ⟨k + 1, by omega, by go_num, trivial⟩
            case measure => simp [intOf]; omega
        · obtain rfl : k = i := by omega
          have h3 := H2.out hn
          unfold sLt at h3
          rw [h3] at hlo
          have l1 : Op.bytesLess a.sp[k+1].fr.toList key.toList = false := by
            cases l1 : Op.bytesLess a.sp[k+1].fr.toList key.toList
            · rfl
            · rw [l1] at hlo; simp at hlo
          have l2 : ¬ a.sp[k+1].fr.toList = key.toList := by
            intro l2
            rw [l1] at hlo; simp [l2] at hlo
          have l2' : (a.sp[k+1].fr.toList == key.toList) = false := by simpa using l2
          clear hlo
          go_wp2
          go_meet
          exact ⟨rfl, rfl⟩
      · have hn1 : ¬ (k : Int) + 1 < (a.sp.length : Int) := by omega
        obtain rfl : k = i := by omega
        go_wp2
        go_meet
        exact ⟨rfl, rfl⟩
  case rest =>
    obtain ⟨rfl, rfl⟩ := hcut
    go_wp2
    refine bodyPost_ret (v := .tuple #[a.sp[i].val, .bool true]) (by simp [results, Try.results36, go_sem, Span.val, c0, c1, c2, c3, c4]) rfl ⟨rfl, ?_⟩
    exact set5 HB2.out (by omega)
end Go.Proofs.Ytimondpollbdfaa
