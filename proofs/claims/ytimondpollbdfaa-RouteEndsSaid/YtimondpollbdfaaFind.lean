/- What is proved: the span in which a key lies: both programs' Find, as contracts. -/
import Derived.Test.YtimondpollbdfaaFindS
set_option linter.unusedVariables false
set_option linter.unusedSimpArgs false
namespace Go.Proofs.Ytimondpollbdfaa
open Go.RowKit
attribute [local go_sem] Span.val Atl.val Plan.val

def zeroS : Span := ⟨⟨#[]⟩, ⟨#[]⟩, 0, 0, 0⟩
theorem fz_blk {w : World} {g ty : Nat} {c : Array Value} (h : w.heap[g]? = some (.cells c ty (0, 0))) (o : Nat) : w.frozen? ⟨g, o, none⟩ = false := by simp [World.frozen?, h]

/-- The three blocks that Find lays first. -/
theorem find_blocks {w w1 : World} {v : Value} {a : Atl} {key : ByteArray} {o : Obj} (hb1 : Below (((w.alloc (a.blk v)).alloc (.cells #[.string key] 9)).alloc o).heap.size (((w.alloc (a.blk v)).alloc (.cells #[.string key] 9)).alloc o) w1) :
    w1.heap[w.heap.size]? = some (a.blk v) ∧ w1.heap[w.heap.size + 1]? = some (.cells #[.string key] 9) ∧ w1.heap[w.heap.size + 1 + 1]? = some o ∧ Below w.heap.size w w1 := by
  refine ⟨blk_below hb1 (by simp; omega) ?_, blk_below hb1 (by simp) ?_, blk_below hb1 (by simp) ?_, (al3 _ _ _).trans (hb1.mono (by simp; omega))⟩
  · exact (Below.heap_alloc _ _ _ (by simp; omega)).trans ((Below.heap_alloc _ _ _ (by simp)).trans (heap_alloc_new w _))
  · refine (Below.heap_alloc _ _ _ (by simp)).trans ?_
    simpa using heap_alloc_new (w.alloc (a.blk v)) (.cells #[.string key] 9)
  · simpa using heap_alloc_new ((w.alloc (a.blk v)).alloc (.cells #[.string key] 9)) o

theorem set5 {B g : Nat} {w W : World} {a b c d e : Value} (h : Below B w W) (hg : B ≤ g) : Below B w (((((W.setCell ⟨g, 0, none⟩ a).setCell ⟨g, 1, none⟩ b).setCell ⟨g, 2, none⟩ c).setCell ⟨g, 3, none⟩ d).setCell ⟨g, 4, none⟩ e) :=
  ((((h.setCell (p := ⟨g, 0, none⟩) hg _).setCell (p := ⟨g, 1, none⟩) hg _).setCell (p := ⟨g, 2, none⟩) hg _).setCell (p := ⟨g, 3, none⟩) hg _).setCell (p := ⟨g, 4, none⟩) hg _

set_option maxRecDepth 100000 in
set_option maxHeartbeats 4000000 in
theorem find_bad (w : World) (A : Option Addr) (cap : Nat) (a : Atl) (key : ByteArray) (h : MapIn w A cap a) (hm : tr (MapOk a) = false) :
    Calls Try.prog 30 #[a.val (.slice A a.sp.length cap), .string key] w fun e w' => e = .returned (.tuple #[zeroS.val, .bool false]) ∧ Below w.heap.size w w' := by
  have hck := fun w hr => check_any w A cap a hr
  rw [hm] at hck
  have Hck := Lib.hid hck; have HI := Lib.hid h; clear hck h hm
  go_enter Try.func30, Try.ntmps30
  go_wp2_with (go_at_call 29
               refine (Hck.out _ (HI.out.below (al3 _ _ _))).mono ?_
               rintro e w1 ⟨rfl, hb1⟩
               obtain ⟨hM, hK, hR, hB⟩ := find_blocks hb1
               obtain ⟨c0, c1, c2, c3, c4, clt⟩ := blk5 hR
               have hf0 := fz_blk hR 0; have hf1 := fz_blk hR 1; have hf2 := fz_blk hR 2; have hf3 := fz_blk hR 3; have hf4 := fz_blk hR 4
               have HB := Lib.hid hB
               clear hb1 hM hK hR hB)
  refine bodyPost_ret (v := .tuple #[zeroS.val, .bool false]) (by simp [results, Try.results30, go_sem, Span.val, zeroS, c0, c1, c2, c3, c4]) rfl ⟨rfl, ?_⟩
  exact set5 HB.out (by omega)

set_option maxRecDepth 100000 in
set_option maxHeartbeats 4000000 in
theorem find_nameless (w : World) (A : Option Addr) (cap : Nat) (a : Atl) (key : ByteArray) (h : MapIn w A cap a) (hm : tr (MapOk a) = true) (hk : key.size ≤ 9223372036854775807) (hn : named key = false) :
    Calls Try.prog 30 #[a.val (.slice A a.sp.length cap), .string key] w fun e w' => e = .returned (.tuple #[zeroS.val, .bool false]) ∧ Below w.heap.size w w' := by
  have hck := fun w hr => check_any w A cap a hr
  rw [hm] at hck
  have hnm := fun w => named_any key hk w
  rw [hn] at hnm
  have Hck := Lib.hid hck; have HI := Lib.hid h; have Hnm := Lib.hid hnm; clear hck h hm hnm hn
  go_enter Try.func30, Try.ntmps30
  go_wp2_with (first
    | (go_at_call 29
       refine (Hck.out _ (HI.out.below (al3 _ _ _))).mono ?_
       rintro e w1 ⟨rfl, hb1⟩
       obtain ⟨hM, hK, hR, hB⟩ := find_blocks hb1
       have hkc : w1.cell? ⟨w.heap.size + 1, 0, none⟩ = some (.string key) := by simp [World.cell?, hK]
       have hkl := lt_of_some hK
       have HB := Lib.hid hB; have HR := Lib.hid hR
       clear hb1 hM hK hR hB)
    | (go_at_call 47
       refine (Hnm.out _).mono ?_
       rintro e w2 ⟨rfl, hb2⟩
       have hR := blk_below hb2 (lt_of_some HR.out) HR.out
       obtain ⟨c0, c1, c2, c3, c4, clt⟩ := blk5 hR
       have hf0 := fz_blk hR 0; have hf1 := fz_blk hR 1; have hf2 := fz_blk hR 2; have hf3 := fz_blk hR 3; have hf4 := fz_blk hR 4
       have HB2 := Lib.hid (HB.out.trans (hb2.mono HB.out.size))
       clear hb2 hR))
  refine bodyPost_ret (v := .tuple #[zeroS.val, .bool false]) (by simp [results, Try.results30, go_sem, Span.val, zeroS, c0, c1, c2, c3, c4]) rfl ⟨rfl, ?_⟩
  exact set5 HB2.out (by omega)

set_option maxRecDepth 100000 in
set_option maxHeartbeats 4000000 in
theorem find_some (w : World) (A : Option Addr) (cap : Nat) (a : Atl) (key : ByteArray) (i : Nat) (h : MapIn w A cap a) (hm : tr (MapOk a) = true) (hk : key.size ≤ 9223372036854775807) (hn : named key = true) (hi : i < a.sp.length) (hx : idxOf (inSp key) a.sp = (i : Int)) :
    Calls Try.prog 30 #[a.val (.slice A a.sp.length cap), .string key] w fun e w' => e = .returned (.tuple #[a.sp[i].val, .bool true]) ∧ Below w.heap.size w w' := by
  have hlen : a.sp.length ≤ 9223372036854775807 := Nat.le_trans h.ncap h.cmax
  have hck := fun w hr => check_any w A cap a hr
  rw [hm] at hck
  have hnm := fun w => named_any key hk w
  rw [hn] at hnm
  have hfi := fun w c hr hc hl => findIdx_any w A cap c a.sp key hr hlen hc hl
  rw [hx] at hfi
  have Hck := Lib.hid hck; have HI := Lib.hid h; have Hnm := Lib.hid hnm; have Hfi := Lib.hid hfi; clear hck h hm hnm hn hfi hx
  have hi1 : (0 : Int) ≤ (i : Int) := by omega
  have hi2 : (i : Int) < (a.sp.length : Int) := by omega
  go_enter Try.func30, Try.ntmps30
  go_wp2_with (first
    | (go_at_call 29
       refine (Hck.out _ (HI.out.below (al3 _ _ _))).mono ?_
       rintro e w1 ⟨rfl, hb1⟩
       obtain ⟨hM, hK, hR, hB⟩ := find_blocks hb1
       have hkc : w1.cell? ⟨w.heap.size + 1, 0, none⟩ = some (.string key) := by simp [World.cell?, hK]
       have hkl := lt_of_some hK
       have HB := Lib.hid hB; have HR := Lib.hid hR; have HK := Lib.hid hK; have HM := Lib.hid hM
       clear hb1 hM hK hR hB)
    | (go_at_call 47
       refine (Hnm.out _).mono ?_
       rintro e w2 ⟨rfl, hb2⟩
       have hM2 := blk_below hb2 (lt_of_some HM.out) HM.out
       have hK2 := blk_below hb2 (lt_of_some HK.out) HK.out
       obtain ⟨m0, m1, m2, m3, m4, m5, m6, m7, m8, m9, m10, mlt⟩ := map_cells hM2
       have hkc2 : w2.cell? ⟨w.heap.size + 1, 0, none⟩ = some (.string key) := by simp [World.cell?, hK2]
       have HR2 := Lib.hid (blk_below hb2 (lt_of_some HR.out) HR.out)
       have HB2 := Lib.hid (HB.out.trans (hb2.mono HB.out.size))
       have HK2 := Lib.hid hK2; have HM2 := Lib.hid hM2
       clear hb2 hM2 hK2)
    | (go_at_call 54
       refine (Hfi.out _ (w.heap.size + 1) (HI.out.below HB2.out).row hkc2 (lt_of_some HK2.out)).mono ?_
       rintro e w3 ⟨rfl, hb3⟩
       have hB3 := HB2.out.trans (hb3.mono HB2.out.size)
       have hM3 := blk_below hb3 (lt_of_some HM2.out) HM2.out
       have hR := blk_below hb3 (lt_of_some HR2.out) HR2.out
       obtain ⟨m0', m1', m2', m3', m4', m5', m6', m7', m8', m9', m10', mlt'⟩ := map_cells hM3
       obtain ⟨c0, c1, c2, c3, c4, clt⟩ := blk5 hR
       have hf0 := fz_blk hR 0; have hf1 := fz_blk hR 1; have hf2 := fz_blk hR 2; have hf3 := fz_blk hR 3; have hf4 := fz_blk hR 4
       obtain ⟨b, off, rfl, hb, p0, p1, p2, p3, p4⟩ := span_cells (HI.out.below hB3).row i hi
       have HB3 := Lib.hid hB3
       clear hb3 hM3 hR hB3))
  refine bodyPost_ret (v := .tuple #[a.sp[i].val, .bool true]) (by simp [results, Try.results30, go_sem, Span.val, c0, c1, c2, c3, c4]) rfl ⟨rfl, ?_⟩
  exact set5 HB3.out (by omega)
end Go.Proofs.Ytimondpollbdfaa
