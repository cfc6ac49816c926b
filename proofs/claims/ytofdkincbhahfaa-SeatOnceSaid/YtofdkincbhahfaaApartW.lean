/- What is proved: SeatApart answers yes, whatever the book and the two sessions. Condition: the jobs of each session take at most 2^47 bytes. -/
import Derived.Test.YtofdkincbhahfaaLooksW
set_option linter.unusedVariables false
set_option linter.unusedSimpArgs false
namespace Go.Proofs.Ytofdkincbhahfaa
open Go.RowKit
attribute [local go_sem] Seen.val resV

theorem mergeD_grows (s : Dat) : ∀ (d : List Dat), d.length ≤ (mergeD d [s]).length
  | [] => Nat.zero_le _
  | x :: d => by
    rcases Int.lt_trichotomy x.1 s.1 with h | h | h
    · rw [mergeD_lt d [] h]
      have := mergeD_grows s d
      simp only [List.length_cons]
      omega
    · rw [mergeD_eq d [] h, mergeD_nil]
      simp
    · rw [mergeD_gt d [] h, mergeD_nil]
      simp only [List.length_cons]
      omega
theorem lookD_some {d : List Dat} {s : Dat} (h : OkD d) (hr : rightB s.1 s.2.1 = true) (hg : getD d s.1 = some s) : lookD d s.1 s.2.1 = ⟨s.2.2.1, s.2.2.2.1, s.2.2.2.2, 0⟩ := by
  unfold lookD
  rw [if_neg (by rw [tr_true h]; decide), if_neg (by rw [hr]; decide), hg]
  simp
theorem getD_put {d : List Dat} {s : Dat} (h : OkD d) (hf : ∀ x, getD d s.1 = some x → x.2.1 < s.2.1) : getD (mergeD d [s]) s.1 = some s := by
  rw [getD_merge s h.2, if_pos rfl]
  cases hg : getD d s.1 with
  | none => rfl
  | some x => simp only [pick_lt (hf x hg)]
theorem getD_other {d : List Dat} {s : Dat} {c : Int} (h : OkD d) (hc : ¬ c = s.1) : getD (mergeD d [s]) c = getD d c := by
  rw [getD_merge s h.2, if_neg hc]
/-- What is known where both sessions are put. -/
theorem apart_data {d : List Dat} {s t : Dat} (hne : ¬ s.1 = t.1) (hs : (putD d s).2 = 0) (ht : (putD d t).2 = 0) :
    putD d s = (mergeD d [s], 0) ∧ putD d t = (mergeD d [t], 0) ∧ putD (mergeD d [s]) t = (mergeD (mergeD d [s]) [t], 0) ∧ putD (mergeD d [t]) s = (mergeD (mergeD d [s]) [t], 0) ∧
      lookD (mergeD (mergeD d [s]) [t]) s.1 s.2.1 = ⟨s.2.2.1, s.2.2.2.1, s.2.2.2.2, 0⟩ ∧ lookD (mergeD d [s]) s.1 s.2.1 = ⟨s.2.2.1, s.2.2.2.1, s.2.2.2.2, 0⟩ ∧ d.length ≤ (mergeD (mergeD d [s]) [t]).length := by
  obtain ⟨hd, rs, fs, es⟩ := putD_zero hs
  obtain ⟨_, rt, ft, et⟩ := putD_zero ht
  have hds := mergeD_ok hd (okD_one rs)
  have hdt := mergeD_ok hd (okD_one rt)
  have hcm : mergeD (mergeD d [t]) [s] = mergeD (mergeD d [s]) [t] := by
    rcases Int.lt_or_gt_of_ne hne with h | h
    · exact (mergeD_comm h d).symm
    · exact mergeD_comm h d
  refine ⟨Prod.ext es hs, Prod.ext et ht, ?_, ?_, ?_, lookD_some hds rs (getD_put hd fs), Nat.le_trans (mergeD_grows s d) (mergeD_grows t _)⟩
  · exact putD_ok (tr_true hds) rt (fun x hx => ft x (by rw [getD_other hd (fun h => hne h.symm)] at hx; exact hx))
  · rw [← hcm]
    exact putD_ok (tr_true hdt) rs (fun x hx => fs x (by rw [getD_other hd hne] at hx; exact hx))
  · exact lookD_some (mergeD_ok hds (okD_one rt)) rs (by rw [getD_other hds hne]; exact getD_put hd fs)
set_option maxRecDepth 100000 in
set_option maxHeartbeats 4000000 in
theorem apart_bad (w : World) (A : Option Addr) (cap : Nat) (l : List Seen) (s t : Seen) (h : BookIn w A cap l) (hs : JobsIn w s) (ht : JobsIn w t) (hk : tr (OkD (l.map Seen.dat)) = false) :
    Calls Try.prog 5 #[.slice A l.length cap, s.val, t.val] w fun e w' => e = .returned (.bool true) ∧ Below w.heap.size w w' := by
  have hC := fun w h => check_dat w A cap l h
  rw [hk] at hC
  have HC := Lib.hid hC
  have HI := Lib.hid h; have HJs := Lib.hid hs; have HJt := Lib.hid ht
  clear hC h hs ht hk
  go_enter Try.func5, Try.ntmps5
  go_upto_region 1 with fail
  have hX0 : ((w.alloc s.blk).alloc t.blk).heap[w.heap.size]? = some s.blk := (Below.heap_alloc _ _ _ (by simp)).trans (heap_alloc_new w s.blk)
  have hY0 : ((w.alloc s.blk).alloc t.blk).heap[w.heap.size + 1]? = some t.blk := by simpa using heap_alloc_new (w.alloc s.blk) t.blk
  change Code.wp _ _ _ _ ((w.alloc s.blk).alloc t.blk)
  have hB0 : Below w.heap.size w ((w.alloc s.blk).alloc t.blk) := al2 _ _
  generalize ((w.alloc s.blk).alloc t.blk) = w0 at *
  have HX0 := Lib.hid hX0; have HY0 := Lib.hid hY0; have HB0 := Lib.hid hB0
  clear hX0 hY0 hB0
  go_upto_region 3 with (go_at_call 7
                         refine (awakeS _).mono ?_
                         rintro e w1 ⟨rfl, hb1⟩
                         have HX1 := Lib.hid (blk_below hb1 (lt_of_some HX0.out) HX0.out); have HY1 := Lib.hid (blk_below hb1 (lt_of_some HY0.out) HY0.out)
                         have HB1 := Lib.hid (HB0.out.trans (hb1.mono HB0.out.size))
                         clear hb1)
  go_wp2_with (go_at_call 12
               refine (HC.out _ (HI.out.below HB1.out)).mono ?_
               rintro e w2 ⟨rfl, hb2⟩
               have HX2 := Lib.hid (blk_below hb2 (lt_of_some HX1.out) HX1.out); have HY2 := Lib.hid (blk_below hb2 (lt_of_some HY1.out) HY1.out)
               have HB2 := Lib.hid (HB1.out.trans (hb2.mono HB1.out.size))
               obtain ⟨x0, x1, x2, x3, x4, xlt⟩ := seen_blk HX2.out
               obtain ⟨y0, y1, y2, y3, y4, ylt⟩ := seen_blk HY2.out
               clear hb2)
  go_ret
  exact ⟨rfl, HB2.out⟩
set_option maxRecDepth 100000 in
set_option maxHeartbeats 4000000 in
theorem apart_same (w : World) (A : Option Addr) (cap : Nat) (l : List Seen) (s t : Seen) (h : BookIn w A cap l) (hs : JobsIn w s) (ht : JobsIn w t) (hk : tr (OkD (l.map Seen.dat)) = true) (hc : (s.client == t.client) = true) :
    Calls Try.prog 5 #[.slice A l.length cap, s.val, t.val] w fun e w' => e = .returned (.bool true) ∧ Below w.heap.size w w' := by
  have hC := fun w h => check_dat w A cap l h
  rw [hk] at hC
  have HC := Lib.hid hC
  have HI := Lib.hid h; have HJs := Lib.hid hs; have HJt := Lib.hid ht
  clear hC h hs ht hk
  go_enter Try.func5, Try.ntmps5
  go_upto_region 1 with fail
  have hX0 : ((w.alloc s.blk).alloc t.blk).heap[w.heap.size]? = some s.blk := (Below.heap_alloc _ _ _ (by simp)).trans (heap_alloc_new w s.blk)
  have hY0 : ((w.alloc s.blk).alloc t.blk).heap[w.heap.size + 1]? = some t.blk := by simpa using heap_alloc_new (w.alloc s.blk) t.blk
  change Code.wp _ _ _ _ ((w.alloc s.blk).alloc t.blk)
  have hB0 : Below w.heap.size w ((w.alloc s.blk).alloc t.blk) := al2 _ _
  generalize ((w.alloc s.blk).alloc t.blk) = w0 at *
  have HX0 := Lib.hid hX0; have HY0 := Lib.hid hY0; have HB0 := Lib.hid hB0
  clear hX0 hY0 hB0
  go_upto_region 3 with (go_at_call 7
                         refine (awakeS _).mono ?_
                         rintro e w1 ⟨rfl, hb1⟩
                         have HX1 := Lib.hid (blk_below hb1 (lt_of_some HX0.out) HX0.out); have HY1 := Lib.hid (blk_below hb1 (lt_of_some HY0.out) HY0.out)
                         have HB1 := Lib.hid (HB0.out.trans (hb1.mono HB0.out.size))
                         clear hb1)
  go_wp2_with (go_at_call 12
               refine (HC.out _ (HI.out.below HB1.out)).mono ?_
               rintro e w2 ⟨rfl, hb2⟩
               have HX2 := Lib.hid (blk_below hb2 (lt_of_some HX1.out) HX1.out); have HY2 := Lib.hid (blk_below hb2 (lt_of_some HY1.out) HY1.out)
               have HB2 := Lib.hid (HB1.out.trans (hb2.mono HB1.out.size))
               obtain ⟨x0, x1, x2, x3, x4, xlt⟩ := seen_blk HX2.out
               obtain ⟨y0, y1, y2, y3, y4, ylt⟩ := seen_blk HY2.out
               clear hb2)
  go_ret
  exact ⟨rfl, HB2.out⟩
set_option maxRecDepth 100000 in
set_option maxHeartbeats 4000000 in
theorem apart_no1 (w : World) (A : Option Addr) (cap : Nat) (l : List Seen) (s t : Seen) (h : BookIn w A cap l) (hs : JobsIn w s) (ht : JobsIn w t) (hk : tr (OkD (l.map Seen.dat)) = true) (hc : (s.client == t.client) = false) (h1 : ¬ (putD (l.map Seen.dat) s.dat).2 = 0) :
    Calls Try.prog 5 #[.slice A l.length cap, s.val, t.val] w fun e w' => e = .returned (.bool true) ∧ Below w.heap.size w w' := by
  have hP1 := fun w h hj => put10 w A cap l s h hj
  have hP2 := fun w h hj => put10 w A cap l t h hj
  have h1' : ((putD (l.map Seen.dat) s.dat).2 == 0) = false := by simpa using h1
  have h1'' : ((putD (l.map Seen.dat) s.dat).2 != 0) = true := by simpa using h1
  generalize (putD (l.map Seen.dat) s.dat).2 = n1 at *
  generalize (putD (l.map Seen.dat) t.dat).2 = n2 at *
  have HP1 := Lib.hid hP1; have HP2 := Lib.hid hP2
  clear hP1 hP2 h1
  have hC := fun w h => check_dat w A cap l h
  rw [hk] at hC
  have HC := Lib.hid hC
  have HI := Lib.hid h; have HJs := Lib.hid hs; have HJt := Lib.hid ht
  clear hC h hs ht hk
  go_enter Try.func5, Try.ntmps5
  go_upto_region 1 with fail
  have hX0 : ((w.alloc s.blk).alloc t.blk).heap[w.heap.size]? = some s.blk := (Below.heap_alloc _ _ _ (by simp)).trans (heap_alloc_new w s.blk)
  have hY0 : ((w.alloc s.blk).alloc t.blk).heap[w.heap.size + 1]? = some t.blk := by simpa using heap_alloc_new (w.alloc s.blk) t.blk
  change Code.wp _ _ _ _ ((w.alloc s.blk).alloc t.blk)
  have hB0 : Below w.heap.size w ((w.alloc s.blk).alloc t.blk) := al2 _ _
  generalize ((w.alloc s.blk).alloc t.blk) = w0 at *
  have HX0 := Lib.hid hX0; have HY0 := Lib.hid hY0; have HB0 := Lib.hid hB0
  clear hX0 hY0 hB0
  go_upto_region 3 with (go_at_call 7
                         refine (awakeS _).mono ?_
                         rintro e w1 ⟨rfl, hb1⟩
                         have HX1 := Lib.hid (blk_below hb1 (lt_of_some HX0.out) HX0.out); have HY1 := Lib.hid (blk_below hb1 (lt_of_some HY0.out) HY0.out)
                         have HB1 := Lib.hid (HB0.out.trans (hb1.mono HB0.out.size))
                         clear hb1)
  go_upto_region 5 with (go_at_call 12
                         refine (HC.out _ (HI.out.below HB1.out)).mono ?_
                         rintro e w2 ⟨rfl, hb2⟩
                         have HX2 := Lib.hid (blk_below hb2 (lt_of_some HX1.out) HX1.out); have HY2 := Lib.hid (blk_below hb2 (lt_of_some HY1.out) HY1.out)
                         have HB2 := Lib.hid (HB1.out.trans (hb2.mono HB1.out.size))
                         obtain ⟨x0, x1, x2, x3, x4, xlt⟩ := seen_blk HX2.out
                         obtain ⟨y0, y1, y2, y3, y4, ylt⟩ := seen_blk HY2.out
                         clear hb2)
  go_upto_region 6 with (go_at_call 10
                         refine (HP1.out _ (HI.out.below HB2.out) (HJs.out.below HB2.out)).mono ?_
                         rintro e w3 ⟨A3, c3, m3, rfl, hm, hI, hb⟩
                         have HM3 := Lib.hid hm; have HI3 := Lib.hid hI
                         have HX3 := Lib.hid (blk_below hb (lt_of_some HX2.out) HX2.out); have HY3 := Lib.hid (blk_below hb (lt_of_some HY2.out) HY2.out)
                         have HB3 := Lib.hid (HB2.out.trans (hb.mono HB2.out.size))
                         skip
                         clear hb hI hm x0 x1 x2 x3 x4 xlt y0 y1 y2 y3 y4 ylt
                         obtain ⟨x0, x1, x2, x3, x4, xlt⟩ := seen_blk HX3.out
                         obtain ⟨y0, y1, y2, y3, y4, ylt⟩ := seen_blk HY3.out)
  go_upto_region 7 with (go_at_call 10
                         refine (HP2.out _ (HI.out.below HB3.out) (HJt.out.below HB3.out)).mono ?_
                         rintro e w4 ⟨A4, c4, m4, rfl, hm, hI, hb⟩
                         have HM4 := Lib.hid hm; have HI4 := Lib.hid hI
                         have HX4 := Lib.hid (blk_below hb (lt_of_some HX3.out) HX3.out); have HY4 := Lib.hid (blk_below hb (lt_of_some HY3.out) HY3.out)
                         have HB4 := Lib.hid (HB3.out.trans (hb.mono HB3.out.size))
                         skip
                         clear hb hI hm x0 x1 x2 x3 x4 xlt y0 y1 y2 y3 y4 ylt
                         obtain ⟨x0, x1, x2, x3, x4, xlt⟩ := seen_blk HX4.out
                         obtain ⟨y0, y1, y2, y3, y4, ylt⟩ := seen_blk HY4.out)
  go_wp2_with fail
  go_ret
  exact ⟨rfl, HB4.out⟩
set_option maxRecDepth 100000 in
set_option maxHeartbeats 4000000 in
theorem apart_no2 (w : World) (A : Option Addr) (cap : Nat) (l : List Seen) (s t : Seen) (h : BookIn w A cap l) (hs : JobsIn w s) (ht : JobsIn w t) (hk : tr (OkD (l.map Seen.dat)) = true) (hc : (s.client == t.client) = false) (h1 : (putD (l.map Seen.dat) s.dat).2 = 0) (h2 : ¬ (putD (l.map Seen.dat) t.dat).2 = 0) :
    Calls Try.prog 5 #[.slice A l.length cap, s.val, t.val] w fun e w' => e = .returned (.bool true) ∧ Below w.heap.size w w' := by
  have hP1 := fun w h hj => put10 w A cap l s h hj
  have hP2 := fun w h hj => put10 w A cap l t h hj
  have h2' : ((putD (l.map Seen.dat) t.dat).2 == 0) = false := by simpa using h2
  have h2'' : ((putD (l.map Seen.dat) t.dat).2 != 0) = true := by simpa using h2
  rw [h1] at hP1
  generalize (putD (l.map Seen.dat) t.dat).2 = n2 at *
  have HP1 := Lib.hid hP1; have HP2 := Lib.hid hP2
  clear hP1 hP2 h1 h2
  have hC := fun w h => check_dat w A cap l h
  rw [hk] at hC
  have HC := Lib.hid hC
  have HI := Lib.hid h; have HJs := Lib.hid hs; have HJt := Lib.hid ht
  clear hC h hs ht hk
  go_enter Try.func5, Try.ntmps5
  go_upto_region 1 with fail
  have hX0 : ((w.alloc s.blk).alloc t.blk).heap[w.heap.size]? = some s.blk := (Below.heap_alloc _ _ _ (by simp)).trans (heap_alloc_new w s.blk)
  have hY0 : ((w.alloc s.blk).alloc t.blk).heap[w.heap.size + 1]? = some t.blk := by simpa using heap_alloc_new (w.alloc s.blk) t.blk
  change Code.wp _ _ _ _ ((w.alloc s.blk).alloc t.blk)
  have hB0 : Below w.heap.size w ((w.alloc s.blk).alloc t.blk) := al2 _ _
  generalize ((w.alloc s.blk).alloc t.blk) = w0 at *
  have HX0 := Lib.hid hX0; have HY0 := Lib.hid hY0; have HB0 := Lib.hid hB0
  clear hX0 hY0 hB0
  go_upto_region 3 with (go_at_call 7
                         refine (awakeS _).mono ?_
                         rintro e w1 ⟨rfl, hb1⟩
                         have HX1 := Lib.hid (blk_below hb1 (lt_of_some HX0.out) HX0.out); have HY1 := Lib.hid (blk_below hb1 (lt_of_some HY0.out) HY0.out)
                         have HB1 := Lib.hid (HB0.out.trans (hb1.mono HB0.out.size))
                         clear hb1)
  go_upto_region 5 with (go_at_call 12
                         refine (HC.out _ (HI.out.below HB1.out)).mono ?_
                         rintro e w2 ⟨rfl, hb2⟩
                         have HX2 := Lib.hid (blk_below hb2 (lt_of_some HX1.out) HX1.out); have HY2 := Lib.hid (blk_below hb2 (lt_of_some HY1.out) HY1.out)
                         have HB2 := Lib.hid (HB1.out.trans (hb2.mono HB1.out.size))
                         obtain ⟨x0, x1, x2, x3, x4, xlt⟩ := seen_blk HX2.out
                         obtain ⟨y0, y1, y2, y3, y4, ylt⟩ := seen_blk HY2.out
                         clear hb2)
  go_upto_region 6 with (go_at_call 10
                         refine (HP1.out _ (HI.out.below HB2.out) (HJs.out.below HB2.out)).mono ?_
                         rintro e w3 ⟨A3, c3, m3, rfl, hm, hI, hb⟩
                         have HM3 := Lib.hid hm; have HI3 := Lib.hid hI
                         have HX3 := Lib.hid (blk_below hb (lt_of_some HX2.out) HX2.out); have HY3 := Lib.hid (blk_below hb (lt_of_some HY2.out) HY2.out)
                         have HB3 := Lib.hid (HB2.out.trans (hb.mono HB2.out.size))
                         skip
                         clear hb hI hm x0 x1 x2 x3 x4 xlt y0 y1 y2 y3 y4 ylt
                         obtain ⟨x0, x1, x2, x3, x4, xlt⟩ := seen_blk HX3.out
                         obtain ⟨y0, y1, y2, y3, y4, ylt⟩ := seen_blk HY3.out)
  go_upto_region 7 with (go_at_call 10
                         refine (HP2.out _ (HI.out.below HB3.out) (HJt.out.below HB3.out)).mono ?_
                         rintro e w4 ⟨A4, c4, m4, rfl, hm, hI, hb⟩
                         have HM4 := Lib.hid hm; have HI4 := Lib.hid hI
                         have HX4 := Lib.hid (blk_below hb (lt_of_some HX3.out) HX3.out); have HY4 := Lib.hid (blk_below hb (lt_of_some HY3.out) HY3.out)
                         have HB4 := Lib.hid (HB3.out.trans (hb.mono HB3.out.size))
                         skip
                         clear hb hI hm x0 x1 x2 x3 x4 xlt y0 y1 y2 y3 y4 ylt
                         obtain ⟨x0, x1, x2, x3, x4, xlt⟩ := seen_blk HX4.out
                         obtain ⟨y0, y1, y2, y3, y4, ylt⟩ := seen_blk HY4.out)
  go_wp2_with fail
  go_ret
  exact ⟨rfl, HB4.out⟩
set_option maxRecDepth 100000 in
set_option maxHeartbeats 4000000 in
theorem apart_both (w : World) (A : Option Addr) (cap : Nat) (l : List Seen) (s t : Seen) (h : BookIn w A cap l) (hs : JobsIn w s) (ht : JobsIn w t) (hk : tr (OkD (l.map Seen.dat)) = true) (hc : (s.client == t.client) = false) (h1 : (putD (l.map Seen.dat) s.dat).2 = 0) (h2 : (putD (l.map Seen.dat) t.dat).2 = 0) :
    Calls Try.prog 5 #[.slice A l.length cap, s.val, t.val] w fun e w' => e = .returned (.bool true) ∧ Below w.heap.size w w' := by
  obtain ⟨e1, e2, e3, e4, e5, e6, e7⟩ := apart_data (s := s.dat) (t := t.dat) (show ¬ s.client = t.client from by simpa using hc) h1 h2
  have hP1 := fun w h hj => put10 w A cap l s h hj
  have hP2 := fun w h hj => put10 w A cap l t h hj
  rw [e1] at hP1
  rw [e2] at hP2
  have hP3 : ∀ {B : Option Addr} {bc : Nat} {m : List Seen}, m.map Seen.dat = mergeD (l.map Seen.dat) [s.dat] → ∀ w, BookIn w B bc m → JobsIn w t → Calls Try.prog 10 #[.slice B m.length bc, t.val] w fun e w' => ∃ (A' : Option Addr) (cap' : Nat) (m' : List Seen), e = .returned (.tuple #[.slice A' m'.length cap', .int .i64 0]) ∧ m'.map Seen.dat = mergeD (mergeD (l.map Seen.dat) [s.dat]) [t.dat] ∧ BookIn w' A' cap' m' ∧ Below w.heap.size w w' := fun {B bc m} hm w h hj => by
    have := put10 w B bc m t h hj
    rw [hm, e3] at this
    exact this
  have hP4 : ∀ {B : Option Addr} {bc : Nat} {m : List Seen}, m.map Seen.dat = mergeD (l.map Seen.dat) [t.dat] → ∀ w, BookIn w B bc m → JobsIn w s → Calls Try.prog 10 #[.slice B m.length bc, s.val] w fun e w' => ∃ (A' : Option Addr) (cap' : Nat) (m' : List Seen), e = .returned (.tuple #[.slice A' m'.length cap', .int .i64 0]) ∧ m'.map Seen.dat = mergeD (mergeD (l.map Seen.dat) [s.dat]) [t.dat] ∧ BookIn w' A' cap' m' ∧ Below w.heap.size w w' := fun {B bc m} hm w h hj => by
    have := put10 w B bc m s h hj
    rw [hm, e4] at this
    exact this
  have hL5 : ∀ {B : Option Addr} {bc : Nat} {m : List Seen}, m.map Seen.dat = mergeD (mergeD (l.map Seen.dat) [s.dat]) [t.dat] → ∀ w, BookIn w B bc m → Calls Try.prog 8 #[.slice B m.length bc, .int .i64 s.client, .int .i64 s.seq] w fun e w' => ∃ J jc, e = .returned (.tuple #[resV s.err s.time (.slice J s.jobs.length jc), .int .i64 0]) ∧ ResIn w' J jc s.jobs ∧ Below w.heap.size w w' := fun {B bc m} hm w h => by
    have := look8 w B bc m s.client s.seq h
    rw [hm, show s.client = s.dat.1 from rfl, show s.seq = s.dat.2.1 from rfl, e5] at this
    exact this
  have hL6 : ∀ {B : Option Addr} {bc : Nat} {m : List Seen}, m.map Seen.dat = mergeD (l.map Seen.dat) [s.dat] → ∀ w, BookIn w B bc m → Calls Try.prog 8 #[.slice B m.length bc, .int .i64 s.client, .int .i64 s.seq] w fun e w' => ∃ J jc, e = .returned (.tuple #[resV s.err s.time (.slice J s.jobs.length jc), .int .i64 0]) ∧ ResIn w' J jc s.jobs ∧ Below w.heap.size w w' := fun {B bc m} hm w h => by
    have := look8 w B bc m s.client s.seq h
    rw [hm, show s.client = s.dat.1 from rfl, show s.seq = s.dat.2.1 from rfl, e6] at this
    exact this
  have HP1 := Lib.hid hP1; have HP2 := Lib.hid hP2
  clear hP1 hP2 h1 h2 e1 e2 e3 e4 e5 e6
  have hC := fun w h => check_dat w A cap l h
  rw [hk] at hC
  have HC := Lib.hid hC
  have HI := Lib.hid h; have HJs := Lib.hid hs; have HJt := Lib.hid ht
  clear hC h hs ht hk
  go_enter Try.func5, Try.ntmps5
  go_upto_region 1 with fail
  have hX0 : ((w.alloc s.blk).alloc t.blk).heap[w.heap.size]? = some s.blk := (Below.heap_alloc _ _ _ (by simp)).trans (heap_alloc_new w s.blk)
  have hY0 : ((w.alloc s.blk).alloc t.blk).heap[w.heap.size + 1]? = some t.blk := by simpa using heap_alloc_new (w.alloc s.blk) t.blk
  change Code.wp _ _ _ _ ((w.alloc s.blk).alloc t.blk)
  have hB0 : Below w.heap.size w ((w.alloc s.blk).alloc t.blk) := al2 _ _
  generalize ((w.alloc s.blk).alloc t.blk) = w0 at *
  have HX0 := Lib.hid hX0; have HY0 := Lib.hid hY0; have HB0 := Lib.hid hB0
  clear hX0 hY0 hB0
  go_upto_region 3 with (go_at_call 7
                         refine (awakeS _).mono ?_
                         rintro e w1 ⟨rfl, hb1⟩
                         have HX1 := Lib.hid (blk_below hb1 (lt_of_some HX0.out) HX0.out); have HY1 := Lib.hid (blk_below hb1 (lt_of_some HY0.out) HY0.out)
                         have HB1 := Lib.hid (HB0.out.trans (hb1.mono HB0.out.size))
                         clear hb1)
  go_upto_region 5 with (go_at_call 12
                         refine (HC.out _ (HI.out.below HB1.out)).mono ?_
                         rintro e w2 ⟨rfl, hb2⟩
                         have HX2 := Lib.hid (blk_below hb2 (lt_of_some HX1.out) HX1.out); have HY2 := Lib.hid (blk_below hb2 (lt_of_some HY1.out) HY1.out)
                         have HB2 := Lib.hid (HB1.out.trans (hb2.mono HB1.out.size))
                         obtain ⟨x0, x1, x2, x3, x4, xlt⟩ := seen_blk HX2.out
                         obtain ⟨y0, y1, y2, y3, y4, ylt⟩ := seen_blk HY2.out
                         clear hb2)
  go_upto_region 6 with (go_at_call 10
                         refine (HP1.out _ (HI.out.below HB2.out) (HJs.out.below HB2.out)).mono ?_
                         rintro e w3 ⟨A3, c3, m3, rfl, hm, hI, hb⟩
                         have HM3 := Lib.hid hm; have HI3 := Lib.hid hI
                         have HX3 := Lib.hid (blk_below hb (lt_of_some HX2.out) HX2.out); have HY3 := Lib.hid (blk_below hb (lt_of_some HY2.out) HY2.out)
                         have HB3 := Lib.hid (HB2.out.trans (hb.mono HB2.out.size))
                         skip
                         clear hb hI hm x0 x1 x2 x3 x4 xlt y0 y1 y2 y3 y4 ylt
                         obtain ⟨x0, x1, x2, x3, x4, xlt⟩ := seen_blk HX3.out
                         obtain ⟨y0, y1, y2, y3, y4, ylt⟩ := seen_blk HY3.out)
  go_upto_region 7 with (go_at_call 10
                         refine (HP2.out _ (HI.out.below HB3.out) (HJt.out.below HB3.out)).mono ?_
                         rintro e w4 ⟨A4, c4, m4, rfl, hm, hI, hb⟩
                         have HM4 := Lib.hid hm; have HI4 := Lib.hid hI
                         have HX4 := Lib.hid (blk_below hb (lt_of_some HX3.out) HX3.out); have HY4 := Lib.hid (blk_below hb (lt_of_some HY3.out) HY3.out)
                         have HB4 := Lib.hid (HB3.out.trans (hb.mono HB3.out.size))
                         have HK4 := Lib.hid (HI3.out.below hb)
                         clear hb hI hm x0 x1 x2 x3 x4 xlt y0 y1 y2 y3 y4 ylt
                         obtain ⟨x0, x1, x2, x3, x4, xlt⟩ := seen_blk HX4.out
                         obtain ⟨y0, y1, y2, y3, y4, ylt⟩ := seen_blk HY4.out)
  go_upto_region 10 with (go_at_call 10
                          refine (hP3 HM3.out _ HK4.out (HJt.out.below HB4.out)).mono ?_
                          rintro e w5 ⟨A5, c5, m5, rfl, hm, hI, hb⟩
                          have HM5 := Lib.hid hm; have HI5 := Lib.hid hI
                          have HX5 := Lib.hid (blk_below hb (lt_of_some HX4.out) HX4.out); have HY5 := Lib.hid (blk_below hb (lt_of_some HY4.out) HY4.out)
                          have HB5 := Lib.hid (HB4.out.trans (hb.mono HB4.out.size))
                          have HK5 := Lib.hid (HK4.out.below hb); have HL5 := Lib.hid (HI4.out.below hb)
                          clear hb hI hm x0 x1 x2 x3 x4 xlt y0 y1 y2 y3 y4 ylt
                          obtain ⟨x0, x1, x2, x3, x4, xlt⟩ := seen_blk HX5.out
                          obtain ⟨y0, y1, y2, y3, y4, ylt⟩ := seen_blk HY5.out)
  go_upto_region 11 with (go_at_call 10
                          refine (hP4 HM4.out _ HL5.out (HJs.out.below HB5.out)).mono ?_
                          rintro e w6 ⟨A6, c6, m6, rfl, hm, hI, hb⟩
                          have HM6 := Lib.hid hm; have HI6 := Lib.hid hI
                          have HX6 := Lib.hid (blk_below hb (lt_of_some HX5.out) HX5.out); have HY6 := Lib.hid (blk_below hb (lt_of_some HY5.out) HY5.out)
                          have HB6 := Lib.hid (HB5.out.trans (hb.mono HB5.out.size))
                          have HK6 := Lib.hid (HK5.out.below hb); have HN6 := Lib.hid (HI5.out.below hb)
                          clear hb hI hm x0 x1 x2 x3 x4 xlt y0 y1 y2 y3 y4 ylt
                          obtain ⟨x0, x1, x2, x3, x4, xlt⟩ := seen_blk HX6.out
                          obtain ⟨y0, y1, y2, y3, y4, ylt⟩ := seen_blk HY6.out)
  have hlen : l.length ≤ m5.length := by
    have h1 := congrArg List.length HM5.out
    simp only [List.length_map] at h1 e7
    omega
  have Hlen := Lib.hid hlen
  clear hlen e7
  go_upto_region 12 with (go_at_call 8
                          refine (hL5 HM5.out _ HN6.out).mono ?_
                          rintro e w7 ⟨J7, jc7, rfl, _, hb⟩
                          have HK7 := Lib.hid (HK6.out.below hb); have HN7 := Lib.hid (HN6.out.below hb); have HI7 := Lib.hid (HI6.out.below hb)
                          have HX7 := Lib.hid (blk_below hb (lt_of_some HX6.out) HX6.out)
                          have HB7 := Lib.hid (HB6.out.trans (hb.mono HB6.out.size))
                          clear hb x0 x1 x2 x3 x4 xlt y0 y1 y2 y3 y4 ylt)
  have hz8 : (w7.alloc (resBlk s.err s.time (.slice J7 s.jobs.length jc7))).heap[w7.heap.size]? = some (resBlk s.err s.time (.slice J7 s.jobs.length jc7)) := heap_alloc_new w7 _
  change Code.wp _ _ _ _ (w7.alloc (resBlk s.err s.time (.slice J7 s.jobs.length jc7)))
  have hb8 : Below w7.heap.size w7 (w7.alloc (resBlk s.err s.time (.slice J7 s.jobs.length jc7))) := al _
  generalize w7.alloc (resBlk s.err s.time (.slice J7 s.jobs.length jc7)) = w8 at *
  have HK8 := Lib.hid (HK7.out.below hb8); have HN8 := Lib.hid (HN7.out.below hb8); have HI8 := Lib.hid (HI7.out.below hb8)
  have HX8 := Lib.hid (blk_below hb8 (lt_of_some HX7.out) HX7.out); have HZ8 := Lib.hid hz8
  have HB8 := Lib.hid (HB7.out.trans (hb8.mono HB7.out.size))
  clear hz8 hb8
  obtain ⟨x0, x1, x2, x3, x4, xlt⟩ := seen_blk HX8.out
  go_upto_region 13 with (go_at_call 8
                          refine (hL6 HM3.out _ HK8.out).mono ?_
                          rintro e w9 ⟨J9, jc9, rfl, _, hb⟩
                          have HN9 := Lib.hid (HN8.out.below hb); have HI9 := Lib.hid (HI8.out.below hb)
                          have HZ9 := Lib.hid (blk_below hb (lt_of_some HZ8.out) HZ8.out)
                          have HB9 := Lib.hid (HB8.out.trans (hb.mono HB8.out.size))
                          clear hb x0 x1 x2 x3 x4 xlt)
  have hq10 : (w9.alloc (resBlk s.err s.time (.slice J9 s.jobs.length jc9))).heap[w9.heap.size]? = some (resBlk s.err s.time (.slice J9 s.jobs.length jc9)) := heap_alloc_new w9 _
  change Code.wp _ _ _ _ (w9.alloc (resBlk s.err s.time (.slice J9 s.jobs.length jc9)))
  have hb10 : Below w9.heap.size w9 (w9.alloc (resBlk s.err s.time (.slice J9 s.jobs.length jc9))) := al _
  generalize w9.alloc (resBlk s.err s.time (.slice J9 s.jobs.length jc9)) = w10 at *
  have HN10 := Lib.hid (HN9.out.below hb10); have HI10 := Lib.hid (HI9.out.below hb10)
  have HZ10 := Lib.hid (blk_below hb10 (lt_of_some HZ9.out) HZ9.out); have HQ10 := Lib.hid hq10
  have HB10 := Lib.hid (HB9.out.trans (hb10.mono HB9.out.size))
  clear hq10 hb10
  have hlen1 : (l.length : Int) ≤ (m5.length : Int) := by have := Hlen.out; omega
  have hlen2 : decide ((l.length : Int) ≤ (m5.length : Int)) = true := decide_eq_true hlen1
  go_wp2_with (go_at_call 15
               refine (books_true w10 A5 A6 c5 c6 m5 m6 HN10.out HI10.out (HM5.out.trans HM6.out.symm)).mono ?_
               rintro e w11 ⟨rfl, hb11⟩
               have HB11 := Lib.hid (HB10.out.trans (hb11.mono HB10.out.size))
               obtain ⟨z0, z1, z2, _, _, _⟩ := res_cells (blk_below hb11 (lt_of_some HZ10.out) HZ10.out)
               obtain ⟨q0, q1, q2, _, _, _⟩ := res_cells (blk_below hb11 (lt_of_some HQ10.out) HQ10.out)
               clear hb11)
  go_ret
  exact ⟨by simp, HB11.out⟩
theorem apart_law (w : World) (A : Option Addr) (cap : Nat) (l : List Seen) (s t : Seen) (h : BookIn w A cap l) (hs : JobsIn w s) (ht : JobsIn w t) :
    Calls Try.prog 5 #[.slice A l.length cap, s.val, t.val] w fun e w' => e = .returned (.bool true) ∧ Below w.heap.size w w' := by
  cases hk : tr (OkD (l.map Seen.dat))
  · exact apart_bad w A cap l s t h hs ht hk
  cases hc : (s.client == t.client)
  rotate_left
  · exact apart_same w A cap l s t h hs ht hk hc
  by_cases h1 : (putD (l.map Seen.dat) s.dat).2 = 0
  · by_cases h2 : (putD (l.map Seen.dat) t.dat).2 = 0
    · exact apart_both w A cap l s t h hs ht hk hc h1 h2
    · exact apart_no2 w A cap l s t h hs ht hk hc h1 h2
  · exact apart_no1 w A cap l s t h hs ht hk hc h1
end Go.Proofs.Ytofdkincbhahfaa
