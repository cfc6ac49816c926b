/- What is proved: SeatLooks answers yes, whatever the book, the client, the number and the session. Condition: the jobs of each session take at most 2^47 bytes. -/
import Derived.Test.YtofdkincbhahfaaAwakeS
set_option linter.unusedVariables false
set_option linter.unusedSimpArgs false
namespace Go.Proofs.Ytofdkincbhahfaa
open Go.RowKit
attribute [local go_sem] Seen.val resV

theorem ResIn.below {w w' : World} {J : Option Addr} {jc : Nat} {js : List JobD} (h : ResIn w J jc js) (hb : Below w.heap.size w w') : ResIn w' J jc js := ⟨(h.1.below hb (Nat.le_refl _)).more hb.size, h.2⟩
set_option maxRecDepth 100000 in
set_option maxHeartbeats 4000000 in
theorem looks_law (w : World) (A : Option Addr) (cap : Nat) (l : List Seen) (c q : Int) (s : Seen) (h : BookIn w A cap l) (hj : JobsIn w s) :
    Calls Try.prog 3 #[.slice A l.length cap, .int .i64 c, .int .i64 q, s.val] w fun e w' => e = .returned (.bool true) ∧ Below w.heap.size w w' := by
  have hL8 := fun w h => look8 w A cap l c q h
  have hL9 := fun w h => look9 w A cap l c q h
  have hP10 := fun w h hj => put10 w A cap l s h hj
  have hP11 := fun w h hj => put11 w A cap l s h hj
  have hC12 := fun w h => check_dat w A cap l h
  have hC13 := fun w h => rCheck_dat w A cap l h
  obtain ⟨a, ha⟩ : ∃ a, lookD (l.map Seen.dat) c q = a := ⟨_, rfl⟩
  obtain ⟨D, hD⟩ : ∃ D, (putD (l.map Seen.dat) s.dat).1 = D := ⟨_, rfl⟩
  obtain ⟨n, hn⟩ : ∃ n, (putD (l.map Seen.dat) s.dat).2 = n := ⟨_, rfl⟩
  obtain ⟨k, hk⟩ : ∃ k, tr (OkD (l.map Seen.dat)) = k := ⟨_, rfl⟩
  rw [ha] at hL8 hL9
  rw [hD, hn] at hP10 hP11
  rw [hk] at hC12 hC13
  have H8 := Lib.hid hL8; have H9 := Lib.hid hL9; have H10 := Lib.hid hP10; have H11 := Lib.hid hP11; have H12 := Lib.hid hC12; have H13 := Lib.hid hC13
  have HI := Lib.hid h; have HJ := Lib.hid hj
  clear hL8 hL9 hP10 hP11 hC12 hC13 h hj ha hD hn hk
  go_enter Try.func3, Try.ntmps3
  go_upto_region 1 with fail
  have hX0 : (w.alloc s.blk).heap[w.heap.size]? = some s.blk := heap_alloc_new w _
  change Code.wp _ _ _ _ (w.alloc s.blk)
  have hB0 : Below w.heap.size w (w.alloc s.blk) := al _
  generalize (w.alloc s.blk) = w0 at *
  have HX0 := Lib.hid hX0; have HB0 := Lib.hid hB0
  clear hX0 hB0
  go_upto_region 3 with (go_at_call 7
                         refine (awakeS _).mono ?_
                         rintro e w1 ⟨rfl, hb1⟩
                         have HX1 := Lib.hid (blk_below hb1 (lt_of_some HX0.out) HX0.out)
                         have HB1 := Lib.hid (HB0.out.trans (hb1.mono HB0.out.size))
                         clear hb1)
  go_upto_region 4 with (go_at_call 8
                         refine (H8.out _ (HI.out.below HB1.out)).mono ?_
                         rintro e w2 ⟨J2, jc2, rfl, hr2, hb2⟩
                         have HR2 := Lib.hid hr2
                         have HX2 := Lib.hid (blk_below hb2 (lt_of_some HX1.out) HX1.out)
                         have HB2 := Lib.hid (HB1.out.trans (hb2.mono HB1.out.size))
                         clear hb2 hr2)
  have hy3 : (w2.alloc (resBlk a.err a.time (.slice J2 a.jobs.length jc2))).heap[w2.heap.size]? = some (resBlk a.err a.time (.slice J2 a.jobs.length jc2)) := heap_alloc_new w2 _
  change Code.wp _ _ _ _ (w2.alloc (resBlk a.err a.time (.slice J2 a.jobs.length jc2)))
  have hb3 : Below w2.heap.size w2 (w2.alloc (resBlk a.err a.time (.slice J2 a.jobs.length jc2))) := al _
  generalize w2.alloc (resBlk a.err a.time (.slice J2 a.jobs.length jc2)) = w3 at *
  have HX3 := Lib.hid (blk_below hb3 (lt_of_some HX2.out) HX2.out)
  have HB3 := Lib.hid (HB2.out.trans (hb3.mono HB2.out.size)); have HR3 := Lib.hid (HR2.out.below hb3); have HY3 := Lib.hid hy3
  clear hy3 hb3
  go_upto_region 5 with (go_at_call 9
                         refine (H9.out _ (HI.out.below HB3.out)).mono ?_
                         rintro e w4 ⟨J4, jc4, rfl, hr4, hb4⟩
                         have HS4 := Lib.hid hr4; have HR4 := Lib.hid (HR3.out.below hb4)
                         have HX4 := Lib.hid (blk_below hb4 (lt_of_some HX3.out) HX3.out)
                         have HY4 := Lib.hid (blk_below hb4 (lt_of_some HY3.out) HY3.out)
                         have HB4 := Lib.hid (HB3.out.trans (hb4.mono HB3.out.size))
                         clear hb4 hr4)
  have hz5 : (w4.alloc (resBlk a.err a.time (.slice J4 a.jobs.length jc4))).heap[w4.heap.size]? = some (resBlk a.err a.time (.slice J4 a.jobs.length jc4)) := heap_alloc_new w4 _
  change Code.wp _ _ _ _ (w4.alloc (resBlk a.err a.time (.slice J4 a.jobs.length jc4)))
  have hb5 : Below w4.heap.size w4 (w4.alloc (resBlk a.err a.time (.slice J4 a.jobs.length jc4))) := al _
  generalize w4.alloc (resBlk a.err a.time (.slice J4 a.jobs.length jc4)) = w5 at *
  have HX5 := Lib.hid (blk_below hb5 (lt_of_some HX4.out) HX4.out); have HY5 := Lib.hid (blk_below hb5 (lt_of_some HY4.out) HY4.out)
  have HB5 := Lib.hid (HB4.out.trans (hb5.mono HB4.out.size)); have HR5 := Lib.hid (HR4.out.below hb5); have HS5 := Lib.hid (HS4.out.below hb5); have HZ5 := Lib.hid hz5
  clear hz5 hb5
  obtain ⟨x0, x1, x2, x3, x4, xlt⟩ := seen_blk HX5.out
  go_upto_region 6 with (go_at_call 10
                         refine (H10.out _ (HI.out.below HB5.out) (HJ.out.below HB5.out)).mono ?_
                         rintro e w6 ⟨A6, c6, m6, rfl, hm6, hI6, hb6⟩
                         have HM6 := Lib.hid hm6; have HI6 := Lib.hid hI6
                         have HX6 := Lib.hid (blk_below hb6 (lt_of_some HX5.out) HX5.out); have HY6 := Lib.hid (blk_below hb6 (lt_of_some HY5.out) HY5.out); have HZ6 := Lib.hid (blk_below hb6 (lt_of_some HZ5.out) HZ5.out)
                         have HB6 := Lib.hid (HB5.out.trans (hb6.mono HB5.out.size)); have HR6 := Lib.hid (HR5.out.below hb6); have HS6 := Lib.hid (HS5.out.below hb6)
                         clear hb6 hI6 hm6 x0 x1 x2 x3 x4 xlt)
  obtain ⟨x0, x1, x2, x3, x4, xlt⟩ := seen_blk HX6.out
  go_upto_region 7 with (go_at_call 11
                         refine (H11.out _ (HI.out.below HB6.out) (HJ.out.below HB6.out)).mono ?_
                         rintro e w7 ⟨A7, c7, m7, rfl, hm7, hI7, hb7⟩
                         have HM7 := Lib.hid (HM6.out.trans hm7.symm); have HI7 := Lib.hid hI7; have HK7 := Lib.hid (HI6.out.below hb7)
                         have HY7 := Lib.hid (blk_below hb7 (lt_of_some HY6.out) HY6.out); have HZ7 := Lib.hid (blk_below hb7 (lt_of_some HZ6.out) HZ6.out)
                         have HB7 := Lib.hid (HB6.out.trans (hb7.mono HB6.out.size)); have HR7 := Lib.hid (HR6.out.below hb7); have HS7 := Lib.hid (HS6.out.below hb7)
                         clear hb7 hI7 hm7 x0 x1 x2 x3 x4 xlt)
  go_wp2_with (first
     | (go_at_call 12
        refine (H12.out _ (HI.out.below HB7.out)).mono ?_
        rintro e w8 ⟨rfl, hb8⟩
        have HM8 := Lib.hid hb8
        clear hb8)
     | (go_at_call 13
        refine (H13.out _ (HI.out.below (HB7.out.trans (HM8.out.mono HB7.out.size)))).mono ?_
        rintro e w9 ⟨rfl, hb9⟩
        have hb9' : Below w7.heap.size w7 w9 := HM8.out.trans (hb9.mono HM8.out.size)
        have HB9 := Lib.hid (HB7.out.trans (hb9'.mono HB7.out.size)); have HR9 := Lib.hid (HR7.out.below hb9'); have HS9 := Lib.hid (HS7.out.below hb9')
        have HI9 := Lib.hid (HI7.out.below hb9'); have HK9 := Lib.hid (HK7.out.below hb9')
        obtain ⟨y0, y1, y2, _, _, _⟩ := res_cells (blk_below hb9' (lt_of_some HY7.out) HY7.out)
        obtain ⟨z0, z1, z2, _, _, _⟩ := res_cells (blk_below hb9' (lt_of_some HZ7.out) HZ7.out)
        clear hb9 hb9')
     | (go_at_call 14
        refine (result_true w9 J2 J4 jc2 jc4 a.err a.time a.jobs (by have := HR9.out.2.1; have := HR9.out.2.2.1; omega) HR9.out.1 HS9.out.1).mono ?_
        rintro e w10 ⟨rfl, hb10⟩
        have HB10 := Lib.hid (HB9.out.trans (hb10.mono HB9.out.size)); have HI10 := Lib.hid (HI9.out.below hb10); have HK10 := Lib.hid (HK9.out.below hb10)
        clear hb10)
     | (go_at_call 15
        refine (books_true w10 A6 A7 c6 c7 m6 m7 HK10.out HI10.out HM7.out).mono ?_
        rintro e w11 ⟨rfl, hb11⟩
        have HB11 := Lib.hid (HB10.out.trans (hb11.mono HB10.out.size))
        clear hb11))
  go_ret
  exact ⟨by simp, HB11.out⟩
end Go.Proofs.Ytofdkincbhahfaa
