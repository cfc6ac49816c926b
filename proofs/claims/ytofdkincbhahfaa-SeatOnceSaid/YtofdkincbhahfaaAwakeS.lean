/- What is proved: the law's awake answers yes. -/
import Derived.Test.YtofdkincbhahfaaJoins
set_option linter.unusedVariables false
set_option linter.unusedSimpArgs false
namespace Go.Proofs.Ytofdkincbhahfaa
open Go.RowKit
attribute [local go_sem] Seen.val resV

def s0 : Seen := ⟨3, 5, 0, 9, [], none, 0⟩
theorem s0_ok : tr (OkD [s0.dat]) = true := tr_true (okD_one (by decide))
theorem s0_get (c : Int) : getD [s0.dat] c = if c = 3 then some s0.dat else none := by
  unfold getD
  by_cases h : c = 3
  · subst h; rfl
  · rw [if_neg h]
    have : ((3 : Int) == c) = false := by simp; omega
    simp only [List.find?_cons, List.find?_nil, s0, Seen.dat, this]
theorem s0_put : putD [] s0.dat = ([s0.dat], 0) := by
  rw [putD_ok (tr_true okD_nil) (by decide) (fun x hx => by cases hx)]
  simp [mergeD]
theorem s0_look5 : lookD [s0.dat] 3 5 = ⟨0, 9, [], 0⟩ := by
  unfold lookD
  rw [if_neg (by rw [s0_ok]; decide), if_neg (by decide), s0_get]
  simp [s0, Seen.dat]
theorem s0_look4 : lookD [s0.dat] 3 4 = noAns 160 := by
  unfold lookD
  rw [if_neg (by rw [s0_ok]; decide), if_neg (by decide), s0_get]
  simp [s0, Seen.dat]
theorem s0_look6 : lookD [s0.dat] 3 6 = noAns 60 := by
  unfold lookD
  rw [if_neg (by rw [s0_ok]; decide), if_neg (by decide), s0_get]
  simp [s0, Seen.dat]
theorem s0_look65 : lookD [s0.dat] 65 1 = noAns 1 := by
  unfold lookD
  rw [if_neg (by rw [s0_ok]; decide), if_pos (by decide)]
/-- A look into the book of one session. -/
theorem s0_looks {c q : Int} {a : Ans} (ha : lookD [s0.dat] c q = a) (w : World) (A : Option Addr) (cap : Nat) (m : List Seen) (hm : m.map Seen.dat = [s0.dat]) (h : BookIn w A cap m) :
    Calls Try.prog 8 #[.slice A m.length cap, .int .i64 c, .int .i64 q] w fun e w' => ∃ J jc, e = .returned (.tuple #[resV a.err a.time (.slice J a.jobs.length jc), .int .i64 a.no]) ∧ ResIn w' J jc a.jobs ∧ Below w.heap.size w w' := by
  have := look8 w A cap m c q h
  rw [hm, ha] at this
  exact this
set_option maxRecDepth 100000 in
set_option maxHeartbeats 4000000 in
theorem awakeS (w : World) : Calls Try.prog 7 #[] w fun e w' => e = .returned (.bool true) ∧ Below w.heap.size w w' := by
  have hP := put10 w none 0 [] s0 (book_nil w) ⟨rowAt_nil _ _ _ _, Nat.le_refl _, by decide, by decide⟩
  rw [show putD (([] : List Seen).map Seen.dat) s0.dat = ([s0.dat], 0) from s0_put] at hP
  have HP := Lib.hid hP
  clear hP
  go_enter Try.func7, Try.ntmps7
  go_upto_region 2 with (go_at_call 10
                         refine HP.out.mono ?_
                         rintro e w1 ⟨A1, c1, m, rfl, hm, hI, hb1⟩
                         have Hm := Lib.hid hm; have HI := Lib.hid hI; have HB1 := Lib.hid hb1
                         clear hm hI hb1)
  go_upto_region 3 with (go_at_call 8
                         refine (s0_looks s0_look5 w1 A1 c1 m Hm.out HI.out).mono ?_
                         rintro e w2 ⟨J2, jc2, rfl, _, hb2⟩
                         have HI2 := Lib.hid (HI.out.below hb2); have HB2 := Lib.hid (HB1.out.trans (hb2.mono HB1.out.size))
                         clear hb2)
  have hX3 : (w2.alloc (resBlk 0 9 (.slice J2 0 jc2))).heap[w2.heap.size]? = some (resBlk 0 9 (.slice J2 0 jc2)) := heap_alloc_new w2 _
  change Code.wp _ _ _ _ (w2.alloc (resBlk 0 9 (.slice J2 0 jc2)))
  have hb3 : Below w2.heap.size w2 (w2.alloc (resBlk 0 9 (.slice J2 0 jc2))) := al _
  generalize w2.alloc (resBlk 0 9 (.slice J2 0 jc2)) = w3 at *
  have HX3 := Lib.hid hX3; have HI3 := Lib.hid (HI2.out.below hb3); have HB3 := Lib.hid (HB2.out.trans (hb3.mono HB2.out.size))
  clear hX3 hb3
  go_upto_region 4 with (go_at_call 8
                         refine (s0_looks s0_look4 w3 A1 c1 m Hm.out HI3.out).mono ?_
                         rintro e w4 ⟨J4, jc4, rfl, _, hb4⟩
                         have HX4 := Lib.hid (blk_below hb4 (lt_of_some HX3.out) HX3.out)
                         have HI4 := Lib.hid (HI3.out.below hb4); have HB4 := Lib.hid (HB3.out.trans (hb4.mono HB3.out.size))
                         clear hb4)
  change Code.wp _ _ _ _ (w4.alloc (resBlk 0 0 (.slice J4 0 jc4)))
  have hb5 : Below w4.heap.size w4 (w4.alloc (resBlk 0 0 (.slice J4 0 jc4))) := al _
  generalize w4.alloc (resBlk 0 0 (.slice J4 0 jc4)) = w5 at *
  have HX5 := Lib.hid (blk_below hb5 (lt_of_some HX4.out) HX4.out); have HI5 := Lib.hid (HI4.out.below hb5); have HB5 := Lib.hid (HB4.out.trans (hb5.mono HB4.out.size))
  clear hb5
  go_upto_region 5 with (go_at_call 8
                         refine (s0_looks s0_look6 w5 A1 c1 m Hm.out HI5.out).mono ?_
                         rintro e w6 ⟨J6, jc6, rfl, _, hb6⟩
                         have HX6 := Lib.hid (blk_below hb6 (lt_of_some HX5.out) HX5.out)
                         have HI6 := Lib.hid (HI5.out.below hb6); have HB6 := Lib.hid (HB5.out.trans (hb6.mono HB5.out.size))
                         clear hb6)
  change Code.wp _ _ _ _ (w6.alloc (resBlk 0 0 (.slice J6 0 jc6)))
  have hb7 : Below w6.heap.size w6 (w6.alloc (resBlk 0 0 (.slice J6 0 jc6))) := al _
  generalize w6.alloc (resBlk 0 0 (.slice J6 0 jc6)) = w7 at *
  have HX7 := Lib.hid (blk_below hb7 (lt_of_some HX6.out) HX6.out); have HI7 := Lib.hid (HI6.out.below hb7); have HB7 := Lib.hid (HB6.out.trans (hb7.mono HB6.out.size))
  clear hb7
  go_upto_region 6 with (go_at_call 8
                         refine (s0_looks s0_look65 w7 A1 c1 m Hm.out HI7.out).mono ?_
                         rintro e w8 ⟨J8, jc8, rfl, _, hb8⟩
                         have HX8 := Lib.hid (blk_below hb8 (lt_of_some HX7.out) HX7.out)
                         have HI8 := Lib.hid (HI7.out.below hb8); have HB8 := Lib.hid (HB7.out.trans (hb8.mono HB7.out.size))
                         clear hb8)
  change Code.wp _ _ _ _ (w8.alloc (resBlk 0 0 (.slice J8 0 jc8)))
  have hb9 : Below w8.heap.size w8 (w8.alloc (resBlk 0 0 (.slice J8 0 jc8))) := al _
  generalize w8.alloc (resBlk 0 0 (.slice J8 0 jc8)) = w9 at *
  have HX9 := Lib.hid (blk_below hb9 (lt_of_some HX8.out) HX8.out); have HI9 := Lib.hid (HI8.out.below hb9); have HB9 := Lib.hid (HB8.out.trans (hb9.mono HB8.out.size))
  clear hb9
  obtain ⟨c0, c1', c2, _⟩ := res_cells HX9.out
  go_wp2_with fail
  go_ret
  exact ⟨rfl, HB9.out⟩
end Go.Proofs.Ytofdkincbhahfaa
