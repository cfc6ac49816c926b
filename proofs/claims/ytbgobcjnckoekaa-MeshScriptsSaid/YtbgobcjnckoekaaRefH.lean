/- What is proved: the document's mesh: Double (full), Next. -/
import Derived.Test.YtbgobcjnckoekaaRefF
import Derived.Deep.RegionHeld3
import Derived.StillTailTactics
namespace Go.Proofs.Ytbgobcjnckoekaa
open Go.RowKit
attribute [local go_sem] cell_over frozen_over

set_option maxRecDepth 100000 in
set_option maxHeartbeats 2000000 in
theorem rDouble_full (w : World) (B a : Nat) (v u : Value) (r : R) (id : Int) (k : Nat) (h : RefAt w B a v u r) (hk : k < r.ps.length) (hx : idxOf (hasId id) r.ps = (k : Int)) (hfull : 512 ≤ r.ps.length) (hs : r.ps[k].body.size ≤ 65536) :
    Calls Try.prog 21 #[.pointer (some ⟨a, 0, none⟩), .int .i64 id] w fun e w' => e = .returned (.tuple #[.int .i64 0, .int .i64 3]) ∧ Below w.heap.size w w' := by
  obtain ⟨A, cap, rfl, hle, hmax⟩ := own_shape h.own
  have hlen : r.ps.length ≤ 9223372036854775807 := by unfold maxLen at hmax; exact hmax
  have hf := rFind_any w B a _ u r id h
  rw [hx] at hf
  have hc0 := h.c0
  have halt := h.alt
  obtain ⟨b, off, rfl, hb, p0, p1, p2, p3⟩ := pkt_cells (h.row rfl) k hk
  have Hf := Lib.hid hf; have HH := Lib.hid h; clear hf hx h
  go_enter Try.func21, Try.ntmps21
  go_wp2_with (
    (go_at_call 32
     refine Hf.out.mono ?_
     rintro e w1 ⟨rfl, hb1⟩
     have q1 := cell_later hb1 p1
     have q2 := cell_later hb1 p2
     have q3 := cell_later hb1 p3
     have r0 := cell_later hb1 hc0
     have ha1 : a < w1.heap.size := by have := hb1.size; omega
     have hb2 : b < w1.heap.size := by have := hb1.size; omega))
  have hbd := hb1.drew
  go_region_held3 (fun w' => w'.cell? ⟨a, 0, none⟩ = some (.slice (some ⟨b, off, none⟩) r.ps.length cap) ∧ w'.cell? ⟨b, off + k * 4 + 1, none⟩ = some (.int .i64 r.ps[k].src) ∧ w'.cell? ⟨b, off + k * 4 + 2, none⟩ = some (.int .i64 r.ps[k].dst) ∧ w'.cell? ⟨b, off + k * 4 + 3, none⟩ = some (.string r.ps[k].body) ∧ Below w.heap.size w w') (first | go_keep | exact ⟨r0, q1, q2, q3, hb1.drew⟩ | assumption) (first
    | (go_at_call 16
       refine (rSend_full _ B a _ u r r.ps[k].src r.ps[k].dst r.ps[k].body (HH.out.below (by assumption)) hs hfull).mono ?_
       rintro e w2 ⟨rfl, rfl⟩))
  all_goals
    go_wp2
    go_ret2
    exact ⟨rfl, hbd⟩

def freeR (l : List (Int × Int)) (p : Pkt) : Bool := !isCut l p.src p.dst
theorem zero_blk (w : World) : (w.alloc (.cells #[.int .i64 0, .int .i64 0, .int .i64 0, .string ⟨#[]⟩] 34)).heap[w.heap.size]? = some (.cells #[.int .i64 0, .int .i64 0, .int .i64 0, .string ⟨#[]⟩] 34) := heap_alloc_new w _
attribute [local go_sem] Pkt.val

set_option maxHeartbeats 2000000 in
theorem rNext_none (w : World) (B a : Nat) (v u : Value) (r : R) (h : RefAt w B a v u r) (hx : idxOf (freeR r.cuts) r.ps = -1) :
    Calls Try.prog 18 #[.pointer (some ⟨a, 0, none⟩)] w fun e w' => e = .returned (.tuple #[zeroP.val, .bool false]) ∧ Below w.heap.size w w' := by
  obtain ⟨A, cap, rfl, hle, hmax⟩ := own_shape h.own
  have hb0 : ∀ o, Below w.heap.size w (w.alloc o) := fun o => (Below.refl _ _).alloc (Nat.le_refl _) o
  have hlen : r.ps.length ≤ 9223372036854775807 := by unfold maxLen at hmax; exact hmax
  have halt := h.alt
  have hc0 := h.c0
  have hrow := h.row rfl
  have hno := idxOf_no hx
  have Hno := Lib.hid hno; have Hrow := Lib.hid hrow; have HH := Lib.hid h; clear hno hrow hx h
  go_enter Try.func18, Try.ntmps18
  go_wp2
  go_loopw [4] (fun i wr => ∃ k : Nat, k ≤ r.ps.length ∧ i = .int .i64 k ∧ Below w.heap.size w wr ∧ w.heap.size < wr.heap.size ∧ wr.heap[w.heap.size]? = some (.cells #[.int .i64 0, .int .i64 0, .int .i64 0, .string ⟨#[]⟩] 34)) (fun i _ => r.ps.length - (intOf i).toNat)
  case atStart => exact ⟨0, Nat.zero_le _, rfl, hb0 _, by simp, zero_blk w⟩
  case round =>
    obtain ⟨k, hk, rfl, hbel, hsz, hblk⟩ := hrel
    have Hblk := Lib.hid hblk; clear hblk
    have r0 : wr.cell? ⟨a, 0, none⟩ = some (.slice A r.ps.length cap) := (hbel.cell halt).trans hc0
    by_cases hlt : k < r.ps.length
    · obtain ⟨b, off, rfl, hb, h0, h1, h2, h3⟩ := pkt_cells (Hrow.out.below hbel (Nat.le_refl _)) k hlt
      have ha1 : a < wr.heap.size := by omega
      have hb1 : b < wr.heap.size := by omega
      have hq : isCut r.cuts r.ps[k].src r.ps[k].dst = true := by have := Hno.out k hlt; simpa [freeR] using this
      have hic := fun x => IsCut_any (over wr x) B a _ u r r.ps[k].src r.ps[k].dst (HH.out.below (hbel.trans ((below_over wr x).mono hbel.size)))
      rw [hq] at hic
      have Hic := Lib.hid hic; clear hic hq
      go_wp2
      refine wp_region_over (by kernel_rfl) (by kernel_rfl) ?_
      repeat (go_big_quiet_step ((go_at_call 33; exact calls_over (Hic.out _))))
      refine wpQuiet_nil ?_
      intro _ hw'
      obtain ⟨nx, hw''⟩ := hw'
      subst hw''
      go_wp2
      go_roundw
      case rel => exact ⟨k + 1, by omega, by go_num, hbel.trans ((below_over wr nx).mono hbel.size), Nat.lt_of_lt_of_le hsz (size_over wr nx), blk_below (below_over wr nx) hsz Hblk.out⟩
      case measure => simp [intOf]; omega
    · obtain ⟨c0, c1, c2, c3, c4⟩ := blk4 Hblk.out
      have hf0 := c4 0
      have hf1 := c4 1
      have hf2 := c4 2
      have hf3 := c4 3
      clear c4
      go_wp2
      refine bodyPost_ret (v := .tuple #[zeroP.val, .bool false]) (by simp [results, Try.results18, go_sem, Pkt.val, zeroP, c0, c1, c2, c3]) rfl ⟨rfl, ?_⟩
      exact (((hbel.setCell (p := ⟨w.heap.size, 0, none⟩) (Nat.le_refl _) _).setCell (p := ⟨w.heap.size, 1, none⟩) (Nat.le_refl _) _).setCell (p := ⟨w.heap.size, 2, none⟩) (Nat.le_refl _) _).setCell (p := ⟨w.heap.size, 3, none⟩) (Nat.le_refl _) _

set_option maxHeartbeats 2000000 in
theorem rNext_some (w : World) (B a : Nat) (v u : Value) (r : R) (n : Nat) (h : RefAt w B a v u r) (hn : n < r.ps.length) (hx : idxOf (freeR r.cuts) r.ps = (n : Int)) (h512 : r.ps.length ≤ 512) :
    Calls Try.prog 18 #[.pointer (some ⟨a, 0, none⟩)] w fun e w' => e = .returned (.tuple #[r.ps[n].val, .bool true]) ∧
      (∃ v', RefAt w' B a v' u ⟨r.ps.eraseIdx n, r.last, r.cuts⟩ ∧ RGrew w v v') ∧ Only (RFoot a v u) w w' := by
  obtain ⟨A, cap, rfl, hle, hmax⟩ := own_shape h.own
  have hb0 : ∀ o, Below w.heap.size w (w.alloc o) := fun o => (Below.refl _ _).alloc (Nat.le_refl _) o
  have hlen : r.ps.length ≤ 9223372036854775807 := by unfold maxLen at hmax; exact hmax
  have halt := h.alt
  have hc0 := h.c0
  have hrow := h.row rfl
  obtain ⟨_, hyes, hno⟩ := idxOf_first hx
  have Hno := Lib.hid hno; have Hyes := Lib.hid hyes; have Hrow := Lib.hid hrow; have HH := Lib.hid h; clear hno hyes hrow hx h
  go_enter Try.func18, Try.ntmps18
  go_wp2
  go_loopw [4] (fun i wr => ∃ k : Nat, k ≤ n ∧ i = .int .i64 k ∧ Below w.heap.size w wr ∧ w.heap.size < wr.heap.size ∧ wr.heap[w.heap.size]? = some (.cells #[.int .i64 0, .int .i64 0, .int .i64 0, .string ⟨#[]⟩] 34)) (fun i _ => r.ps.length - (intOf i).toNat)
  case atStart => exact ⟨0, Nat.zero_le _, rfl, hb0 _, by simp, zero_blk w⟩
  case round =>
    obtain ⟨k, hk, rfl, hbel, hsz, hblk⟩ := hrel
    have Hblk := Lib.hid hblk; clear hblk
    have r0 : wr.cell? ⟨a, 0, none⟩ = some (.slice A r.ps.length cap) := (hbel.cell halt).trans hc0
    have hlt : k < r.ps.length := by omega
    obtain ⟨b, off, rfl, hb, h0, h1, h2, h3⟩ := pkt_cells (Hrow.out.below hbel (Nat.le_refl _)) k hlt
    have ha1 : a < wr.heap.size := by omega
    have hb1 : b < wr.heap.size := by omega
    have hic := fun x => IsCut_any (over wr x) B a _ u r r.ps[k].src r.ps[k].dst (HH.out.below (hbel.trans ((below_over wr x).mono hbel.size)))
    by_cases hkn : k < n
    · have hq : isCut r.cuts r.ps[k].src r.ps[k].dst = true := by have := Hno.out k hkn; simpa [freeR] using this
      rw [hq] at hic
      have Hic := Lib.hid hic; clear hic hq
      go_wp2
      refine wp_region_over (by kernel_rfl) (by kernel_rfl) ?_
      repeat (go_big_quiet_step ((go_at_call 33; exact calls_over (Hic.out _))))
      refine wpQuiet_nil ?_
      intro _ hw'
      obtain ⟨nx, hw''⟩ := hw'
      subst hw''
      go_wp2
      go_roundw
      case rel => exact ⟨k + 1, by omega, by go_num, hbel.trans ((below_over wr nx).mono hbel.size), Nat.lt_of_lt_of_le hsz (size_over wr nx), blk_below (below_over wr nx) hsz Hblk.out⟩
      case measure => simp [intOf]; omega
    · obtain rfl : k = n := by omega
      have hq : isCut r.cuts r.ps[k].src r.ps[k].dst = false := by have := Hyes.out; simpa [freeR] using this
      rw [hq] at hic
      have Hic := Lib.hid hic; clear hic hq
      go_wp2
      refine wp_region_over (by kernel_rfl) (by kernel_rfl) ?_
      repeat (go_big_quiet_step ((go_at_call 33; exact calls_over (Hic.out _))))
      refine wpQuiet_nil ?_
      intro _ hw'
      obtain ⟨nx, hw''⟩ := hw'
      subst hw''
      have hw2 : Below w.heap.size w (over wr nx) := hbel.trans ((below_over wr nx).mono hbel.size)
      have e2 := Lib.hid (blk_below (below_over wr nx) hsz Hblk.out)
      have hs2 : w.heap.size + 1 ≤ (over wr nx).heap.size := Nat.lt_of_lt_of_le hsz (size_over wr nx)
      generalize over wr nx = w2 at *
      go_wp2_with (
        (go_at_call 34
         refine (out_any w2 B a k _ u r (HH.out.below hw2) hn h512).mono ?_
         rintro e w3 ⟨rfl, ⟨v3, hm3, hv3⟩, ho3⟩
         obtain ⟨c0, c1, c2, c3, c4⟩ := blk4 (blk_only ho3 (by omega) (rfoot_new (w' := w2) HH.out (RGrew.refl _ _) (by omega) _ rfl) e2.out)
         have HM := Lib.hid hm3; have HV := Lib.hid (RGrew.of hv3)
         have hf0 := c4 0
         have hf1 := c4 1
         have hf2 := c4 2
         have hf3 := c4 3
         clear c4 hm3 hv3))
      have hm3 := HM.out
      have hfoot := rfoot_new (w' := w2) HH.out HV.out (by omega)
      have o1 : ∀ (wx : World) (j : Nat) (u : Value), Only (· = w.heap.size) wx (wx.setCell ⟨w.heap.size, j, none⟩ u) := fun wx j u => only_setCell wx ⟨w.heap.size, j, none⟩ u
      refine bodyPost_ret (v := .tuple #[r.ps[k].val, .bool true]) (by simp [results, Try.results18, go_sem, Pkt.val, c0, c1, c2, c3]) rfl ⟨rfl, ⟨v3, RefAt.only (RefAt.only (RefAt.only (RefAt.only hm3 (o1 _ _ _) hfoot) (o1 _ _ _) hfoot) (o1 _ _ _) hfoot) (o1 _ _ _) hfoot, HV.out.later hw2.size⟩, ?_⟩
      refine ((((((Only.of_below hw2).trans ho3 (fun _ _ h => h)).trans (o1 _ _ _) ?_).trans (o1 _ _ _) ?_).trans (o1 _ _ _) ?_).trans (o1 _ _ _) ?_)
      all_goals exact fun k hk h => by omega
end Go.Proofs.Ytbgobcjnckoekaa
