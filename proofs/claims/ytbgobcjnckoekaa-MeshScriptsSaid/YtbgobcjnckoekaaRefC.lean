/- What is proved: the document's mesh: Drop, Deliver, Next, Packets. -/
import Derived.Test.YtbgobcjnckoekaaRefB
namespace Go.Proofs.Ytbgobcjnckoekaa
open Go.RowKit

/-- The slice v' lies where v lay, or in new memory. -/
def RGrew (w : World) (v v' : Value) : Prop := ∀ k, v'.ownBlock = some k → v.ownBlock = some k ∨ w.heap.size ≤ k
theorem RGrew.refl (w : World) (v : Value) : RGrew w v v := fun _ h => .inl h
theorem RGrew.of {w : World} {v v' : Value} (h : v'.ownBlock = v.ownBlock ∨ ∃ k, v'.ownBlock = some k ∧ w.heap.size ≤ k) : RGrew w v v' := fun k hk => by
  rcases h with h | ⟨j, h, hj⟩
  · exact .inl (h ▸ hk)
  · rw [h] at hk; have := Option.some.inj hk; right; omega
theorem RGrew.later {w w1 : World} {v v' : Value} (h : RGrew w1 v v') (hs : w.heap.size ≤ w1.heap.size) : RGrew w v v' := fun k hk => (h k hk).imp id (fun h => by omega)

set_option maxHeartbeats 1000000 in
theorem rDrop_none (w : World) (B a : Nat) (v u : Value) (r : R) (id : Int) (h : RefAt w B a v u r) (hx : idxOf (hasId id) r.ps = -1) :
    Calls Try.prog 20 #[.pointer (some ⟨a, 0, none⟩), .int .i64 id] w fun e w' => e = .returned (.bool false) ∧ Below w.heap.size w w' := by
  have hf := rFind_any w B a v u r id h
  rw [hx] at hf
  have Hf := Lib.hid hf; clear hf hx h
  go_enter Try.func20, Try.ntmps20
  go_wp2_with (go_at_call 32; refine Hf.out.mono ?_; rintro e w1 ⟨rfl, hb1⟩)
  go_ret
  exact ⟨rfl, hb1⟩

set_option maxHeartbeats 1000000 in
theorem rDrop_some (w : World) (B a : Nat) (v u : Value) (r : R) (id : Int) (k : Nat) (h : RefAt w B a v u r) (hk : k < r.ps.length) (hx : idxOf (hasId id) r.ps = (k : Int)) (hn : r.ps.length ≤ 512) :
    Calls Try.prog 20 #[.pointer (some ⟨a, 0, none⟩), .int .i64 id] w fun e w' => e = .returned (.bool true) ∧
      (∃ v', RefAt w' B a v' u ⟨r.ps.eraseIdx k, r.last, r.cuts⟩ ∧ RGrew w v v') ∧ Only (RFoot a v u) w w' := by
  have hf := rFind_any w B a v u r id h
  rw [hx] at hf
  have Hf := Lib.hid hf; have HH := Lib.hid h; clear hf hx h
  go_enter Try.func20, Try.ntmps20
  go_wp2_with (first
    | (go_at_call 32; refine Hf.out.mono ?_; rintro e w1 ⟨rfl, hb1⟩)
    | (go_at_call 34; refine (out_any _ B a k v u r (HH.out.below hb1) hk hn).mono ?_; rintro e w2 ⟨rfl, hm2, ho2⟩))
  go_ret
  obtain ⟨v2, hm2, hv2⟩ := hm2
  exact ⟨rfl, ⟨v2, hm2, (RGrew.of hv2).later hb1.size⟩, (Only.of_below hb1).trans ho2 (fun _ _ h => h)⟩

attribute [local go_sem] Pkt.val

theorem rfoot_new {w w' : World} {B a : Nat} {v u : Value} {r : R} (h : RefAt w B a v u r) {v' : Value} (hv : RGrew w' v v') (hs : w.heap.size + 1 ≤ w'.heap.size) : ∀ k, k = w.heap.size → ¬ RFoot a v' u k := by
  rintro k rfl hf
  rcases hf with h1 | h1 | h1
  · have := h.alt; omega
  · rcases hv _ h1 with hv | hv
    · have := h.footLt _ (.inr (.inl hv)); omega
    · omega
  · have := h.footLt _ (.inr (.inr h1)); omega

-- Deliver, when there is no such packet.
set_option maxHeartbeats 1000000 in
theorem rDeliver_none (w : World) (B a : Nat) (v u : Value) (r : R) (id : Int) (h : RefAt w B a v u r) (hx : idxOf (hasId id) r.ps = -1) :
    Calls Try.prog 17 #[.pointer (some ⟨a, 0, none⟩), .int .i64 id] w fun e w' => e = .returned (.tuple #[zeroP.val, .bool false]) ∧ Below w.heap.size w w' := by
  have hb0 : ∀ o, Below w.heap.size w (w.alloc o) := fun o => (Below.refl _ _).alloc (Nat.le_refl _) o
  have hf := fun o => rFind_any (w.alloc o) B a v u r id (h.below (hb0 o))
  rw [hx] at hf
  have Hf := Lib.hid hf; clear hf hx h
  go_enter Try.func17, Try.ntmps17
  go_wp2_with (
    (go_at_call 32
     refine (Hf.out _).mono ?_
     rintro e w1 ⟨rfl, hb1⟩
     have e1 := Lib.hid (blk_below hb1 (by simp) (heap_alloc_new w _))
     have hs1 : w.heap.size + 1 ≤ w1.heap.size := by have := hb1.size; simpa using this))
  refine wp_region_over (by kernel_rfl) (by kernel_rfl) ?_
  repeat (go_big_quiet_step ((fail)))
  refine wpQuiet_nil ?_
  intro _ hw'
  obtain ⟨nx, hw''⟩ := hw'
  subst hw''
  obtain ⟨c0, c1, c2, c3, c4⟩ := blk4 (blk_below (below_over w1 nx) (by omega) e1.out)
  have hf0 := c4 0
  have hf1 := c4 1
  have hf2 := c4 2
  have hf3 := c4 3
  clear c4
  go_wp2
  refine bodyPost_ret (v := .tuple #[zeroP.val, .bool false]) (by simp [results, Try.results17, go_sem, Pkt.val, zeroP, c0, c1, c2, c3]) rfl ⟨rfl, ?_⟩
  have hb2 := ((hb0 _).trans (hb1.mono (by simp))).trans ((below_over w1 nx).mono (by omega))
  exact (((hb2.setCell (p := ⟨w.heap.size, 0, none⟩) (Nat.le_refl _) _).setCell (p := ⟨w.heap.size, 1, none⟩) (Nat.le_refl _) _).setCell (p := ⟨w.heap.size, 2, none⟩) (Nat.le_refl _) _).setCell (p := ⟨w.heap.size, 3, none⟩) (Nat.le_refl _) _

attribute [local go_sem] cell_over frozen_over
-- Deliver, when the packet is cut off.
set_option maxHeartbeats 1000000 in
theorem rDeliver_cut (w : World) (B a : Nat) (v u : Value) (r : R) (id : Int) (k : Nat) (h : RefAt w B a v u r) (hk : k < r.ps.length) (hx : idxOf (hasId id) r.ps = (k : Int)) (hcut : isCut r.cuts r.ps[k].src r.ps[k].dst = true) :
    Calls Try.prog 17 #[.pointer (some ⟨a, 0, none⟩), .int .i64 id] w fun e w' => e = .returned (.tuple #[zeroP.val, .bool false]) ∧ Below w.heap.size w w' := by
  obtain ⟨A, cap, rfl, hle, hmax⟩ := own_shape h.own
  have hb0 : ∀ o, Below w.heap.size w (w.alloc o) := fun o => (Below.refl _ _).alloc (Nat.le_refl _) o
  have hf := fun o => rFind_any (w.alloc o) B a _ u r id (h.below (hb0 o))
  rw [hx] at hf
  have halt := h.alt
  have hc0 := h.c0
  obtain ⟨b, off, rfl, hb, p0, p1, p2, p3⟩ := pkt_cells (h.row rfl) k hk
  have hlen : r.ps.length ≤ 9223372036854775807 := by unfold maxLen at hmax; exact hmax
  have hk0 : decide ((k : Int) < 0) = false := by simp
  have Hf := Lib.hid hf; have HH := Lib.hid h; have HF := Lib.hid hcut; clear hf hx h hcut
  go_enter Try.func17, Try.ntmps17
  go_wp2_with (
    (go_at_call 32
     refine (Hf.out _).mono ?_
     rintro e w1 ⟨rfl, hb1⟩
     have e1 := Lib.hid (blk_below hb1 (by simp) (heap_alloc_new w _))
     have hw1 : Below w.heap.size w w1 := (hb0 _).trans (hb1.mono (by simp))
     have hs1 : w.heap.size + 1 ≤ w1.heap.size := by have := hb1.size; simpa using this
     have halt1 : a < w1.heap.size := by omega
     have hblt1 : b < w1.heap.size := by omega
     have q1 := cell_later hw1 p1
     have q2 := cell_later hw1 p2
     have r0 := cell_later hw1 hc0))
  have hic := fun x => IsCut_any (over w1 x) B a _ u r r.ps[k].src r.ps[k].dst (HH.out.below (hw1.trans ((below_over w1 x).mono hw1.size)))
  rw [HF.out] at hic
  have Hic := Lib.hid hic; clear hic
  refine wp_region_over (by kernel_rfl) (by kernel_rfl) ?_
  repeat (go_big_quiet_step ((go_at_call 33; exact calls_over (Hic.out _))))
  refine wpQuiet_nil ?_
  intro _ hw'
  obtain ⟨nx, hw''⟩ := hw'
  subst hw''
  obtain ⟨c0, c1, c2, c3, c4⟩ := blk4 (blk_below (below_over w1 nx) (by omega) e1.out)
  have hf0 := c4 0
  have hf1 := c4 1
  have hf2 := c4 2
  have hf3 := c4 3
  clear c4
  go_wp2
  refine bodyPost_ret (v := .tuple #[zeroP.val, .bool false]) (by simp [results, Try.results17, go_sem, Pkt.val, zeroP, c0, c1, c2, c3]) rfl ⟨rfl, ?_⟩
  have hb2 := hw1.trans ((below_over w1 nx).mono hw1.size)
  exact (((hb2.setCell (p := ⟨w.heap.size, 0, none⟩) (Nat.le_refl _) _).setCell (p := ⟨w.heap.size, 1, none⟩) (Nat.le_refl _) _).setCell (p := ⟨w.heap.size, 2, none⟩) (Nat.le_refl _) _).setCell (p := ⟨w.heap.size, 3, none⟩) (Nat.le_refl _) _

-- Deliver, when the packet is there and may be delivered.
set_option maxHeartbeats 1000000 in
theorem rDeliver_some (w : World) (B a : Nat) (v u : Value) (r : R) (id : Int) (k : Nat) (h : RefAt w B a v u r) (hk : k < r.ps.length) (hx : idxOf (hasId id) r.ps = (k : Int)) (hcut : isCut r.cuts r.ps[k].src r.ps[k].dst = false) (hn : r.ps.length ≤ 512) :
    Calls Try.prog 17 #[.pointer (some ⟨a, 0, none⟩), .int .i64 id] w fun e w' => e = .returned (.tuple #[r.ps[k].val, .bool true]) ∧
      (∃ v', RefAt w' B a v' u ⟨r.ps.eraseIdx k, r.last, r.cuts⟩ ∧ RGrew w v v') ∧ Only (RFoot a v u) w w' := by
  obtain ⟨A, cap, rfl, hle, hmax⟩ := own_shape h.own
  have hb0 : ∀ o, Below w.heap.size w (w.alloc o) := fun o => (Below.refl _ _).alloc (Nat.le_refl _) o
  have hf := fun o => rFind_any (w.alloc o) B a _ u r id (h.below (hb0 o))
  rw [hx] at hf
  have halt := h.alt
  have hc0 := h.c0
  obtain ⟨b, off, rfl, hb, p0, p1, p2, p3⟩ := pkt_cells (h.row rfl) k hk
  have hlen : r.ps.length ≤ 9223372036854775807 := by unfold maxLen at hmax; exact hmax
  have hk0 : decide ((k : Int) < 0) = false := by simp
  have Hf := Lib.hid hf; have HH := Lib.hid h; have HF := Lib.hid hcut; clear hf hx h hcut
  go_enter Try.func17, Try.ntmps17
  go_wp2_with (
    (go_at_call 32
     refine (Hf.out _).mono ?_
     rintro e w1 ⟨rfl, hb1⟩
     have e1 := Lib.hid (blk_below hb1 (by simp) (heap_alloc_new w _))
     have hw1 : Below w.heap.size w w1 := (hb0 _).trans (hb1.mono (by simp))
     have hs1 : w.heap.size + 1 ≤ w1.heap.size := by have := hb1.size; simpa using this
     have halt1 : a < w1.heap.size := by omega
     have hblt1 : b < w1.heap.size := by omega
     have q1 := cell_later hw1 p1
     have q2 := cell_later hw1 p2
     have r0 := cell_later hw1 hc0))
  have hic := fun x => IsCut_any (over w1 x) B a _ u r r.ps[k].src r.ps[k].dst (HH.out.below (hw1.trans ((below_over w1 x).mono hw1.size)))
  rw [HF.out] at hic
  have Hic := Lib.hid hic; clear hic
  refine wp_region_over (by kernel_rfl) (by kernel_rfl) ?_
  repeat (go_big_quiet_step ((go_at_call 33; exact calls_over (Hic.out _))))
  refine wpQuiet_nil ?_
  intro _ hw'
  obtain ⟨nx, hw''⟩ := hw'
  subst hw''
  have hw2 : Below w.heap.size w (over w1 nx) := hw1.trans ((below_over w1 nx).mono hw1.size)
  have e2 := Lib.hid (blk_below (below_over w1 nx) (by omega) e1.out)
  have hs2 := size_over w1 nx
  generalize over w1 nx = w2 at *
  go_wp2_with (
    (go_at_call 34
     refine (out_any w2 B a k _ u r (HH.out.below hw2) hk hn).mono ?_
     rintro e w3 ⟨rfl, ⟨v3, hm3, hv3⟩, ho3⟩
     obtain ⟨c0, c1, c2, c3, c4⟩ := blk4 (blk_only ho3 (by omega) (rfoot_new (w' := w2) HH.out (RGrew.refl _ _) (by omega) _ rfl) e2.out)
     have HM := Lib.hid hm3; have HV := Lib.hid (RGrew.of hv3)
     have hf0 := c4 0
     have hf1 := c4 1
     have hf2 := c4 2
     have hf3 := c4 3
     clear c4 hm3 hv3))
  have hm3 := HM.out
  have hfoot := rfoot_new (w' := w2) HH.out HV.out (by omega)
  have o1 : ∀ (wx : World) (j : Nat) (u : Value), Only (· = w.heap.size) wx (wx.setCell ⟨w.heap.size, j, none⟩ u) := fun wx j u => only_setCell wx ⟨w.heap.size, j, none⟩ u
  refine bodyPost_ret (v := .tuple #[r.ps[k].val, .bool true]) (by simp [results, Try.results17, go_sem, Pkt.val, c0, c1, c2, c3]) rfl ⟨rfl, ⟨v3, RefAt.only (RefAt.only (RefAt.only (RefAt.only hm3 (o1 _ _ _) hfoot) (o1 _ _ _) hfoot) (o1 _ _ _) hfoot) (o1 _ _ _) hfoot, HV.out.later hw2.size⟩, ?_⟩
  refine ((((((Only.of_below hw2).trans ho3 (fun _ _ h => h)).trans (o1 _ _ _) ?_).trans (o1 _ _ _) ?_).trans (o1 _ _ _) ?_).trans (o1 _ _ _) ?_)
  all_goals exact fun k hk h => by omega
end Go.Proofs.Ytbgobcjnckoekaa
