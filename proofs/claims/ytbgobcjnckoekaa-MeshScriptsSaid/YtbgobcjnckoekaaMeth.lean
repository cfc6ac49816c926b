/- What is proved: the mesh's methods that take packets out: Drop, Deliver, Next; Flight. -/
import Derived.Test.YtbgobcjnckoekaaTake
namespace Go.Proofs.Ytbgobcjnckoekaa
open Go.RowKit

theorem idxOf_cases {α : Type} (q : α → Bool) (l : List α) : idxOf q l = -1 ∨ ∃ k : Nat, k < l.length ∧ idxOf q l = (k : Int) := by
  unfold idxOf
  cases h : l.findIdx? q with
  | none => exact .inl rfl
  | some k => exact .inr ⟨k, (List.findIdx?_eq_some_iff_getElem.1 h).1, rfl⟩

def M.drop1 (m : M) (id : Int) : M := if idxOf (hasId id) m.ps = -1 then m else ⟨m.ps.eraseIdx (idxOf (hasId id) m.ps).toNat, m.last, m.cuts⟩

set_option maxHeartbeats 1000000 in
theorem Drop_any (w : World) (B a mb : Nat) (v : Value) (m : M) (id : Int) (h : MeshAt w B a mb v m) :
    Calls Try.prog 19 #[.pointer (some ⟨a, 0, none⟩), .int .i64 id] w fun e w' => e = .returned (.bool (decide (idxOf (hasId id) m.ps ≠ -1))) ∧
      (∃ v', MeshAt w' B a mb v' (m.drop1 id) ∧ v'.ownBlock = v.ownBlock) ∧ Only (Foot a mb v) w w' := by
  rcases idxOf_cases (hasId id) m.ps with hx | ⟨k, hk, hx⟩
  · have hf := find_any w B a mb v m id h
    rw [hx] at hf
    have Hf := Lib.hid hf; have Hx := Lib.hid hx; have HH := Lib.hid h; clear hf hx h
    go_enter Try.func19, Try.ntmps19
    go_wp2_with (go_at_call 26; refine Hf.out.mono ?_; rintro e w1 ⟨rfl, hb1⟩)
    go_ret
    exact ⟨ret_bool (by simp [Hx.out]), ⟨v, by unfold M.drop1; rw [if_pos Hx.out]; exact HH.out.below hb1, rfl⟩, Only.of_below hb1⟩
  · have hf := find_any w B a mb v m id h
    rw [hx] at hf
    have Hf := Lib.hid hf; have Hx := Lib.hid hx; have HH := Lib.hid h; clear hf hx h
    go_enter Try.func19, Try.ntmps19
    go_wp2_with (first
      | (go_at_call 26; refine Hf.out.mono ?_; rintro e w1 ⟨rfl, hb1⟩)
      | (go_at_call 29; refine (take_any _ B a mb v m k (HH.out.below hb1) hk).mono ?_; rintro e w2 ⟨rfl, hm2, ho2⟩))
    go_ret
    obtain ⟨v2, hm2, hv2⟩ := hm2
    exact ⟨ret_bool (by simp [Hx.out]), ⟨v2, by unfold M.drop1; rw [if_neg (by rw [Hx.out]; omega), Hx.out, Int.toNat_natCast]; exact hm2, hv2⟩, (Only.of_below hb1).trans ho2 (fun _ _ h => h)⟩

attribute [local go_sem] Pkt.val
def zeroP : Pkt := ⟨0, 0, 0, ⟨#[]⟩⟩
theorem blk_below {B : Nat} {w w1 : World} {g : Nat} {o : Obj} (hb : Below B w w1) (hg : g < B) (h : w.heap[g]? = some o) : w1.heap[g]? = some o := (hb.block g hg).trans h
theorem blk_only {F : Nat → Prop} {w w1 : World} {g : Nat} {o : Obj} (hb : Only F w w1) (hg : g < w.heap.size) (hF : ¬ F g) (h : w.heap[g]? = some o) : w1.heap[g]? = some o := (hb.block g hg hF).trans h
theorem foot_lt {w : World} {B a mb : Nat} {v : Value} {m : M} (h : MeshAt w B a mb v m) : ∀ k, Foot a mb v k → k < w.heap.size := by
  rintro k (rfl | rfl | hk)
  · exact h.alt
  · exact h.cuts.lt
  · exact (h.own.lt k hk).2

-- Deliver, when there is no such packet.
set_option maxHeartbeats 1000000 in
theorem Deliver_none (w : World) (B a mb : Nat) (v : Value) (m : M) (id : Int) (h : MeshAt w B a mb v m) (hx : idxOf (hasId id) m.ps = -1) :
    Calls Try.prog 14 #[.pointer (some ⟨a, 0, none⟩), .int .i64 id] w fun e w' => e = .returned (.tuple #[zeroP.val, .bool false]) ∧ Below w.heap.size w w' := by
  have hb0 : ∀ o, Below w.heap.size w (w.alloc o) := fun o => (Below.refl _ _).alloc (Nat.le_refl _) o
  have hf := fun o => find_any (w.alloc o) B a mb v m id (h.below (hb0 o))
  rw [hx] at hf
  have Hf := Lib.hid hf; clear hf hx h
  go_enter Try.func14, Try.ntmps14
  go_wp2_with (
    (go_at_call 26
     refine (Hf.out _).mono ?_
     rintro e w1 ⟨rfl, hb1⟩
     obtain ⟨c0, c1, c2, c3, c4⟩ := blk4 (blk_below hb1 (by simp) (heap_alloc_new w _))
     have hf0 := c4 0
     have hf1 := c4 1
     have hf2 := c4 2
     have hf3 := c4 3
     clear c4))
  refine bodyPost_ret (v := .tuple #[zeroP.val, .bool false]) (by simp [results, Try.results14, go_sem, Pkt.val, zeroP, c0, c1, c2, c3]) rfl ⟨rfl, ?_⟩
  have hb2 := (hb0 _).trans (hb1.mono (by simp))
  exact (((hb2.setCell (p := ⟨w.heap.size, 0, none⟩) (Nat.le_refl _) _).setCell (p := ⟨w.heap.size, 1, none⟩) (Nat.le_refl _) _).setCell (p := ⟨w.heap.size, 2, none⟩) (Nat.le_refl _) _).setCell (p := ⟨w.heap.size, 3, none⟩) (Nat.le_refl _) _
theorem foot_new {w w' : World} {B a mb : Nat} {v : Value} {m : M} (h : MeshAt w B a mb v m) {v' : Value} (hv : v'.ownBlock = v.ownBlock) : ∀ k, k = w.heap.size → ¬ Foot a mb v' k := by
  rintro k rfl hf
  have : Foot a mb v w.heap.size := by
    rcases hf with h1 | h1 | h1
    · exact .inl h1
    · exact .inr (.inl h1)
    · exact .inr (.inr (hv ▸ h1))
  have := foot_lt h _ this
  omega

-- Deliver, when the packet is cut off.
set_option maxHeartbeats 1000000 in
theorem Deliver_cut (w : World) (B a mb : Nat) (v : Value) (m : M) (id : Int) (k : Nat) (h : MeshAt w B a mb v m) (hk : k < m.ps.length) (hx : idxOf (hasId id) m.ps = (k : Int)) (hfree : freeB m.cuts m.ps[k] = false) :
    Calls Try.prog 14 #[.pointer (some ⟨a, 0, none⟩), .int .i64 id] w fun e w' => e = .returned (.tuple #[zeroP.val, .bool false]) ∧ Below w.heap.size w w' := by
  obtain ⟨A, cap, rfl, hle, hmax⟩ := own_shape h.own
  have hb0 : ∀ o, Below w.heap.size w (w.alloc o) := fun o => (Below.refl _ _).alloc (Nat.le_refl _) o
  have hf := fun o => find_any (w.alloc o) B a mb _ m id (h.below (hb0 o))
  rw [hx] at hf
  have halt := h.alt
  have hc0 := h.c0
  have hc2 := h.c2
  obtain ⟨b, off, rfl, hb, p0, p1, p2, p3⟩ := pkt_cells (h.row rfl) k hk
  have hlen : m.ps.length ≤ 9223372036854775807 := by unfold maxLen at hmax; exact hmax
  have Hf := Lib.hid hf; have HH := Lib.hid h; have HF := Lib.hid hfree; clear hf hx h hfree
  go_enter Try.func14, Try.ntmps14
  go_wp2_with (first
    | (go_at_call 26
       refine (Hf.out _).mono ?_
       rintro e w1 ⟨rfl, hb1⟩
       have e1 := Lib.hid (blk_below hb1 (by simp) (heap_alloc_new w _))
       have hw1 : Below w.heap.size w w1 := (hb0 _).trans (hb1.mono (by simp))
       have hs1 : w.heap.size + 1 ≤ w1.heap.size := by have := hb1.size; simpa using this
       have q0 := cell_later hw1 p0
       have q1 := cell_later hw1 p1
       have q2 := cell_later hw1 p2
       have q3 := cell_later hw1 p3
       have r0 := cell_later hw1 hc0
       have r2 := cell_later hw1 hc2)
    | (go_at_call 28
       refine (free_any m.ps[k] a mb m.cuts w1 r2 (by omega) (HH.out.below hw1).cuts).mono ?_
       rw [HF.out]
       rintro e w2 ⟨rfl, hb2⟩
       obtain ⟨c0, c1, c2, c3, c4⟩ := blk4 (blk_below hb2 (by omega) e1.out)
       have hf0 := c4 0
       have hf1 := c4 1
       have hf2 := c4 2
       have hf3 := c4 3
       clear c4))
  refine bodyPost_ret (v := .tuple #[zeroP.val, .bool false]) (by simp [results, Try.results14, go_sem, Pkt.val, zeroP, c0, c1, c2, c3]) rfl ⟨rfl, ?_⟩
  have hb3 := hw1.trans (hb2.mono hw1.size)
  exact (((hb3.setCell (p := ⟨w.heap.size, 0, none⟩) (Nat.le_refl _) _).setCell (p := ⟨w.heap.size, 1, none⟩) (Nat.le_refl _) _).setCell (p := ⟨w.heap.size, 2, none⟩) (Nat.le_refl _) _).setCell (p := ⟨w.heap.size, 3, none⟩) (Nat.le_refl _) _

-- Deliver, when the packet is there and may be delivered.
set_option maxHeartbeats 1000000 in
theorem Deliver_some (w : World) (B a mb : Nat) (v : Value) (m : M) (id : Int) (k : Nat) (h : MeshAt w B a mb v m) (hk : k < m.ps.length) (hx : idxOf (hasId id) m.ps = (k : Int)) (hfree : freeB m.cuts m.ps[k] = true) :
    Calls Try.prog 14 #[.pointer (some ⟨a, 0, none⟩), .int .i64 id] w fun e w' => e = .returned (.tuple #[m.ps[k].val, .bool true]) ∧
      (∃ v', MeshAt w' B a mb v' ⟨m.ps.eraseIdx k, m.last, m.cuts⟩ ∧ v'.ownBlock = v.ownBlock) ∧ Only (Foot a mb v) w w' := by
  obtain ⟨A, cap, rfl, hle, hmax⟩ := own_shape h.own
  have hb0 : ∀ o, Below w.heap.size w (w.alloc o) := fun o => (Below.refl _ _).alloc (Nat.le_refl _) o
  have hf := fun o => find_any (w.alloc o) B a mb _ m id (h.below (hb0 o))
  rw [hx] at hf
  have halt := h.alt
  have hc0 := h.c0
  have hc2 := h.c2
  obtain ⟨b, off, rfl, hb, p0, p1, p2, p3⟩ := pkt_cells (h.row rfl) k hk
  have hlen : m.ps.length ≤ 9223372036854775807 := by unfold maxLen at hmax; exact hmax
  have Hf := Lib.hid hf; have HH := Lib.hid h; have HF := Lib.hid hfree; clear hf hx h hfree
  go_enter Try.func14, Try.ntmps14
  go_wp2_with (first
    | (go_at_call 26
       refine (Hf.out _).mono ?_
       rintro e w1 ⟨rfl, hb1⟩
       have e1 := Lib.hid (blk_below hb1 (by simp) (heap_alloc_new w _))
       have hw1 : Below w.heap.size w w1 := (hb0 _).trans (hb1.mono (by simp))
       have hs1 : w.heap.size + 1 ≤ w1.heap.size := by have := hb1.size; simpa using this
       have q0 := cell_later hw1 p0
       have q1 := cell_later hw1 p1
       have q2 := cell_later hw1 p2
       have q3 := cell_later hw1 p3
       have r0 := cell_later hw1 hc0
       have r2 := cell_later hw1 hc2)
    | (go_at_call 28
       refine (free_any m.ps[k] a mb m.cuts w1 r2 (by omega) (HH.out.below hw1).cuts).mono ?_
       rw [HF.out]
       rintro e w2 ⟨rfl, hb2⟩
       have hw2 : Below w.heap.size w w2 := hw1.trans (hb2.mono hw1.size)
       have e2 := Lib.hid (blk_below hb2 (by omega) e1.out))
    | (go_at_call 29
       refine (take_any w2 B a mb _ m k (HH.out.below hw2) hk).mono ?_
       rintro e w3 ⟨rfl, hm3, ho3⟩
       obtain ⟨c0, c1, c2, c3, c4⟩ := blk4 (blk_only ho3 (by have := hb2.size; omega) (foot_new (w' := w) HH.out rfl _ rfl) e2.out)
       have HM := Lib.hid hm3
       have hf0 := c4 0
       have hf1 := c4 1
       have hf2 := c4 2
       have hf3 := c4 3
       clear c4 hm3))
  obtain ⟨v3, hm3, hv3⟩ := HM.out
  have hfoot := foot_new (w' := w) HH.out hv3
  have hfoot0 := foot_new (w' := w) HH.out (v' := .slice (some ⟨b, off, none⟩) m.ps.length cap) rfl
  have o1 : ∀ (wx : World) (j : Nat) (u : Value), Only (· = w.heap.size) wx (wx.setCell ⟨w.heap.size, j, none⟩ u) := fun wx j u => only_setCell wx ⟨w.heap.size, j, none⟩ u
  refine bodyPost_ret (v := .tuple #[m.ps[k].val, .bool true]) (by simp [results, Try.results14, go_sem, Pkt.val, c0, c1, c2, c3]) rfl ⟨rfl, ⟨v3, MeshAt.only (MeshAt.only (MeshAt.only (MeshAt.only hm3 (o1 _ _ _) hfoot) (o1 _ _ _) hfoot) (o1 _ _ _) hfoot) (o1 _ _ _) hfoot, hv3⟩, ?_⟩
  refine ((((((Only.of_below hw2).trans ho3 (fun _ _ h => h)).trans (o1 _ _ _) ?_).trans (o1 _ _ _) ?_).trans (o1 _ _ _) ?_).trans (o1 _ _ _) ?_)
  all_goals exact fun k hk h => by omega
end Go.Proofs.Ytbgobcjnckoekaa
