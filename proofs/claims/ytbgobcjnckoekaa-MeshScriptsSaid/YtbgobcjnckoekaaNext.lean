/- What is proved: the mesh's Next and Flight. -/
import Derived.Test.YtbgobcjnckoekaaMeth
namespace Go.Proofs.Ytbgobcjnckoekaa
open Go.RowKit
attribute [local go_sem] Pkt.val

theorem nextIdx {w : World} {B a mb : Nat} {m : M} {A : Option Addr} {cap : Nat} (h : MeshAt w B a mb (.slice A m.ps.length cap) m) (o : Obj) :
    Calls Try.prog 27 #[.slice A m.ps.length cap, .func (.func 28) #[.pointer (some ⟨a, 0, none⟩)] #[]] (w.alloc o) fun e w' => e = .returned (.int .i64 (idxOf (freeB m.cuts) m.ps)) ∧ Below (w.alloc o).heap.size (w.alloc o) w' := by
  have hmax : m.ps.length ≤ maxLen := by obtain ⟨_, _, hv, _, hm⟩ := own_shape h.own; exact hm
  have hb0 : Below w.heap.size w (w.alloc o) := (Below.refl _ _).alloc (Nat.le_refl _) o
  have h1 := h.below hb0
  refine IndexFunc_bd a (freeB m.cuts) m.ps A cap (w.alloc o) (by unfold maxLen at hmax; exact hmax) (h1.row rfl) (fun i hi w' hb => ?_)
  have h2 := h1.below hb
  exact free_any m.ps[i] a mb m.cuts w' h2.c2 h2.alt h2.cuts

-- Next, when nothing may be delivered.
set_option maxHeartbeats 1000000 in
theorem Next_none (w : World) (B a mb : Nat) (v : Value) (m : M) (h : MeshAt w B a mb v m) (hx : idxOf (freeB m.cuts) m.ps = -1) :
    Calls Try.prog 11 #[.pointer (some ⟨a, 0, none⟩)] w fun e w' => e = .returned (.tuple #[zeroP.val, .bool false]) ∧ Below w.heap.size w w' := by
  obtain ⟨A, cap, rfl, hle, hmax⟩ := own_shape h.own
  have hb0 : ∀ o, Below w.heap.size w (w.alloc o) := fun o => (Below.refl _ _).alloc (Nat.le_refl _) o
  have hf := nextIdx h
  rw [hx] at hf
  have halt := h.alt
  have hc0 := h.c0
  have Hf := Lib.hid hf; clear hf hx h
  go_enter Try.func11, Try.ntmps11
  go_wp2_with (
    (go_at_call 27
     refine (Hf.out _).mono ?_
     rintro e w1 ⟨rfl, hb1⟩
     obtain ⟨c0, c1, c2, c3, c4⟩ := blk4 (blk_below hb1 (by simp) (heap_alloc_new w _))
     have hf0 := c4 0
     have hf1 := c4 1
     have hf2 := c4 2
     have hf3 := c4 3
     clear c4))
  refine bodyPost_ret (v := .tuple #[zeroP.val, .bool false]) (by simp [results, Try.results11, go_sem, Pkt.val, zeroP, c0, c1, c2, c3]) rfl ⟨rfl, ?_⟩
  have hb2 := (hb0 _).trans (hb1.mono (by simp))
  exact (((hb2.setCell (p := ⟨w.heap.size, 0, none⟩) (Nat.le_refl _) _).setCell (p := ⟨w.heap.size, 1, none⟩) (Nat.le_refl _) _).setCell (p := ⟨w.heap.size, 2, none⟩) (Nat.le_refl _) _).setCell (p := ⟨w.heap.size, 3, none⟩) (Nat.le_refl _) _

-- Next, when the packet at place k is the first one that may be delivered.
set_option maxHeartbeats 1000000 in
theorem Next_some (w : World) (B a mb : Nat) (v : Value) (m : M) (k : Nat) (h : MeshAt w B a mb v m) (hk : k < m.ps.length) (hx : idxOf (freeB m.cuts) m.ps = (k : Int)) :
    Calls Try.prog 11 #[.pointer (some ⟨a, 0, none⟩)] w fun e w' => e = .returned (.tuple #[m.ps[k].val, .bool true]) ∧
      (∃ v', MeshAt w' B a mb v' ⟨m.ps.eraseIdx k, m.last, m.cuts⟩ ∧ v'.ownBlock = v.ownBlock) ∧ Only (Foot a mb v) w w' := by
  obtain ⟨A, cap, rfl, hle, hmax⟩ := own_shape h.own
  have hb0 : ∀ o, Below w.heap.size w (w.alloc o) := fun o => (Below.refl _ _).alloc (Nat.le_refl _) o
  have hf := nextIdx h
  rw [hx] at hf
  have halt := h.alt
  have hc0 := h.c0
  have Hf := Lib.hid hf; have HH := Lib.hid h; clear hf hx h
  go_enter Try.func11, Try.ntmps11
  go_wp2_with (first
    | (go_at_call 27
       refine (Hf.out _).mono ?_
       rintro e w1 ⟨rfl, hb1⟩
       have e1 := Lib.hid (blk_below hb1 (by simp) (heap_alloc_new w _))
       have hw1 : Below w.heap.size w w1 := (hb0 _).trans (hb1.mono (by simp))
       have hs1 : w.heap.size + 1 ≤ w1.heap.size := by have := hb1.size; simpa using this)
    | (go_at_call 29
       refine (take_any w1 B a mb _ m k (HH.out.below hw1) hk).mono ?_
       rintro e w3 ⟨rfl, hm3, ho3⟩
       obtain ⟨c0, c1, c2, c3, c4⟩ := blk4 (blk_only ho3 (by omega) (foot_new (w' := w) HH.out rfl _ rfl) e1.out)
       have HM := Lib.hid hm3
       have hf0 := c4 0
       have hf1 := c4 1
       have hf2 := c4 2
       have hf3 := c4 3
       clear c4 hm3))
  obtain ⟨v3, hm3, hv3⟩ := HM.out
  have hfoot := foot_new (w' := w) HH.out hv3
  have o1 : ∀ (wx : World) (j : Nat) (u : Value), Only (· = w.heap.size) wx (wx.setCell ⟨w.heap.size, j, none⟩ u) := fun wx j u => only_setCell wx ⟨w.heap.size, j, none⟩ u
  refine bodyPost_ret (v := .tuple #[m.ps[k].val, .bool true]) (by simp [results, Try.results11, go_sem, Pkt.val, c0, c1, c2, c3]) rfl ⟨rfl, ⟨v3, MeshAt.only (MeshAt.only (MeshAt.only (MeshAt.only hm3 (o1 _ _ _) hfoot) (o1 _ _ _) hfoot) (o1 _ _ _) hfoot) (o1 _ _ _) hfoot, hv3⟩, ?_⟩
  refine ((((((Only.of_below hw1).trans ho3 (fun _ _ h => h)).trans (o1 _ _ _) ?_).trans (o1 _ _ _) ?_).trans (o1 _ _ _) ?_).trans (o1 _ _ _) ?_)
  all_goals exact fun k hk h => by omega

set_option maxHeartbeats 400000 in
theorem Flight_any (w : World) (B a mb : Nat) (v : Value) (m : M) (h : MeshAt w B a mb v m) (hlen : m.ps.length ≤ 2097152) :
    Calls Try.prog 12 #[.pointer (some ⟨a, 0, none⟩)] w fun e w' => ∃ A' cap', e = .returned (.slice A' m.ps.length cap') ∧ w'.ownsRow w.heap.size 34 4 (.slice A' m.ps.length cap') m.ps.length (m.ps.map Pkt.cells).flatten ∧ Below w.heap.size w w' := by
  obtain ⟨A, cap, rfl, hle, hmax⟩ := own_shape h.own
  have hc0 := h.c0
  have hcl := Clone_any w w.heap.size A cap m.ps (h.row rfl) (Nat.le_refl _) (fun hA => by
    subst hA
    rcases h.own.2 with ⟨_, h0⟩ | ⟨g, c, cur, hv, _⟩
    · exact List.eq_nil_of_length_eq_zero h0
    · cases hv) hlen
  have Hc := Lib.hid hcl; clear hcl h
  go_enter Try.func12, Try.ntmps12
  go_wp2_with (go_at_call 30; refine Hc.out.mono ?_; rintro e w1 ⟨A1, cap1, rfl, hown1, hb1⟩)
  go_ret
  exact ⟨A1, cap1, rfl, hown1, hb1⟩
end Go.Proofs.Ytbgobcjnckoekaa
