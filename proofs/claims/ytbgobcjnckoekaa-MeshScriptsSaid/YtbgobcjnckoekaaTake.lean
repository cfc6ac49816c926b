/- What is proved: take: the packet at a place leaves the mesh. -/
import Derived.Test.YtbgobcjnckoekaaDel
namespace Go.Proofs.Ytbgobcjnckoekaa
open Go.RowKit
theorem blk4 {w : World} {g t : Nat} {p q r s : Value} (h : w.heap[g]? = some (.cells #[p, q, r, s] t (0, 0))) :
    w.cell? ⟨g, 0, none⟩ = some p ∧ w.cell? ⟨g, 1, none⟩ = some q ∧ w.cell? ⟨g, 2, none⟩ = some r ∧ w.cell? ⟨g, 3, none⟩ = some s ∧ ∀ o, w.frozen? ⟨g, o, none⟩ = false := by
  refine ⟨?_, ?_, ?_, ?_, fun o => ?_⟩ <;> simp [World.cell?, World.frozen?, h]
theorem MeshAt.ane {w : World} {B a mb : Nat} {v : Value} {m : M} (h : MeshAt w B a mb v m) : some a ≠ v.ownBlock := by
  intro he
  rcases h.own.2 with ⟨hv, _⟩ | ⟨g, cap, cur, hv, _, hg, _⟩
  · subst hv; simp [Value.ownBlock] at he
  · subst hv
    simp [Value.ownBlock] at he
    subst he
    rw [h.heap] at hg
    injection hg with hg; injection hg with _ ht; exact absurd ht (by decide)
theorem MeshAt.mne {w : World} {B a mb : Nat} {v : Value} {m : M} (h : MeshAt w B a mb v m) : some mb ≠ v.ownBlock := by
  intro he
  obtain ⟨es, clock, hm, _⟩ := h.cuts
  rcases h.own.2 with ⟨hv, _⟩ | ⟨g, cap, cur, hv, _, hg, _⟩
  · subst hv; simp [Value.ownBlock] at he
  · subst hv
    simp [Value.ownBlock] at he
    subst he
    rw [hm] at hg
    cases hg
theorem MeshAt.amne {w : World} {B a mb : Nat} {v : Value} {m : M} (h : MeshAt w B a mb v m) : a ≠ mb := by
  rintro rfl
  obtain ⟨es, clock, hm, _⟩ := h.cuts
  rw [h.heap] at hm; cases hm

theorem two_blocks {w w1 : World} {o1 o2 : Obj} {row : Option Nat} (hg : ((w.alloc o1).alloc o2).grownBy w1 row) (hr : ∀ k, row = some k → k < w.heap.size) :
    w1.heap[w.heap.size]? = some o1 ∧ w1.heap[w.heap.size + 1]? = some o2 ∧ (∀ k, k < w.heap.size → some k ≠ row → w1.heap[k]? = w.heap[k]?) ∧ w.heap.size + 1 < w1.heap.size := by
  have hs := hg.size
  simp at hs
  refine ⟨?_, ?_, fun k hk hne => ?_, by omega⟩
  · refine (hg.block _ (by simp; omega) (fun e => by have := hr _ e.symm; omega)).trans ?_
    exact (Below.heap_alloc _ _ _ (by simp)).trans (heap_alloc_new w _)
  · refine (hg.block _ (by simp) (fun e => by have := hr _ e.symm; omega)).trans ?_
    have := heap_alloc_new (w.alloc o1) o2
    simpa using this
  · refine (hg.block _ (by simp; omega) hne).trans ?_
    exact (Below.heap_alloc _ _ _ (by simp; omega)).trans (Below.heap_alloc _ _ _ hk)

/-- The flight's slice is stored anew. -/
theorem mesh_setFlight {w1 : World} {B a mb : Nat} {v v' : Value} {last : Int} {ps : List Pkt} {C : Int → Int → Bool} (hh : w1.heap[a]? = some (.cells #[v, .int .i64 last, .map (some mb)] 52 (0, 0)))
    (hown : w1.ownsRow B 34 4 v' ps.length (ps.map Pkt.cells).flatten) (hne : v'.ownBlock ≠ some a) (hc : CutsAt w1 mb C) (hne2 : mb ≠ a) (hba : B ≤ a) (hbm : B ≤ mb) : MeshAt (w1.setCell ⟨a, 0, none⟩ v') B a mb v' ⟨ps, last, C⟩ :=
  ⟨heap_setCell_at hh v', own_only hown (only_setCell w1 _ v') (fun k hk he => hne (by rw [hk]; exact congrArg some he)), hc.block (Below.heap_setCell _ _ _ _ hne2), hba, hbm⟩

set_option maxHeartbeats 1000000 in
theorem take_any (w : World) (B a mb : Nat) (v : Value) (m : M) (i : Nat) (h : MeshAt w B a mb v m) (hi : i < m.ps.length) :
    Calls Try.prog 29 #[.pointer (some ⟨a, 0, none⟩), .int .i64 i] w fun e w' => e = .returned m.ps[i].val ∧
      (∃ v', MeshAt w' B a mb v' ⟨m.ps.eraseIdx i, m.last, m.cuts⟩ ∧ v'.ownBlock = v.ownBlock) ∧ Only (Foot a mb v) w w' := by
  obtain ⟨A, cap, rfl, hle, hmax⟩ := own_shape h.own
  have halt := h.alt
  have hc0 := h.c0
  have hfz := h.fz 0
  have hrow := h.row rfl
  obtain ⟨b, off, rfl, hb, p0, p1, p2, p3⟩ := pkt_cells hrow i hi
  have hlen : m.ps.length ≤ 9223372036854775807 := by unfold maxLen at hmax; exact hmax
  have hane := h.ane
  have hown := Lib.hid h.own
  have hH := Lib.hid h
  have hlt := (h.own.lt b rfl).2
  clear hrow h
  go_enter Try.func29, Try.ntmps29
  go_wp2_with (
    (go_at_call 37
     refine (Delete_any _ B _ _ i _ m.ps rfl ((hown.out.alloc _).alloc _) hi).mono ?_
     rintro e w1 ⟨A1, cap1, rfl, hown1, hblk, hg1⟩
     obtain ⟨e1, e2, e3, e4⟩ := two_blocks hg1 (fun k hk => by have hk := Option.some.inj hk; subst hk; exact hlt)
     obtain ⟨c0, c1, c2, c3, c4⟩ := blk4 e1
     obtain ⟨d0, d1, d2, d3, _⟩ := blk4 e2
     have ha1 : w1.cell? ⟨a, 0, none⟩ = some (.slice (some ⟨b, off, none⟩) m.ps.length cap) := (World.cell?_of_block (w := w) (a := ⟨a, 0, none⟩) (e3 a halt hane)).trans hc0
     have ha2 : w1.frozen? ⟨a, 0, none⟩ = false := (World.frozen?_of_block (w := w) (a := ⟨a, 0, none⟩) (e3 a halt hane)).trans hfz
     have H3 := Lib.hid e3
     have H1 := Lib.hid hown1
     have HB := Lib.hid hblk
     have hf0 := c4 0
     have hf1 := c4 1
     have hf2 := c4 2
     have hf3 := c4 3
     have hx1 : a ≠ w.heap.size := by omega
     have hx2 : w.heap.size ≠ a := by omega
     have hx3 : a ≠ w.heap.size + 1 := by omega
     have hx4 : w.heap.size + 1 ≠ a := by omega
     clear e1 e2 e3 hown1 hblk c4))
  have hm := hH.out
  have hblk := HB.out
  have h3 := H3.out
  have hmb : mb < w.heap.size := hm.cuts.lt
  have k1 : Only (Foot a mb (.slice (some ⟨b, off, none⟩) m.ps.length cap)) w w1 :=
    (((only_alloc _ w _).trans (only_alloc _ _ _) (fun _ _ h => h))).trans (Only.of_grown hg1 (fun k hk _ => .inr (.inr hk))) (fun _ _ h => h)
  have hM : MeshAt (w1.setCell ⟨a, 0, none⟩ (.slice A1 (m.ps.eraseIdx i).length cap1)) B a mb (.slice A1 (m.ps.eraseIdx i).length cap1) ⟨m.ps.eraseIdx i, m.last, m.cuts⟩ :=
    mesh_setFlight ((h3 a halt hane).trans hm.heap) H1.out (by rw [hblk]; exact fun e => hane e.symm) (hm.cuts.block (h3 mb hmb hm.mne)) (fun e => hm.amne e.symm) hm.ba hm.bm
  have hfoot : ∀ k, k = w.heap.size → ¬ Foot a mb (.slice A1 (m.ps.eraseIdx i).length cap1) k := by
    rintro k rfl (h | h | h)
    · omega
    · omega
    · rw [hblk] at h; have h : b = w.heap.size := Option.some.inj h; omega
  have o1 : ∀ (wx : World) (j : Nat) (u : Value), Only (· = w.heap.size) wx (wx.setCell ⟨w.heap.size, j, none⟩ u) := fun wx j u => only_setCell wx ⟨w.heap.size, j, none⟩ u
  refine bodyPost_ret (v := m.ps[i].val) (by simp [results, Try.results29, go_sem, Pkt.val, c0, c1, c2, c3, hx1]) rfl ⟨rfl, ⟨_, MeshAt.only (MeshAt.only (MeshAt.only (MeshAt.only hM (o1 _ _ _) hfoot) (o1 _ _ _) hfoot) (o1 _ _ _) hfoot) (o1 _ _ _) hfoot, hblk⟩, ?_⟩
  refine (((((k1.trans (only_setCell w1 _ _) (fun k _ h => .inl h)).trans (o1 _ _ _) ?_).trans (o1 _ _ _) ?_).trans (o1 _ _ _) ?_).trans (o1 _ _ _) ?_)
  all_goals exact fun k hk h => by omega
end Go.Proofs.Ytbgobcjnckoekaa
