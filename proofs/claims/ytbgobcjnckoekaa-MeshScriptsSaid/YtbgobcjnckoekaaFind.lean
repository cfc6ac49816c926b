/- What is proved: what a mesh is in memory; find, New, Flight's clone. -/
import Derived.Test.YtbgobcjnckoekaaIdx
namespace Go.Proofs.Ytbgobcjnckoekaa
open Go.RowKit
attribute [local go_sem] cell_over frozen_over

structure M where
  ps : List Pkt
  last : Int
  cuts : Int → Int → Bool

/-- A mesh in memory: its struct is block a, its map block mb, its packets' row block G; all from B on. -/
structure MeshAt (w : World) (B a mb : Nat) (v : Value) (m : M) : Prop where
  heap : w.heap[a]? = some (.cells #[v, .int .i64 m.last, .map (some mb)] 52 (0, 0))
  own : w.ownsRow B 34 4 v m.ps.length (m.ps.map Pkt.cells).flatten
  cuts : CutsAt w mb m.cuts
  ba : B ≤ a
  bm : B ≤ mb

theorem cells_len (ps : List Pkt) : ∀ c ∈ ps.map Pkt.cells, c.length = 4 := by
  intro c hc; obtain ⟨p, _, rfl⟩ := List.mem_map.1 hc; rfl
section
variable {w : World} {B a mb : Nat} {v : Value} {m : M}
theorem MeshAt.alt (h : MeshAt w B a mb v m) : a < w.heap.size := by
  rcases Nat.lt_or_ge a w.heap.size with h1 | h1
  · exact h1
  · have := h.heap; rw [Array.getElem?_eq_none h1] at this; cases this
theorem MeshAt.c0 (h : MeshAt w B a mb v m) : w.cell? ⟨a, 0, none⟩ = some v := by simp [World.cell?, h.heap]
theorem MeshAt.c1 (h : MeshAt w B a mb v m) : w.cell? ⟨a, 1, none⟩ = some (.int .i64 m.last) := by simp [World.cell?, h.heap]
theorem MeshAt.c2 (h : MeshAt w B a mb v m) : w.cell? ⟨a, 2, none⟩ = some (.map (some mb)) := by simp [World.cell?, h.heap]
theorem MeshAt.fz (h : MeshAt w B a mb v m) (o : Nat) : w.frozen? ⟨a, o, none⟩ = false := by simp [World.frozen?, h.heap]
theorem MeshAt.row (h : MeshAt w B a mb v m) {A : Option Addr} {cap : Nat} (hv : v = .slice A m.ps.length cap) : RowAt w w.heap.size 4 A (m.ps.map Pkt.cells) :=
  rowAt_of_own h.own hv (cells_len _) (by simp)
/-- What a mesh takes up. -/
def Foot (a mb : Nat) (v : Value) (k : Nat) : Prop := k = a ∨ k = mb ∨ v.ownBlock = some k
theorem MeshAt.keep {w' : World} (h : MeshAt w B a mb v m) (hk : ∀ k, k < w.heap.size → Foot a mb v k → w'.heap[k]? = w.heap[k]?) : MeshAt w' B a mb v m :=
  ⟨(hk a h.alt (.inl rfl)).trans h.heap, (by
    refine ⟨h.own.1, ?_⟩
    rcases h.own.2 with h2 | ⟨g, cap, cur, hv, hb, hg, r⟩
    · exact .inl h2
    · refine .inr ⟨g, cap, cur, hv, hb, (hk g ?_ (.inr (.inr (by rw [hv]; rfl)))).trans hg, r⟩
      rcases Nat.lt_or_ge g w.heap.size with h1 | h1
      · exact h1
      · rw [Array.getElem?_eq_none h1] at hg; cases hg),
    h.cuts.block (hk mb h.cuts.lt (.inr (.inl rfl))), h.ba, h.bm⟩
theorem MeshAt.below {w' : World} (h : MeshAt w B a mb v m) (hb : Below w.heap.size w w') : MeshAt w' B a mb v m := h.keep fun k hk _ => hb.block k hk
theorem MeshAt.only {w' : World} {F : Nat → Prop} (h : MeshAt w B a mb v m) (hb : Only F w w') (hF : ∀ k, F k → ¬ Foot a mb v k) : MeshAt w' B a mb v m :=
  h.keep fun k hk hf => hb.block k hk (fun hF' => hF k hF' hf)
theorem MeshAt.foot (h : MeshAt w B a mb v m) : ∀ k, Foot a mb v k → B ≤ k := by
  rintro k (rfl | rfl | hk)
  · exact h.ba
  · exact h.bm
  · exact (h.own.lt k hk).1
end

def hasId (id : Int) (p : Pkt) : Bool := p.id == id

theorem cell_alloc_old {w : World} {o : Obj} {p : Addr} (h : p.block < w.heap.size) : (w.alloc o).cell? p = w.cell? p := World.cell?_alloc_lt w o p h

set_option maxHeartbeats 1000000 in
theorem find_any (w : World) (B a mb : Nat) (v : Value) (m : M) (id : Int) (h : MeshAt w B a mb v m) :
    Calls Try.prog 26 #[.pointer (some ⟨a, 0, none⟩), .int .i64 id] w fun e w' => e = .returned (.int .i64 (idxOf (hasId id) m.ps)) ∧ Below w.heap.size w w' := by
  obtain ⟨A, cap, rfl, _, hmax⟩ := own_shape h.own
  have halt := h.alt
  have hc0 := h.c0
  have hrow := h.row rfl
  have hlen : m.ps.length ≤ 9223372036854775807 := by unfold maxLen at hmax; exact hmax
  have hcl : ∀ (i : Nat) (hi : i < m.ps.length) (w' : World), Below (w.alloc (.cells #[.int .i64 id] 3)).heap.size (w.alloc (.cells #[.int .i64 id] 3)) w' →
      Calls Try.prog 36 #[m.ps[i].val, .pointer (some ⟨w.heap.size, 0, none⟩)] w' fun e w'' => e = .returned (.bool (hasId id m.ps[i])) ∧ Below w'.heap.size w' w'' := by
    intro i hi w' hb
    have hs := hb.size
    simp at hs
    exact findCl_any m.ps[i] id w.heap.size w' (by rw [hb.cell (by simp)]; simp [go_sem]) (by omega)
  have Hcl := Lib.hid hcl
  have Hrow := Lib.hid hrow
  clear hcl hrow
  go_enter Try.func26, Try.ntmps26
  go_wp2_with (go_at_call 27; refine (IndexFunc_cl _ (hasId id) m.ps _ _ _ hlen ((Hrow.out.below ((Below.refl _ _).alloc (Nat.le_refl _) _) (Nat.le_refl _)).more (by simp)) Hcl.out).mono ?_; rintro e w1 ⟨rfl, hb1⟩)
  go_ret
  exact ⟨rfl, ((Below.refl _ _).alloc (Nat.le_refl _) _).trans (hb1.mono (by simp))⟩

set_option maxHeartbeats 400000 in
theorem New_any (w : World) :
    Calls Try.prog 8 #[] w fun e w' => e = .returned (.pointer (some ⟨w.heap.size + 1, 0, none⟩)) ∧ MeshAt w' w.heap.size (w.heap.size + 1) w.heap.size (.slice none 0 0) ⟨[], 0, fun _ _ => false⟩ ∧ Below w.heap.size w w' := by
  have hmm := @run_makeMap Try.prog
  go_enter Try.func8, Try.ntmps8
  go_wp2
  go_ret
  refine ⟨rfl, ⟨?_, World.ownsRow_nil _ _ _ _, ⟨#[], 0, ?_, by simp, by simp, by simp⟩, by omega, Nat.le_refl _⟩, ((Below.refl _ _).alloc (Nat.le_refl _) _).alloc (by simp) _⟩
  · have h1 := heap_alloc_new (w.alloc (.map #[] 0)) (.cells #[.slice none 0 0, .int .i64 0, .map (some w.heap.size)] 52)
    simpa using h1
  · exact (Below.heap_alloc (w.alloc (.map #[] 0)) _ _ (by simp)).trans (heap_alloc_new w _)
end Go.Proofs.Ytbgobcjnckoekaa
