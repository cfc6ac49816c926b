/- What is proved: add: a packet goes into flight. -/
import Derived.Test.YtbgobcjnckoekaaNext
import Derived.Deep.RegionHeld3
namespace Go.Proofs.Ytbgobcjnckoekaa
open Go.RowKit
attribute [local go_sem] Pkt.val

set_option maxRecDepth 100000 in
set_option maxHeartbeats 1000000 in
theorem add_full (w : World) (B a mb : Nat) (v : Value) (m : M) (p : Pkt) (h : MeshAt w B a mb v m) (hfull : 512 ≤ m.ps.length) :
    Calls Try.prog 25 #[.pointer (some ⟨a, 0, none⟩), p.val] w fun e w' => e = .returned (.tuple #[.int .i64 0, .int .i64 3]) ∧ Below w.heap.size w w' := by
  obtain ⟨A, cap, rfl, hle, hmax⟩ := own_shape h.own
  have hlen : m.ps.length ≤ 9223372036854775807 := by unfold maxLen at hmax; exact hmax
  have halt := h.alt
  have hc0 := h.c0
  have hd : decide ((512 : Int) ≤ (m.ps.length : Int)) = true := by simp; omega
  clear h
  go_enter Try.func25, Try.ntmps25
  go_wp2
  go_ret2
  exact ⟨rfl, (Below.refl _ _).alloc (Nat.le_refl _) _⟩

set_option maxRecDepth 100000 in
set_option maxHeartbeats 3200000 in
theorem add_some (w : World) (B a mb : Nat) (v : Value) (m : M) (p : Pkt) (h : MeshAt w B a mb v m) (hroom : m.ps.length < 512) (hl0 : 0 ≤ m.last) (hl1 : m.last ≤ 4611686018427387904) :
    Calls Try.prog 25 #[.pointer (some ⟨a, 0, none⟩), p.val] w fun e w' => e = .returned (.tuple #[.int .i64 (m.last + 1), .int .i64 0]) ∧
      (∃ v', MeshAt w' B a mb v' ⟨m.ps ++ [⟨m.last + 1, p.src, p.dst, p.body⟩], m.last + 1, m.cuts⟩ ∧ (v'.ownBlock = v.ownBlock ∨ ∃ k, v'.ownBlock = some k ∧ w.heap.size ≤ k)) ∧ Only (Foot a mb v) w w' := by
  obtain ⟨A, cap, rfl, hle, hmax⟩ := own_shape h.own
  have hlen : m.ps.length ≤ 9223372036854775807 := by unfold maxLen at hmax; exact hmax
  have halt := h.alt
  have hc0 := h.c0
  have hc1 := h.c1
  have hf0 := h.fz 0
  have hf1 := h.fz 1
  have hx1 : a ≠ w.heap.size := by omega
  have hx2 : w.heap.size ≠ a := by omega
  obtain ⟨i0, hi0, hz0, hz1, hz2⟩ := info_parts info34
  have HH := Lib.hid h; clear h
  go_enter Try.func25, Try.ntmps25
  go_wp2_with fail
  have hh := HH.out
  have hb1 : ∀ u o, Only (· = a) w ((w.setCell ⟨a, 1, none⟩ u).alloc o) := fun u o => (only_setCell w ⟨a, 1, none⟩ u).trans (only_alloc _ _ _) (fun _ _ h => h)
  have hbox : ∀ u o, ((w.setCell ⟨a, 1, none⟩ u).alloc o).heap[w.heap.size]? = some o := fun u o => by
    have := heap_alloc_new (w.setCell ⟨a, 1, none⟩ u) o
    simpa [World.setCell] using this
  have hha : ∀ o, ((w.setCell ⟨a, 1, none⟩ (.int .i64 (m.last + 1))).alloc o).heap[a]? = some (.cells #[.slice A m.ps.length cap, .int .i64 (m.last + 1), .map (some mb)] 52 (0, 0)) := fun o =>
    (Below.heap_alloc _ _ _ (by simp [World.setCell]; exact halt)).trans (heap_setCell_at hh.heap _)
  have hsz : ∀ u o, ((w.setCell ⟨a, 1, none⟩ u).alloc o).heap.size = w.heap.size + 1 := fun u o => by simp [World.setCell]
  replace hb1 := hb1 (.int .i64 (m.last + 1)) (.cells #[.int .i64 (m.last + 1), .int .i64 p.src, .int .i64 p.dst, .string p.body] 34)
  replace hbox := hbox (.int .i64 (m.last + 1)) (.cells #[.int .i64 (m.last + 1), .int .i64 p.src, .int .i64 p.dst, .string p.body] 34)
  replace hha := hha (.cells #[.int .i64 (m.last + 1), .int .i64 p.src, .int .i64 p.dst, .string p.body] 34)
  replace hsz := hsz (.int .i64 (m.last + 1)) (.cells #[.int .i64 (m.last + 1), .int .i64 p.src, .int .i64 p.dst, .string p.body] 34)
  generalize (w.setCell ⟨a, 1, none⟩ (.int .i64 (m.last + 1))).alloc (.cells #[.int .i64 (m.last + 1), .int .i64 p.src, .int .i64 p.dst, .string p.body] 34) = W at *
  have hown : W.ownsRow B 34 4 (.slice A m.ps.length cap) m.ps.length (m.ps.map Pkt.cells).flatten := own_only hh.own hb1 (fun k hk he => hh.ane (by rw [hk, he]))
  have hcuts : CutsAt W mb m.cuts := hh.cuts.block (hb1.block mb hh.cuts.lt (fun e => hh.amne e.symm))
  obtain ⟨d0, d1, d2, d3, _⟩ := blk4 hbox
  have ha0 : W.cell? ⟨a, 0, none⟩ = some (.slice A m.ps.length cap) := by simp [World.cell?, hha]
  have hbW : B ≤ W.heap.size := by have := hh.ba; omega
  clear hc0 hc1 hf0 hf1
  have hr0 : RowAt ((W.alloc (.cells #[.int .i64 (m.last + 1), .int .i64 p.src, .int .i64 p.dst, .string p.body] 34)).drew) (W.heap.size + 1) 4 (some ⟨W.heap.size, 0, none⟩) [[.int .i64 (m.last + 1), .int .i64 p.src, .int .i64 p.dst, .string p.body]] :=
    rowAt_one (t := 34) (fr := (0, 0)) (heap_alloc_new W _) (by omega)
  have hs0 : ∀ c ∈ [[Value.int .i64 (m.last + 1), .int .i64 p.src, .int .i64 p.dst, .string p.body]], c.length = 4 := by simp
  have h10 : ∀ u ∈ [[Value.int .i64 (m.last + 1), .int .i64 p.src, .int .i64 p.dst, .string p.body]].flatten, u.oneCell' = true := by
    intro u hu; simp at hu; rcases hu with rfl | rfl | rfl | rfl <;> rfl
  have hn0 : m.ps.length + 1 ≤ maxLen := by unfold maxLen; omega
  have hn1 : (m.ps.length + 1) * 40 ≤ 140737488355328 := by omega
  have hn2 : B ≤ ((W.alloc (.cells #[.int .i64 (m.last + 1), .int .i64 p.src, .int .i64 p.dst, .string p.body] 34)).drew).heap.size := by simp; omega
  have haW : a < W.heap.size := by omega
  have hfa : W.frozen? ⟨a, 0, none⟩ = false := by simp [World.frozen?, hha]
  have hane : some a ≠ (Value.slice A m.ps.length cap).ownBlock := hh.ane
  have hbW2 : w.heap.size < W.heap.size := by omega
  have hbne0 : some w.heap.size ≠ (Value.slice A m.ps.length cap).ownBlock := fun he => by
    have := (hh.own.lt _ he.symm).2; omega
  have hbne := Lib.hid hbne0; clear hbne0
  have HM := Lib.hid hh; have HC := Lib.hid hcuts; clear hcuts
  have Hs0 := Lib.hid hs0; have H10 := Lib.hid h10; have Hr0 := Lib.hid hr0; have Hn := Lib.hid hown; have Ha := Lib.hid hha; have Hb := Lib.hid hbox; have H1 := Lib.hid hb1; have Hz := Lib.hid hsz
  clear hs0 h10 hr0 hown hha hbox hb1 hsz hh
  go_region_law (first
    | (refine step_app _ rfl (.tmp 28) (.tmp 30) 27 rfl 34 i0 _ B 4 40 Try.underlying27 hi0 hz0 hz1 hz2 rfl (by omega) (.slice A m.ps.length cap) m.ps.length (m.ps.map Pkt.cells).flatten rfl ((Hn.out.alloc _).drew) (W.heap.size + 1) (some ⟨W.heap.size, 0, none⟩) 1 1 [[.int .i64 (m.last + 1), .int .i64 p.src, .int .i64 p.dst, .string p.body]] rfl Hr0.out Hs0.out rfl H10.out hn0 hn1 hn2 ?_
       intro A1 c1 w1 hown1 hgrow hat
       have hc1 : w1.cell? ⟨a, 0, none⟩ = some (.slice A m.ps.length cap) := by
         rw [hgrow.cell_far _ (by simp; omega) hane]; simp [go_sem, ha0, haW]
       have hc2 : w1.frozen? ⟨a, 0, none⟩ = false := by
         rw [hgrow.frozen_far _ (by simp; omega) hane]; simp [go_sem, hfa, haW]
       have hc3 : w1.cell? ⟨w.heap.size, 0, none⟩ = some (.int .i64 (m.last + 1)) := by
         rw [hgrow.cell_far _ (by simp; omega) hbne.out]; simp [go_sem, d0, hbW2]))
  all_goals
    go_wp2
    go_ret2
    have hat' := hat
    have hh := HM.out
    have hlt : ∀ k, (Value.slice A m.ps.length cap).ownBlock = some k → k < W.heap.size := fun k hk => (Hn.out.lt k hk).2
    have hne1 : (Value.slice A1 (m.ps.length + 1) c1).ownBlock ≠ some a := by
      rcases hat' with h1 | h1
      · rw [h1]; exact fun e => hane e.symm
      · rw [h1]; intro e; simp at e; omega
    have hw1a : w1.heap[a]? = W.heap[a]? := (hgrow.block a (by simp; omega) hane).trans (Below.heap_alloc W _ a haW)
    have hmbW : mb < W.heap.size := HC.out.lt
    have hw1m : w1.heap[mb]? = W.heap[mb]? := (hgrow.block mb (by simp; omega) hh.mne).trans (Below.heap_alloc W _ mb hmbW)
    have hM := mesh_setFlight (ps := m.ps ++ [⟨m.last + 1, p.src, p.dst, p.body⟩]) (hw1a.trans Ha.out) (by simpa [Pkt.cells] using hown1) hne1 (HC.out.block hw1m) (fun e => hh.amne e.symm) hh.ba hh.bm
    have hsz := Hz.out
    refine ⟨rfl, ⟨_, hM, ?_⟩, ?_⟩
    · rcases hat' with h1 | h1
      · exact .inl h1
      · exact .inr ⟨_, h1, by simp; omega⟩
    · refine (((H1.out.mono (fun k hk => .inl hk)).trans (Only.of_below (((Below.refl _ W).alloc (Nat.le_refl _) _).drew)) (fun _ _ h => h)).trans (Only.of_grown (F := Foot a mb (.slice A m.ps.length cap)) hgrow (fun k hk _ => .inr (.inr hk))) (fun _ _ h => h)).trans (only_setCell w1 _ _) (fun k _ hk => .inl hk)
end Go.Proofs.Ytbgobcjnckoekaa
