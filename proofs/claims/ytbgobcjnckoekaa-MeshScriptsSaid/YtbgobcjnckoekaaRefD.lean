/- What is proved: the document's mesh: Cut, Join, Packets. -/
import Derived.Test.YtbgobcjnckoekaaRefC
namespace Go.Proofs.Ytbgobcjnckoekaa
open Go.RowKit

theorem info64 : (Try.prog.info? 64).map (fun i => (i.zero, i.size, i.bytes)) = some (some (.agg #[.int .i64 0, .int .i64 0]), 2, 16) := by kernel_rfl
def addPair (l : List (Int × Int)) (x y : Int) : List (Int × Int) := if isCut l x y then l else l ++ [(x, y)]
def delPair (l : List (Int × Int)) (x y : Int) : List (Int × Int) := l.filter fun p => !sameB x y p

/-- The cuts' slice is stored anew. -/
theorem ref_setC {w1 : World} {B a : Nat} {v u' u : Value} {last : Int} {ps : List Pkt} {cs : List (Int × Int)} (hh : w1.heap[a]? = some (.cells #[v, .int .i64 last, u] 46 (0, 0)))
    (hown : w1.ownsRow B 34 4 v ps.length (ps.map Pkt.cells).flatten) (hne : v.ownBlock ≠ some a) (hc : w1.ownsRow B 64 2 u' cs.length (cs.map pairC).flatten) (hne2 : u'.ownBlock ≠ some a) (hba : B ≤ a) : RefAt (w1.setCell ⟨a, 2, none⟩ u') B a v u' ⟨ps, last, cs⟩ :=
  ⟨heap_setCell_at hh u', own_only hown (only_setCell w1 _ u') (fun k hk he => hne (by rw [hk]; exact congrArg some he)), own_only hc (only_setCell w1 _ u') (fun k hk he => hne2 (by rw [hk]; exact congrArg some he)), hba⟩

set_option maxHeartbeats 1000000 in
theorem rCut_is (w : World) (B a : Nat) (v u : Value) (r : R) (x y : Int) (h : RefAt w B a v u r) (hc : isCut r.cuts x y = true) :
    Calls Try.prog 22 #[.pointer (some ⟨a, 0, none⟩), .int .i64 x, .int .i64 y] w fun e w' => e = .returned (.tuple #[]) ∧ Below w.heap.size w w' := by
  have hi := IsCut_any w B a v u r x y h
  rw [hc] at hi
  have Hi := Lib.hid hi; clear hi hc h
  go_enter Try.func22, Try.ntmps22
  go_wp2_with (go_at_call 33; refine Hi.out.mono ?_; rintro e w1 ⟨rfl, hb1⟩)
  go_end0
  exact ⟨rfl, hb1⟩

set_option maxHeartbeats 1000000 in
theorem rCut_new (w : World) (B a : Nat) (v u : Value) (r : R) (x y : Int) (h : RefAt w B a v u r) (hc : isCut r.cuts x y = false) (hn : r.cuts.length ≤ 2000) :
    Calls Try.prog 22 #[.pointer (some ⟨a, 0, none⟩), .int .i64 x, .int .i64 y] w fun e w' => e = .returned (.tuple #[]) ∧
      (∃ u', RefAt w' B a v u' ⟨r.ps, r.last, r.cuts ++ [(x, y)]⟩ ∧ RGrew w u u') ∧ Only (RFoot a v u) w w' := by
  obtain ⟨A, cap, rfl, _, hmax⟩ := own_shape h.ownc
  obtain ⟨i0, hi0, hz0, hz1, hz2⟩ := info_parts info64
  have hi := IsCut_any w B a v _ r x y h
  rw [hc] at hi
  have halt := h.alt
  have hc2 := h.c2
  have hf2 := h.fz 2
  have hba := h.ba
  have hr0 : ∀ W : World, RowAt (W.alloc (.cells #[.int .i64 x, .int .i64 y] 64)) (W.heap.size + 1) 2 (some ⟨W.heap.size, 0, none⟩) [[.int .i64 x, .int .i64 y]] := fun W => rowAt_one (t := 64) (fr := (0, 0)) (heap_alloc_new W _) (by omega)
  have hs0 : ∀ c ∈ [[Value.int .i64 x, .int .i64 y]], c.length = 2 := by simp
  have h10 : ∀ z ∈ [[Value.int .i64 x, .int .i64 y]].flatten, z.oneCell' = true := by
    intro z hz; simp at hz; rcases hz with rfl | rfl <;> rfl
  have hn0 : r.cuts.length + 1 ≤ maxLen := by unfold maxLen; omega
  have hn1 : (r.cuts.length + 1) * 16 ≤ 140737488355328 := by omega
  have hane := h.aune
  have Hane := Lib.hid hane
  have Hi := Lib.hid hi; have HH := Lib.hid h; have Hr0 := Lib.hid hr0; have Hs0 := Lib.hid hs0; have H10 := Lib.hid h10; clear hi hc h hr0 hs0 h10 hane
  go_enter Try.func22, Try.ntmps22
  go_wp2_with (first
    | (go_at_call 33
       refine Hi.out.mono ?_
       rintro e w1 ⟨rfl, hb1⟩
       have hq0 := cell_later hb1 hc2
       have halt1 : a < w1.heap.size := by have := hb1.size; omega)
    | (at_builtin
       refine wpList_app _ rfl (.tmp 15) (.tmp 19) 44 rfl 64 i0 _ B 2 16 Try.underlying44 hi0 hz0 hz1 hz2 rfl (by omega) (.slice A r.cuts.length cap) r.cuts.length (r.cuts.map pairC).flatten rfl (((HH.out.below hb1).ownc).alloc _) (w1.heap.size + 1) (some ⟨w1.heap.size, 0, none⟩) 1 1 [[.int .i64 x, .int .i64 y]] rfl (Hr0.out w1) Hs0.out rfl H10.out hn0 hn1 (by simp; omega) ?_
       intro A1 c1 w2 hown2 hg2 hat2
       have hga : w2.heap[a]? = w1.heap[a]? := (hg2.block a (by simp; omega) Hane.out).trans (Below.heap_alloc _ _ _ halt1)
       have hq1 : w2.cell? ⟨a, 2, none⟩ = some (.slice A r.cuts.length cap) := (World.cell?_of_block (w := w1) (a := ⟨a, 2, none⟩) hga).trans hq0
       have hq2 : w2.frozen? ⟨a, 2, none⟩ = false := (World.frozen?_of_block (w := w1) (a := ⟨a, 2, none⟩) hga).trans ((hb1.frozen halt).trans hf2)
       have H2 := Lib.hid hown2; have HA := Lib.hid hga; have HT := Lib.hid hat2
       clear hown2 hga hat2))
  go_end0
  have hm := HH.out.below hb1
  have hgv : ∀ k, (Value.slice A1 (r.cuts.length + 1) c1).ownBlock = some k → (Value.slice A r.cuts.length cap).ownBlock = some k ∨ w1.heap.size ≤ k := fun k hk => by
    rcases HT.out with h1 | h1
    · left; rw [h1] at hk; exact hk
    · right; rw [h1] at hk
      have : (w1.alloc (.cells #[.int .i64 x, .int .i64 y] 64)).heap.size = k := Option.some.inj hk
      simp at this; omega
  have hov : w2.ownsRow B 34 4 v r.ps.length (r.ps.map Pkt.cells).flatten := own_keep hm.own fun k hk he => (hg2.block k (by simp; omega) (fun e => hm.vune k he e.symm)).trans (Below.heap_alloc _ _ _ hk)
  have hM := ref_setC (cs := r.cuts ++ [(x, y)]) (HA.out.trans hm.heap) hov (fun e => hm.avne e.symm) (by simpa [pairC] using H2.out) (fun e => by
    rcases hgv a e with h | h
    · exact Hane.out h.symm
    · omega) hba
  refine ⟨rfl, ⟨_, hM, ?_⟩, ?_⟩
  · refine RGrew.of ?_
    rcases HT.out with h1 | h1
    · exact .inl h1
    · exact .inr ⟨_, h1, by have := hb1.size; simp; omega⟩
  · exact (((Only.of_below hb1).trans (Only.of_below ((Below.refl _ w1).alloc (Nat.le_refl _) _)) (fun _ _ h => h)).trans (Only.of_grown (F := RFoot a v (.slice A r.cuts.length cap)) hg2 (fun k hk _ => .inr (.inr hk))) (fun _ _ h => h)).trans (only_setCell w2 _ _) (fun k _ h => .inl h)

set_option maxHeartbeats 1000000 in
theorem Packets_same (w : World) (A A' : Option Addr) (c c' n : Nat) (ps : List Pkt) (hn : ps.length = n) (hm : n ≤ 9223372036854775807) (h : RowAt w w.heap.size 4 A (ps.map Pkt.cells)) (h' : RowAt w w.heap.size 4 A' (ps.map Pkt.cells)) :
    Calls Try.prog 24 #[.slice A n c, .slice A' n c'] w fun e w' => e = .returned (.bool true) ∧ Below w.heap.size w w' := by
  have H := Lib.hid h; have H' := Lib.hid h'; clear h h'
  go_enter Try.func24, Try.ntmps24
  go_wp2
  go_loopw [5] (fun i wr => ∃ k : Nat, k ≤ n ∧ i = .int .i64 k ∧ Below w.heap.size w wr) (fun i _ => n - (intOf i).toNat)
  case atStart => exact ⟨0, Nat.zero_le _, rfl, Below.refl _ _⟩
  case round =>
    obtain ⟨k, hk, rfl, hbel⟩ := hrel
    by_cases hlt : k < n
    · obtain ⟨b, off, rfl, hb, h0, h1, h2, h3⟩ := pkt_cells (H.out.below hbel (Nat.le_refl _)) k (by omega)
      obtain ⟨b', off', rfl, hb', h0', h1', h2', h3'⟩ := pkt_cells (H'.out.below hbel (Nat.le_refl _)) k (by omega)
      go_wp2
      go_quiet (fail)
      go_wp2
      go_roundw
      case rel => exact ⟨k + 1, by omega, by go_num, hbel.trans ⟨rfl, rfl, rfl, Nat.le_refl _, fun _ _ => rfl⟩⟩
      case measure => simp [intOf]; omega
    · go_wp2
      go_ret
      exact ⟨rfl, hbel⟩
end Go.Proofs.Ytbgobcjnckoekaa
