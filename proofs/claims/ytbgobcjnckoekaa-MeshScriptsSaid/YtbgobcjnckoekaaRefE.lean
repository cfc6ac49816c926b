/- What is proved: the document's mesh: Join. -/
import Derived.Test.YtbgobcjnckoekaaRefD
namespace Go.Proofs.Ytbgobcjnckoekaa
open Go.RowKit

def keepAt (w : World) (B : Nat) (A : Option Addr) (c : Nat) (cs : List (Int × Int)) : Prop := w.ownsRow B 64 2 (.slice A cs.length c) cs.length (cs.map pairC).flatten
theorem del_step (l : List (Int × Int)) (x y : Int) (k : Nat) (hk : k < l.length) : delPair (l.take (k + 1)) x y = if sameB x y l[k] then delPair (l.take k) x y else delPair (l.take k) x y ++ [l[k]] := by
  unfold delPair
  rw [List.take_succ_eq_append_getElem hk, List.filter_append]
  cases h : sameB x y l[k] <;> simp [h]

set_option maxHeartbeats 2000000 in
theorem rJoin_any (w : World) (B a : Nat) (v u : Value) (r : R) (x y : Int) (h : RefAt w B a v u r) (hn : r.cuts.length ≤ 2000) :
    Calls Try.prog 23 #[.pointer (some ⟨a, 0, none⟩), .int .i64 x, .int .i64 y] w fun e w' => e = .returned (.tuple #[]) ∧
      (∃ u', RefAt w' B a v u' ⟨r.ps, r.last, delPair r.cuts x y⟩ ∧ RGrew w u u') ∧ Only (RFoot a v u) w w' := by
  obtain ⟨A, cap, rfl, _, hmax⟩ := own_shape h.ownc
  obtain ⟨i0, hi0, hz0, hz1, hz2⟩ := info_parts info64
  have hlen : r.cuts.length ≤ 9223372036854775807 := by omega
  have halt := h.alt
  have hc2 := h.c2
  have hf2 := h.fz 2
  have hba := h.ba
  have hr0 : ∀ (W : World) (p q : Int), RowAt (W.alloc (.cells #[.int .i64 p, .int .i64 q] 64)) (W.heap.size + 1) 2 (some ⟨W.heap.size, 0, none⟩) [[.int .i64 p, .int .i64 q]] := fun W p q => rowAt_one (t := 64) (fr := (0, 0)) (heap_alloc_new W _) (by omega)
  have hs0 : ∀ p q : Int, ∀ c ∈ [[Value.int .i64 p, .int .i64 q]], c.length = 2 := by simp
  have h10 : ∀ p q : Int, ∀ z ∈ [[Value.int .i64 p, .int .i64 q]].flatten, z.oneCell' = true := by
    intro p q z hz; simp at hz; rcases hz with rfl | rfl <;> rfl
  have hrow := h.rowc rfl
  have Hrow := Lib.hid hrow; have HH := Lib.hid h; have Hr0 := Lib.hid hr0; have Hs0 := Lib.hid hs0; have H10 := Lib.hid h10; clear hrow h hr0 hs0 h10
  go_enter Try.func23, Try.ntmps23
  go_wp2
  go_loopw [6, 7] (fun s i wr => ∃ (k : Nat) (A1 : Option Addr) (c1 : Nat), k ≤ r.cuts.length ∧ i = .int .i64 k ∧ s = .slice A1 (delPair (r.cuts.take k) x y).length c1 ∧ keepAt wr w.heap.size A1 c1 (delPair (r.cuts.take k) x y) ∧ Below w.heap.size w wr) (fun _ i _ => r.cuts.length - (intOf i).toNat)
  case atStart => exact ⟨0, none, 0, Nat.zero_le _, rfl, rfl, World.ownsRow_nil _ _ _ _, Below.refl _ _⟩
  case round =>
    obtain ⟨k, A1, c1, hk, rfl, rfl, hkeep, hbel⟩ := hrel
    have HK := Lib.hid hkeep; clear hkeep
    have r2 : wr.cell? ⟨a, 2, none⟩ = some (.slice A r.cuts.length cap) := (hbel.cell halt).trans hc2
    by_cases hlt : k < r.cuts.length
    · obtain ⟨b, off, rfl, hb, h0, h1⟩ := pair_cells (Hrow.out.below hbel (Nat.le_refl _)) k hlt
      have hst := Lib.hid (del_step r.cuts x y k hlt)
      have hsz := hbel.size
      have hcl : (delPair (r.cuts.take k) x y).length ≤ 2000 := by
        have h1 : (delPair (r.cuts.take k) x y).length ≤ (r.cuts.take k).length := List.length_filter_le _ _
        simp at h1; omega
      have hn0 : (delPair (r.cuts.take k) x y).length + 1 ≤ maxLen := by unfold maxLen; omega
      have hn1 : ((delPair (r.cuts.take k) x y).length + 1) * 16 ≤ 140737488355328 := by omega
      generalize hcs : delPair (r.cuts.take k) x y = cs at *
      go_wp2_with (first
        | (go_at_call 35
           refine (same_any r.cuts[k].1 r.cuts[k].2 x y _).mono ?_
           rintro e w1 ⟨rfl, hb1⟩
           have q2 : w1.cell? ⟨a, 2, none⟩ = some (.slice (some ⟨b, off, none⟩) r.cuts.length cap) := (hb1.cell (by show a < _; omega)).trans r2
           have q0 := (hb1.cell (by show b < _; omega)).trans h0
           have q1 := (hb1.cell (by show b < _; omega)).trans h1
           have hb1' : Below w.heap.size w w1 := hbel.trans (hb1.mono hbel.size)
           have ha1 : a < w1.heap.size := by have := hb1.size; omega
           have hb2 : b < w1.heap.size := by have := hb1.size; omega
           have hk1 : w1.ownsRow w.heap.size 64 2 (.slice A1 cs.length c1) cs.length (cs.map pairC).flatten := own_only HK.out (Only.of_below (F := fun _ => False) hb1) (fun _ _ h => h)
           have HK1 := Lib.hid hk1
           clear hk1)
        | (at_builtin
           refine wpList_app _ rfl (.tmp 28) (.tmp 36) 44 rfl 64 i0 _ w.heap.size 2 16 Try.underlying44 hi0 hz0 hz1 hz2 rfl (by omega) (.slice A1 cs.length c1) cs.length (cs.map pairC).flatten rfl (HK1.out.alloc _) (w1.heap.size + 1) (some ⟨w1.heap.size, 0, none⟩) 1 1 [[.int .i64 r.cuts[k].1, .int .i64 r.cuts[k].2]] rfl (Hr0.out w1 _ _) (Hs0.out _ _) rfl (H10.out _ _) hn0 hn1 (by have := hb1'.size; simp; omega) ?_
           intro A2 c2 w2 hown2 hg2 hat2
           have H2 := Lib.hid hown2
           clear hown2 hat2))
      · have hq : sameB x y r.cuts[k] = false := by
          have h : (!sameB x y (r.cuts[k].1, r.cuts[k].2)) = true := by assumption
          simpa using h
        have e : delPair (r.cuts.take (k + 1)) x y = cs ++ [r.cuts[k]] := by rw [hst.out, hq]; simp
        have hs1 := hb1'.size
        refine ⟨⟨k + 1, A2, c2, by omega, by go_num, by rw [e]; simp, ?_, ?_⟩, by simp [intOf]; omega⟩
        · unfold keepAt
          rw [e]
          simpa [pairC] using H2.out
        · refine hb1'.trans ⟨hg2.os, hg2.tape, hg2.output, Nat.le_trans (by simp) hg2.size, fun j hj => (hg2.block j (by simp; omega) (fun e => ?_)).trans (Below.heap_alloc _ _ _ (by omega))⟩
          have := (HK1.out.lt j e.symm).1
          omega
      · have hq : sameB x y r.cuts[k] = true := by
          have h : (!sameB x y (r.cuts[k].1, r.cuts[k].2)) = false := by assumption
          simpa using h
        have e : delPair (r.cuts.take (k + 1)) x y = cs := by rw [hst.out, hq]; simp
        exact ⟨⟨k + 1, A1, c1, by omega, by go_num, by rw [e], by rw [e]; exact HK1.out, hb1'⟩, by simp [intOf]; omega⟩
    · have hke : k = r.cuts.length := by omega
      subst hke
      have htk : r.cuts.take r.cuts.length = r.cuts := List.take_length
      rw [htk] at HK
      rw [htk]
      have hf2' : wr.frozen? ⟨a, 2, none⟩ = false := (hbel.frozen halt).trans hf2
      generalize hcs : delPair r.cuts x y = cs at *
      go_wp2
      go_end0
      have hm := HH.out.below hbel
      have hnew : ∀ k, (Value.slice A1 cs.length c1).ownBlock = some k → w.heap.size ≤ k := fun k hk => (World.ownsRow.lt HK.out k hk).1
      have hM := ref_setC (cs := cs) hm.heap hm.own (fun e => hm.avne e.symm) (own_base HK.out (by omega)) (fun e => by have := hnew _ e; omega) hba
      exact ⟨rfl, ⟨_, by rw [hcs]; exact hM, fun k hk => .inr (hnew k hk)⟩, (Only.of_below hbel).trans (only_setCell wr _ _) (fun k _ h => .inl h)⟩
end Go.Proofs.Ytbgobcjnckoekaa
