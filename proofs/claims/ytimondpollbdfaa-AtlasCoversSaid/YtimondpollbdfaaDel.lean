/- What is proved: slices.Delete at one span of a row that is owned. -/
import Derived.Test.YtimondpollbdfaaClone
import Derived.Test.YtimondpollbdfaaMem2
import Derived.StillTailTactics
set_option linter.unusedVariables false
set_option linter.unusedSimpArgs false
namespace Go.Proofs.Ytimondpollbdfaa
open Go.RowKit
theorem zero50 (w : World) : (zeroValue 50).run Try.prog w = .ok (.agg #[.string ⟨#[]⟩, .string ⟨#[]⟩, .int .i64 0, .int .i64 0, .int .i64 0]) w := by simp
theorem spans_one_drop (ps : List Span) (k : Nat) : ∀ u ∈ (ps.map Span.cells).flatten.drop k, u.oneCell' = true := fun u hu => spans_one ps u (List.mem_of_mem_drop hu)
theorem erase_cells (ps : List Span) (i : Nat) : ((ps.eraseIdx i).map Span.cells).flatten = (ps.map Span.cells).flatten.take (i * 5) ++ (ps.map Span.cells).flatten.drop ((i + 1) * 5) := by
  have h : (ps.eraseIdx i).map Span.cells = (ps.map Span.cells).eraseIdx i := by
    simp [List.eraseIdx_eq_take_drop_succ, List.map_take, List.map_drop]
  rw [h, flat_erase _ (span_len ps)]

theorem clear50 {w : World} {B g n cap : Nat} {xs : List Value} (hown : w.ownsRow B 50 5 (.slice (some ⟨g, 0, none⟩) n cap) n xs) (k c : Nat) (hk : n + k ≤ cap) (h0 : 0 < k) :
    ∃ w', (Builtin.clear_ #[22] 0 #[.slice (some ⟨g, n * 5, none⟩) k c]).run Try.prog w = .ok (.tuple #[]) w' ∧ w'.ownsRow B 50 5 (.slice (some ⟨g, 0, none⟩) n cap) n xs ∧ w.grownBy w' (some g) :=
  run_clear_behind (P := Try.prog) 22 0 (.agg #[.string ⟨#[]⟩, .string ⟨#[]⟩, .int .i64 0, .int .i64 0, .int .i64 0]) Try.underlying22 zero50 rfl (by
    intro u hu; simp [Value.cells] at hu; rcases hu with rfl | rfl <;> rfl) (show 0 < 5 from by omega) hown k c hk h0

set_option maxRecDepth 100000 in
set_option maxHeartbeats 2000000 in
theorem Delete_last (w : World) (B g i : Nat) (ps : List Span) (hl : ps.length = i + 1) (hown : w.ownsRow B 50 5 (.slice (some ⟨g, 0, none⟩) (i + 1) (i + 1)) (i + 1) (ps.map Span.cells).flatten)
    (hmax : i + 1 ≤ 9223372036854775807) :
    Calls Try.prog 45 #[.slice (some ⟨g, 0, none⟩) (i + 1) (i + 1), .int .i64 i, .int .i64 ((i : Int) + 1)] w fun e w' => e = .returned (.slice (some ⟨g, 0, none⟩) i (i + 1)) ∧
      w'.ownsRow B 50 5 (.slice (some ⟨g, 0, none⟩) i (i + 1)) i ((ps.eraseIdx i).map Span.cells).flatten ∧ w.grownBy w' (some g) := by
  obtain ⟨i0, hi, hz0, hz1, hz2⟩ := info_parts info50
  have hlen : (ps.map Span.cells).flatten.length = (i + 1) * 5 := by rw [flat_len _ (span_len ps)]; simp [hl]
  have hownd : w.drew.ownsRow B 50 5 (.slice (some ⟨g, 0, none⟩) (i + 1) (i + 1)) (i + 1) (ps.map Span.cells).flatten := hown
  have ht := own_take hownd (i := i) (by omega)
  have hd : ((ps.map Span.cells).flatten.drop ((i + 1) * 5)).length = 0 * 5 := by rw [List.length_drop, hlen]; omega
  have hn : ∀ j u, ((ps.map Span.cells).flatten.drop ((i + 1) * 5))[j]? = some u → w.drew.cell? ((⟨g, 0, none⟩ : Addr).add j) = some u := fun j u hu => by
    have := (List.getElem?_eq_some_iff.1 hu).1
    omega
  have Hd := Lib.hid hd
  have Hn := Lib.hid hn
  have Ho := Lib.hid (spans_one_drop ps ((i + 1) * 5))
  have hroom : i + 0 ≤ i + 1 := by omega
  clear hlen hd hn
  have hne : ((i : Int) == (i : Int) + 1) = false := by simp; omega
  have hic : i ≤ i + 1 := by omega
  have hic3 : 0 ≤ (i : Int) + 1 := by omega
  have hic4 : (i : Int) ≤ (i : Int) + 1 := by omega
  go_enter Try.func45, Try.ntmps45
  go_wp2_with fail
  go_still_tail 6, (by kernel_rfl)
  change wpList _ _ _ _ _ w.drew
  go_wp2_with (at_builtin; refine wpList_fits rfl (.tmp 22) (.tmp 25) 22 rfl i0 Try.underlying22 hi hz1 rfl ht _ 0 _ ((ps.map Span.cells).flatten.drop ((i + 1) * 5)) rfl Hd.out Hn.out Ho.out hroom ?_; intro w1 hown1 hg1)
  have hown1' : w1.ownsRow B 50 5 (.slice (some ⟨g, 0, none⟩) i (i + 1)) i ((ps.map Span.cells).flatten.take (i * 5) ++ (ps.map Span.cells).flatten.drop ((i + 1) * 5)) := hown1
  obtain ⟨w2, hrun, hown2, hg2⟩ := clear50 hown1' 1 1 (by omega) (by omega)
  rw [hrun]
  clear hrun
  go_wp2
  go_ret
  exact ⟨rfl, by rw [erase_cells]; exact hown2, ⟨hg2.os.trans hg1.os, hg2.tape.trans hg1.tape, hg2.output.trans hg1.output, Nat.le_trans hg1.size hg2.size, fun k hk hne => (hg2.block k (Nat.lt_of_lt_of_le hk hg1.size) hne).trans (hg1.block k hk hne)⟩⟩

set_option maxRecDepth 100000 in
set_option maxHeartbeats 2000000 in
theorem Delete_aux (w : World) (B g cap i m : Nat) (ps : List Span) (hl : ps.length = i + 1 + m) (hown : w.ownsRow B 50 5 (.slice (some ⟨g, 0, none⟩) (i + 1 + m) cap) (i + 1 + m) (ps.map Span.cells).flatten)
    (hcap : i + 1 + m ≤ cap) (hmax : cap ≤ 9223372036854775807) :
    Calls Try.prog 45 #[.slice (some ⟨g, 0, none⟩) (i + 1 + m) cap, .int .i64 i, .int .i64 ((i : Int) + 1)] w fun e w' => e = .returned (.slice (some ⟨g, 0, none⟩) (i + m) cap) ∧
      w'.ownsRow B 50 5 (.slice (some ⟨g, 0, none⟩) (i + m) cap) (i + m) ((ps.eraseIdx i).map Span.cells).flatten ∧ w.grownBy w' (some g) := by
  obtain ⟨i0, hi, hz0, hz1, hz2⟩ := info_parts info50
  have hlen : (ps.map Span.cells).flatten.length = (i + 1 + m) * 5 := by rw [flat_len _ (span_len ps)]; simp [hl]
  have hownd : w.drew.ownsRow B 50 5 (.slice (some ⟨g, 0, none⟩) (i + 1 + m) cap) (i + 1 + m) (ps.map Span.cells).flatten := hown
  have ht := own_take hownd (i := i) (by omega)
  have hd : ((ps.map Span.cells).flatten.drop ((i + 1) * 5)).length = m * 5 := by rw [List.length_drop, hlen]; omega
  have Hd := Lib.hid hd
  have Hn := Lib.hid (own_cell hownd (k := (i + 1) * 5))
  have Ho := Lib.hid (spans_one_drop ps ((i + 1) * 5))
  have hroom : i + m ≤ cap := by omega
  clear hlen hd
  have hic : i ≤ cap := by omega
  have hic1 : i + 1 ≤ cap := by omega
  have hic2 : i + 1 ≤ i + 1 + m := by omega
  have hic3 : 0 ≤ (i : Int) + 1 := by omega
  have hic4 : (i : Int) + 1 ≤ (i : Int) + 1 + (m : Int) := by omega
  have hic5 : (i : Int) + 1 ≤ (cap : Int) := by omega
  by_cases hc : cap = i + 1
  · obtain rfl : m = 0 := by omega
    subst hc
    exact Delete_last w B g i ps hl hown (by omega)
  · have hne : (cap == i + 1) = false := by simpa using hc
    go_enter Try.func45, Try.ntmps45
    go_wp2_with fail
    go_still_tail 6, (by kernel_rfl)
    change wpList _ _ _ _ _ w.drew
    go_wp2_with (at_builtin; refine wpList_fits rfl (.tmp 22) (.tmp 25) 22 rfl i0 Try.underlying22 hi hz1 rfl ht _ _ _ ((ps.map Span.cells).flatten.drop ((i + 1) * 5)) rfl Hd.out Hn.out Ho.out hroom ?_; intro w1 hown1 hg1)
    obtain ⟨w2, hrun, hown2, hg2⟩ := clear50 hown1 (i + 1 + m - (i + m)) (cap - (i + m)) (by omega) (by omega)
    rw [hrun]
    clear hrun
    go_wp2
    go_ret
    exact ⟨rfl, by rw [erase_cells]; exact hown2, ⟨hg2.os.trans hg1.os, hg2.tape.trans hg1.tape, hg2.output.trans hg1.output, Nat.le_trans hg1.size hg2.size, fun k hk hne => (hg2.block k (Nat.lt_of_lt_of_le hk hg1.size) hne).trans (hg1.block k hk hne)⟩⟩

/-- Deleting the span at place i of a row that is owned. -/
theorem Delete_any (w : World) (B n cap i : Nat) (A : Option Addr) (ps : List Span) (hl : ps.length = n) (hown : w.ownsRow B 50 5 (.slice A n cap) n (ps.map Span.cells).flatten) (hi : i < n) :
    Calls Try.prog 45 #[.slice A n cap, .int .i64 i, .int .i64 ((i : Int) + 1)] w fun e w' => ∃ A' cap', e = .returned (.slice A' (ps.eraseIdx i).length cap') ∧
      w'.ownsRow B 50 5 (.slice A' (ps.eraseIdx i).length cap') (ps.eraseIdx i).length ((ps.eraseIdx i).map Span.cells).flatten ∧ (Value.slice A' (ps.eraseIdx i).length cap').ownBlock = (Value.slice A n cap).ownBlock ∧ w.grownBy w' (Value.slice A n cap).ownBlock := by
  obtain ⟨m, rfl⟩ : ∃ m, n = i + 1 + m := ⟨n - (i + 1), by omega⟩
  obtain ⟨g, cap', hv, _, _⟩ := hown.form (by omega)
  injection hv with h1 h2 h3
  subst h1
  subst h3
  rcases hown.2 with ⟨h4, _⟩ | ⟨g', cap', cur, h4, _, _, hcap, hmax, _⟩
  · cases h4
  · injection h4 with h5 h6 h7
    subst h7
    have hle : (ps.eraseIdx i).length = i + m := by rw [List.length_eraseIdx]; split <;> omega
    refine (Delete_aux w B g cap i m ps hl hown hcap (by unfold maxLen at hmax; exact hmax)).mono fun e w' ⟨h8, h9, h10⟩ => ?_
    exact ⟨_, _, by rw [hle]; exact h8, by rw [hle]; exact h9, rfl, h10⟩
end Go.Proofs.Ytimondpollbdfaa
