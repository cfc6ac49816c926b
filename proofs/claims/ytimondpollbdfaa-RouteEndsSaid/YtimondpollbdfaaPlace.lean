/- What is proved: where a shard's span is: both programs' place. -/
import Derived.Test.YtimondpollbdfaaNamed
set_option linter.unusedVariables false
set_option linter.unusedSimpArgs false
namespace Go.Proofs.Ytimondpollbdfaa
open Go.RowKit
attribute [local go_sem] Span.val Atl.val

def hasSh (x : Int) (s : Span) : Bool := s.sh == x

set_option maxHeartbeats 1000000 in
theorem placeCl_any (s : Span) (x : Int) (c : Nat) (w : World) (hc : w.cell? ⟨c, 0, none⟩ = some (.int .i64 x)) (hlt : c < w.heap.size) :
    Calls Try.prog 65 #[s.val, .pointer (some ⟨c, 0, none⟩)] w fun e w' => e = .returned (.bool (hasSh x s)) ∧ Below w.heap.size w w' := by
  have hlt1 : c < w.heap.size + 1 := by omega
  have hne : c ≠ w.heap.size := by omega
  go_enter Try.func65, Try.ntmps65
  go_wp2
  go_ret
  exact ⟨rfl, (Below.refl _ _).alloc (Nat.le_refl _) _⟩

set_option maxHeartbeats 1000000 in
theorem placeIdx_any (w : World) (A : Option Addr) (cap c : Nat) (l : List Span) (x : Int) (hrow : RowAt w w.heap.size 5 A (l.map Span.cells)) (hlen : l.length ≤ 9223372036854775807)
    (hc : w.cell? ⟨c, 0, none⟩ = some (.int .i64 x)) (hlt : c < w.heap.size) :
    Calls Try.prog 54 #[.slice A l.length cap, .func (.func 65) #[] #[.pointer (some ⟨c, 0, none⟩)]] w fun e w' => e = .returned (.int .i64 (idxOf (hasSh x) l)) ∧ Below w.heap.size w w' := by
  have Hrow := Lib.hid hrow; clear hrow
  go_enter Try.func54, Try.ntmps54
  go_wp2
  go_loopw [8] (fun i wr => ∃ k : Nat, k ≤ l.length ∧ (∀ j (_ : j < k) (h' : j < l.length), hasSh x l[j] = false) ∧ i = .int .i64 k ∧ Below w.heap.size w wr) (fun i _ => l.length - (intOf i).toNat)
  case atStart => exact ⟨0, Nat.zero_le _, fun j h => absurd h (by omega), rfl, Below.refl _ _⟩
  case round =>
    obtain ⟨k, hk, hno, rfl, hbel⟩ := hrel
    have hno' := Lib.hid hno; clear hno
    by_cases hlt2 : k < l.length
    · obtain ⟨b, off, rfl, hb, h0, h1, h2, h3, h4⟩ := span_cells (Hrow.out.below hbel (Nat.le_refl _)) k hlt2
      have hcw : wr.cell? ⟨c, 0, none⟩ = some (.int .i64 x) := (hbel.cell hlt).trans hc
      have hltw : c < wr.heap.size := Nat.lt_of_lt_of_le hlt hbel.size
      go_wp2_with (go_at_call 65; refine (placeCl_any l[k] x c _ hcw hltw).mono ?_; rintro e w1 ⟨rfl, hb1⟩)
      · have hq : hasSh x l[k] = true := by assumption
        go_ret
        exact ⟨ret_int (idxOf_found hlt2 hno'.out hq).symm, hbel.trans (hb1.mono hbel.size)⟩
      · have hq : hasSh x l[k] = false := by assumption
        go_roundw
        case rel => exact ⟨k + 1, by omega, fun j hj hj' => by
          rcases Nat.lt_succ_iff_lt_or_eq.1 hj with h | h
          · exact hno'.out j h hj'
          · subst h; exact hq, by go_num, hbel.trans (hb1.mono hbel.size)⟩
        case measure => simp [intOf]; omega
    · have hp := Lib.hid (idxOf_none (q := hasSh x) (l := l) fun j hj => hno'.out j (by omega) hj)
      go_wp2
      go_ret
      exact ⟨ret_int hp.out.symm, hbel⟩

def place (l : List Span) (x : Int) : Int := idxOf (hasSh x) l

set_option maxHeartbeats 1000000 in
theorem place_any (w : World) (A : Option Addr) (cap : Nat) (a : Atl) (x : Int) (hrow : RowAt w w.heap.size 5 A (a.sp.map Span.cells)) (hlen : a.sp.length ≤ 9223372036854775807) :
    Calls Try.prog 41 #[a.val (.slice A a.sp.length cap), .int .i64 x] w fun e w' => e = .returned (.int .i64 (place a.sp x)) ∧ Below w.heap.size w w' := by
  have Hrow := Lib.hid hrow; clear hrow
  have hb2 : ∀ o, Below w.heap.size w ((w.alloc o).alloc (.cells #[.int .i64 x] 3)) := fun o => ((Below.refl _ _).alloc (Nat.le_refl _) o).alloc (by simp) _
  have hc2 : ∀ o, ((w.alloc o).alloc (.cells #[.int .i64 x] 3)).cell? ⟨w.heap.size + 1, 0, none⟩ = some (.int .i64 x) := fun o => by
    have := heap_alloc_new (w.alloc o) (.cells #[.int .i64 x] 3)
    simp at this
    simp [World.cell?, this]
  have Hb2 := Lib.hid hb2; have Hc2 := Lib.hid hc2; clear hb2 hc2
  go_enter Try.func41, Try.ntmps41
  go_wp2_with (go_at_call 54; refine (placeIdx_any _ A cap (w.heap.size + 1) a.sp x (Hrow.out.below (Hb2.out _) (Nat.le_refl _) |>.more (by simp; omega)) hlen (Hc2.out _) (by simp)).mono ?_; rintro e w1 ⟨rfl, hb1⟩)
  go_ret
  exact ⟨rfl, (Hb2.out _).trans (hb1.mono (by simp; omega))⟩

set_option maxHeartbeats 1000000 in
theorem rPlace_any (w : World) (A : Option Addr) (cap : Nat) (a : Atl) (x : Int) (hrow : RowAt w w.heap.size 5 A (a.sp.map Span.cells)) (hlen : a.sp.length ≤ 9223372036854775807) :
    Calls Try.prog 32 #[a.val (.slice A a.sp.length cap), .int .i64 x] w fun e w' => e = .returned (.int .i64 (place a.sp x)) ∧ Below w.heap.size w w' := by
  have Hrow := Lib.hid hrow; clear hrow
  go_enter Try.func32, Try.ntmps32
  go_wp2
  have hrow1 := Hrow.out.below (al (w := w) (a.blk (.slice A a.sp.length cap))) (Nat.le_refl _)
  have hb0 := al (w := w) (a.blk (.slice A a.sp.length cap))
  obtain ⟨_, _, hc2, _, _, _, _, _, _, _, _, hlt0⟩ := map_cells (heap_alloc_new w (a.blk (.slice A a.sp.length cap)))
  change Code.wp _ _ _ _ (w.alloc (a.blk (.slice A a.sp.length cap)))
  generalize w.alloc (a.blk (.slice A a.sp.length cap)) = w1 at *
  generalize hg : w.heap.size = g at *
  have Hrow1 := Lib.hid hrow1
  clear Hrow hrow1
  go_loopw [5] (fun i wr => ∃ k : Nat, k ≤ a.sp.length ∧ (∀ j (_ : j < k) (h' : j < a.sp.length), hasSh x a.sp[j] = false) ∧ i = .int .i64 k ∧ wr = w1) (fun i _ => a.sp.length - (intOf i).toNat)
  case atStart => exact ⟨0, Nat.zero_le _, fun j h => absurd h (by omega), rfl, rfl⟩
  case round =>
    obtain ⟨k, hk, hno, rfl, rfl⟩ := hrel
    have hno' := Lib.hid hno; clear hno
    by_cases hlt2 : k < a.sp.length
    · obtain ⟨b, off, rfl, hb, h0, h1, h2, h3, h4⟩ := span_cells Hrow1.out k hlt2
      cases hq : ((a.sp[k]).sh == x)
      · go_wp2
        go_roundw
        case rel => exact ⟨k + 1, by omega, fun j hj hj' => by
          rcases Nat.lt_succ_iff_lt_or_eq.1 hj with h | h
          · exact hno'.out j h hj'
          · subst h; exact hq, by go_num, trivial⟩
        case measure => simp [intOf]; omega
      · go_wp2
        go_ret
        exact ⟨ret_int (idxOf_found hlt2 hno'.out hq).symm, hg ▸ hb0⟩
    · have hp := Lib.hid (idxOf_none (q := hasSh x) (l := a.sp) fun j hj => hno'.out j (by omega) hj)
      go_wp2
      go_ret
      exact ⟨ret_int hp.out.symm, hg ▸ hb0⟩
end Go.Proofs.Ytimondpollbdfaa
