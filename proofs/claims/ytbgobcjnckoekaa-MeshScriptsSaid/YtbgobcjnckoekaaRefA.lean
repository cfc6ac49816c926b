/- What is proved: what the document's mesh is in memory; its same, IsCut and Find. -/
import Derived.Test.YtbgobcjnckoekaaIds
namespace Go.Proofs.Ytbgobcjnckoekaa
open Go.RowKit

def pairC (p : Int × Int) : List Value := [.int .i64 p.1, .int .i64 p.2]
def pairV (p : Int × Int) : Value := .agg #[.int .i64 p.1, .int .i64 p.2]
def sameB (x y : Int) (p : Int × Int) : Bool := (p.1 == x && p.2 == y) || (p.1 == y && p.2 == x)
def isCut (l : List (Int × Int)) (x y : Int) : Bool := l.any (sameB x y)

structure R where
  ps : List Pkt
  last : Int
  cuts : List (Int × Int)

structure RefAt (w : World) (B a : Nat) (v u : Value) (r : R) : Prop where
  heap : w.heap[a]? = some (.cells #[v, .int .i64 r.last, u] 46 (0, 0))
  own : w.ownsRow B 34 4 v r.ps.length (r.ps.map Pkt.cells).flatten
  ownc : w.ownsRow B 64 2 u r.cuts.length (r.cuts.map pairC).flatten
  ba : B ≤ a

theorem pairs_len (l : List (Int × Int)) : ∀ c ∈ l.map pairC, c.length = 2 := by
  intro c hc; obtain ⟨p, _, rfl⟩ := List.mem_map.1 hc; rfl
def RFoot (a : Nat) (v u : Value) (k : Nat) : Prop := k = a ∨ v.ownBlock = some k ∨ u.ownBlock = some k
section
variable {w : World} {B a : Nat} {v u : Value} {r : R}
theorem RefAt.alt (h : RefAt w B a v u r) : a < w.heap.size := by
  rcases Nat.lt_or_ge a w.heap.size with h1 | h1
  · exact h1
  · have := h.heap; rw [Array.getElem?_eq_none h1] at this; cases this
theorem RefAt.c0 (h : RefAt w B a v u r) : w.cell? ⟨a, 0, none⟩ = some v := by simp [World.cell?, h.heap]
theorem RefAt.c1 (h : RefAt w B a v u r) : w.cell? ⟨a, 1, none⟩ = some (.int .i64 r.last) := by simp [World.cell?, h.heap]
theorem RefAt.c2 (h : RefAt w B a v u r) : w.cell? ⟨a, 2, none⟩ = some u := by simp [World.cell?, h.heap]
theorem RefAt.fz (h : RefAt w B a v u r) (o : Nat) : w.frozen? ⟨a, o, none⟩ = false := by simp [World.frozen?, h.heap]
theorem RefAt.row (h : RefAt w B a v u r) {A : Option Addr} {cap : Nat} (hv : v = .slice A r.ps.length cap) : RowAt w w.heap.size 4 A (r.ps.map Pkt.cells) :=
  rowAt_of_own h.own hv (cells_len _) (by simp)
theorem RefAt.rowc (h : RefAt w B a v u r) {A : Option Addr} {cap : Nat} (hv : u = .slice A r.cuts.length cap) : RowAt w w.heap.size 2 A (r.cuts.map pairC) :=
  rowAt_of_own h.ownc hv (pairs_len _) (by simp)
theorem own_keep {w w' : World} {base : Nat} {e : TypeId} {size : Nat} {v : Value} {n : Nat} {xs : List Value} (h : w.ownsRow base e size v n xs) (hk : ∀ k, k < w.heap.size → v.ownBlock = some k → w'.heap[k]? = w.heap[k]?) : w'.ownsRow base e size v n xs := by
  refine ⟨h.1, ?_⟩
  rcases h.2 with h2 | ⟨g, cap, cur, hv, hb, hg, r⟩
  · exact .inl h2
  · exact .inr ⟨g, cap, cur, hv, hb, (hk g (h.lt g (by rw [hv]; rfl)).2 (by rw [hv]; rfl)).trans hg, r⟩
theorem RefAt.keep {w' : World} (h : RefAt w B a v u r) (hk : ∀ k, k < w.heap.size → RFoot a v u k → w'.heap[k]? = w.heap[k]?) : RefAt w' B a v u r :=
  ⟨(hk a h.alt (.inl rfl)).trans h.heap, own_keep h.own fun k hl he => hk k hl (.inr (.inl he)), own_keep h.ownc fun k hl he => hk k hl (.inr (.inr he)), h.ba⟩
theorem RefAt.below {w' : World} (h : RefAt w B a v u r) (hb : Below w.heap.size w w') : RefAt w' B a v u r := h.keep fun k hk _ => hb.block k hk
theorem RefAt.only {w' : World} {F : Nat → Prop} (h : RefAt w B a v u r) (hb : Only F w w') (hF : ∀ k, F k → ¬ RFoot a v u k) : RefAt w' B a v u r :=
  h.keep fun k hk hf => hb.block k hk (fun hF' => hF k hF' hf)
theorem RefAt.foot (h : RefAt w B a v u r) : ∀ k, RFoot a v u k → B ≤ k := by
  rintro k (rfl | hk | hk)
  · exact h.ba
  · exact (h.own.lt k hk).1
  · exact (h.ownc.lt k hk).1
theorem RefAt.footLt (h : RefAt w B a v u r) : ∀ k, RFoot a v u k → k < w.heap.size := by
  rintro k (rfl | hk | hk)
  · exact h.alt
  · exact (h.own.lt k hk).2
  · exact (h.ownc.lt k hk).2
theorem own_type {w : World} {base : Nat} {e : TypeId} {size : Nat} {v : Value} {n : Nat} {xs : List Value} (h : w.ownsRow base e size v n xs) {k : Nat} (hk : v.ownBlock = some k) : ∃ cur fr, w.heap[k]? = some (.cells cur e fr) := by
  rcases h.2 with ⟨hv, _⟩ | ⟨g, cap, cur, hv, _, hg, _⟩
  · subst hv; simp [Value.ownBlock] at hk
  · subst hv; simp [Value.ownBlock] at hk; subst hk; exact ⟨_, _, hg⟩
theorem RefAt.avne (h : RefAt w B a v u r) : some a ≠ v.ownBlock := by
  intro he
  obtain ⟨cur, fr, hg⟩ := own_type h.own he.symm
  rw [h.heap] at hg; injection hg with hg; injection hg with _ ht; exact absurd ht (by decide)
theorem RefAt.aune (h : RefAt w B a v u r) : some a ≠ u.ownBlock := by
  intro he
  obtain ⟨cur, fr, hg⟩ := own_type h.ownc he.symm
  rw [h.heap] at hg; injection hg with hg; injection hg with _ ht; exact absurd ht (by decide)
theorem RefAt.vune (h : RefAt w B a v u r) : ∀ k, v.ownBlock = some k → u.ownBlock ≠ some k := by
  intro k he hf
  obtain ⟨cur, fr, hg⟩ := own_type h.own he
  obtain ⟨cur', fr', hg'⟩ := own_type h.ownc hf
  rw [hg] at hg'; injection hg' with hg'; injection hg' with _ ht; exact absurd ht (by decide)
end

theorem pair_cells {w : World} {B : Nat} {A : Option Addr} {l : List (Int × Int)} (h : RowAt w B 2 A (l.map pairC)) (k : Nat) (hk : k < l.length) :
    ∃ b off, A = some ⟨b, off, none⟩ ∧ b < B ∧ w.cell? ⟨b, off + k * 2, none⟩ = some (.int .i64 l[k].1) ∧ w.cell? ⟨b, off + k * 2 + 1, none⟩ = some (.int .i64 l[k].2) := by
  obtain ⟨b, off, hA, hb, hc⟩ := h k (pairC l[k]) (by simp [hk])
  exact ⟨b, off, hA, hb, hc 0 _ rfl, hc 1 _ rfl⟩

set_option maxHeartbeats 1000000 in
theorem same_any (p q x y : Int) (w : World) :
    Calls Try.prog 35 #[.agg #[.int .i64 p, .int .i64 q], .int .i64 x, .int .i64 y] w fun e w' => e = .returned (.bool (sameB x y (p, q))) ∧ Below w.heap.size w w' := by
  have hb : ∀ o, Below w.heap.size w (w.alloc o) := fun o => (Below.refl _ _).alloc (Nat.le_refl _) o
  cases e1 : (p == x) <;> cases e2 : (q == y) <;> cases e3 : (p == y) <;> cases e4 : (q == x)
  all_goals
    have hv : sameB x y (p, q) = ((p == x && q == y) || (p == y && q == x)) := rfl
    rw [e1, e2, e3, e4] at hv
    have hv := Lib.hid hv
    go_enter Try.func35, Try.ntmps35
    go_wp2
    go_ret
    exact ⟨by rw [hv.out]; rfl, hb _⟩

set_option maxHeartbeats 1000000 in
theorem IsCut_any (w : World) (B a : Nat) (v u : Value) (r : R) (x y : Int) (h : RefAt w B a v u r) :
    Calls Try.prog 33 #[.pointer (some ⟨a, 0, none⟩), .int .i64 x, .int .i64 y] w fun e w' => e = .returned (.bool (isCut r.cuts x y)) ∧ Below w.heap.size w w' := by
  obtain ⟨A, cap, rfl, _, hmax⟩ := own_shape h.ownc
  have hlen : r.cuts.length ≤ 9223372036854775807 := by unfold maxLen at hmax; exact hmax
  have halt := h.alt
  have hc2 := h.c2
  have hrow := h.rowc rfl
  have Hrow := Lib.hid hrow
  clear hrow h
  go_enter Try.func33, Try.ntmps33
  go_wp2
  go_loopw [7] (fun i wr => ∃ k : Nat, k ≤ r.cuts.length ∧ (∀ j (_ : j < k) (h' : j < r.cuts.length), sameB x y r.cuts[j] = false) ∧ i = .int .i64 k ∧ Below w.heap.size w wr) (fun i _ => r.cuts.length - (intOf i).toNat)
  case atStart => exact ⟨0, Nat.zero_le _, fun j h => absurd h (by omega), rfl, Below.refl _ _⟩
  case round =>
    obtain ⟨k, hk, hno, rfl, hbel⟩ := hrel
    have hno' := Lib.hid hno; clear hno
    have r2 : wr.cell? ⟨a, 2, none⟩ = some (.slice A r.cuts.length cap) := (hbel.cell halt).trans hc2
    by_cases hlt : k < r.cuts.length
    · obtain ⟨b, off, rfl, hb, h0, h1⟩ := pair_cells (Hrow.out.below hbel (Nat.le_refl _)) k hlt
      go_wp2_with (go_at_call 35; refine (same_any r.cuts[k].1 r.cuts[k].2 x y _).mono ?_; rintro e w1 ⟨rfl, hb1⟩)
      · have hq : sameB x y r.cuts[k] = true := by assumption
        go_ret
        refine ⟨ret_bool (Eq.symm ?_), hbel.trans (hb1.mono hbel.size)⟩
        exact List.any_eq_true.2 ⟨_, List.getElem_mem hlt, hq⟩
      · have hq : sameB x y r.cuts[k] = false := by assumption
        go_roundw
        case rel => exact ⟨k + 1, by omega, fun j hj hj' => by
          rcases Nat.lt_succ_iff_lt_or_eq.1 hj with h | h
          · exact hno'.out j h hj'
          · subst h; exact hq, by go_num, hbel.trans (hb1.mono hbel.size)⟩
        case measure => simp [intOf]; omega
    · have hp : isCut r.cuts x y = false := by
        unfold isCut
        rw [List.any_eq_false]
        intro p hp
        obtain ⟨j, hj, rfl⟩ := List.getElem_of_mem hp
        simp [hno'.out j (by omega) hj]
      have Hp := Lib.hid hp; clear hp
      go_wp2
      go_ret
      exact ⟨ret_bool Hp.out.symm, hbel⟩

set_option maxHeartbeats 1000000 in
theorem rFind_any (w : World) (B a : Nat) (v u : Value) (r : R) (id : Int) (h : RefAt w B a v u r) :
    Calls Try.prog 32 #[.pointer (some ⟨a, 0, none⟩), .int .i64 id] w fun e w' => e = .returned (.int .i64 (idxOf (hasId id) r.ps)) ∧ Below w.heap.size w w' := by
  obtain ⟨A, cap, rfl, _, hmax⟩ := own_shape h.own
  have hlen : r.ps.length ≤ 9223372036854775807 := by unfold maxLen at hmax; exact hmax
  have halt := h.alt
  have hc0 := h.c0
  have hrow := h.row rfl
  have Hrow := Lib.hid hrow
  clear hrow h
  go_enter Try.func32, Try.ntmps32
  go_wp2
  go_loopw [5] (fun i wr => ∃ k : Nat, k ≤ r.ps.length ∧ (∀ j (_ : j < k) (h' : j < r.ps.length), hasId id r.ps[j] = false) ∧ i = .int .i64 k ∧ Below w.heap.size w wr) (fun i _ => r.ps.length - (intOf i).toNat)
  case atStart => exact ⟨0, Nat.zero_le _, fun j h => absurd h (by omega), rfl, Below.refl _ _⟩
  case round =>
    obtain ⟨k, hk, hno, rfl, hbel⟩ := hrel
    have hno' := Lib.hid hno; clear hno
    have r0 : wr.cell? ⟨a, 0, none⟩ = some (.slice A r.ps.length cap) := (hbel.cell halt).trans hc0
    by_cases hlt : k < r.ps.length
    · obtain ⟨b, off, rfl, hb, h0, h1, h2, h3⟩ := pkt_cells (Hrow.out.below hbel (Nat.le_refl _)) k hlt
      cases hq : (r.ps[k].id == id)
      · go_wp2
        go_roundw
        case rel => exact ⟨k + 1, by omega, fun j hj hj' => by
          rcases Nat.lt_succ_iff_lt_or_eq.1 hj with h | h
          · exact hno'.out j h hj'
          · subst h; exact hq, by go_num, hbel⟩
        case measure => simp [intOf]; omega
      · go_wp2
        go_ret
        exact ⟨ret_int (idxOf_found hlt hno'.out hq).symm, hbel⟩
    · have hp := Lib.hid (idxOf_none (q := hasId id) (l := r.ps) fun j hj => hno'.out j (by omega) hj)
      go_wp2
      go_ret
      exact ⟨ret_int hp.out.symm, hbel⟩
end Go.Proofs.Ytbgobcjnckoekaa
