/- What is proved: plain laws for MeshIds: numbers that rise, and a second mesh that stays as it is. -/
import Derived.Test.YtbgobcjnckoekaaCuts
namespace Go.Proofs.Ytbgobcjnckoekaa
open Go.RowKit
attribute [local go_sem] Pkt.val

structure IdsS (W w : World) (a mb a2 mb2 : Nat) (n : Nat) (la : Int) (ps : List Pkt) (v : Value) : Prop where
  m1 : MeshAt w W.heap.size a mb v ⟨ps, la, noCut⟩
  m2 : MeshAt w W.heap.size a2 mb2 (.slice none 0 0) ⟨[], 0, noCut⟩
  ha : a ≠ a2
  hm : mb ≠ mb2
  bel : Below W.heap.size W w
  len : ps.length ≤ n
  l0 : 0 ≤ la
  l1 : la ≤ (n : Int)
  inc : ps.Pairwise (fun p q => p.id < q.id)
  top : ∀ p ∈ ps, p.id ≤ la
def IdsE (W : World) (a mb a2 mb2 n : Nat) (w : World) (u : Value) : Prop := ∃ la ps v, u = .int .i64 la ∧ IdsS W w a mb a2 mb2 n la ps v
theorem two_apart {w w' : World} {B B2 a mb a2 mb2 : Nat} {v : Value} {m1 m2 : M} (h1 : MeshAt w B a mb v m1) (h2 : MeshAt w B2 a2 mb2 (.slice none 0 0) m2) (ha : a ≠ a2) (hm : mb ≠ mb2) (ho : Only (Foot a mb v) w w') : MeshAt w' B2 a2 mb2 (.slice none 0 0) m2 := by
  refine h2.only ho ?_
  rintro k (rfl | rfl | hk) (h | h | h)
  · exact ha h
  · obtain ⟨es, clock, hx, _⟩ := h2.cuts
    have := h1.heap
    rw [h, hx] at this; cases this
  · simp [Value.ownBlock] at h
  · obtain ⟨es, clock, hx, _⟩ := h1.cuts
    have := h2.heap
    rw [← h, hx] at this; cases this
  · exact hm h
  · simp [Value.ownBlock] at h
  · exact (own_ne h2 h1.own).1 (by rw [hk, h])
  · exact (own_ne h2 h1.own).2 (by rw [hk, h])
  · simp [Value.ownBlock] at h
theorem IdsS.below {W w w' : World} {a mb a2 mb2 n : Nat} {la : Int} {ps : List Pkt} {v : Value} (h : IdsS W w a mb a2 mb2 n la ps v) (hb : Below w.heap.size w w') : IdsS W w' a mb a2 mb2 n la ps v :=
  ⟨h.m1.below hb, h.m2.below hb, h.ha, h.hm, h.bel.trans (hb.mono h.bel.size), h.len, h.l0, h.l1, h.inc, h.top⟩
theorem IdsS.upd {W w w' : World} {a mb a2 mb2 n : Nat} {la la' : Int} {ps ps' : List Pkt} {v v' : Value} (h : IdsS W w a mb a2 mb2 n la ps v) (hm : MeshAt w' W.heap.size a mb v' ⟨ps', la', noCut⟩) (ho : Only (Foot a mb v) w w')
    (hl : ps'.length ≤ n + 1) (h0 : 0 ≤ la') (h1 : la' ≤ (n : Int) + 1) (hi : ps'.Pairwise (fun p q => p.id < q.id)) (ht : ∀ p ∈ ps', p.id ≤ la') : IdsS W w' a mb a2 mb2 (n + 1) la' ps' v' :=
  ⟨hm, two_apart h.m1 h.m2 h.ha h.hm ho, h.ha, h.hm, ho.below h.bel h.m1.foot h.bel.size, hl, h0, by simpa using h1, hi, ht⟩
theorem IdsS.up {W w : World} {a mb a2 mb2 n n' : Nat} {la : Int} {ps : List Pkt} {v : Value} (h : IdsS W w a mb a2 mb2 n la ps v) (hn : n ≤ n') : IdsS W w a mb a2 mb2 n' la ps v :=
  ⟨h.m1, h.m2, h.ha, h.hm, h.bel, Nat.le_trans h.len hn, h.l0, by have := h.l1; omega, h.inc, h.top⟩
theorem IdsS.push {W w : World} {a mb a2 mb2 n : Nat} {la : Int} {ps : List Pkt} {v : Value} (h : IdsS W w a mb a2 mb2 n la ps v) (p : Pkt) (hp : p.id = la + 1) :
    (ps ++ [p]).length ≤ n + 1 ∧ (ps ++ [p]).Pairwise (fun p q => p.id < q.id) ∧ ∀ q ∈ ps ++ [p], q.id ≤ la + 1 := by
  refine ⟨by have := h.len; simp; omega, List.pairwise_append.2 ⟨h.inc, by simp, fun q hq r hr => ?_⟩, fun q hq => ?_⟩
  · simp at hr; subst hr; have := h.top q hq; omega
  · rcases List.mem_append.1 hq with hq | hq
    · have := h.top q hq; omega
    · simp at hq; subst hq; omega
theorem IdsS.send {W w : World} {a mb a2 mb2 n : Nat} {la : Int} {ps : List Pkt} {v : Value} (h : IdsS W w a mb a2 mb2 n la ps v) (x y : Int) (s : ByteArray) (hs : s.size ≤ 65536) (hn : n ≤ 400) :
    Calls Try.prog 9 #[.pointer (some ⟨a, 0, none⟩), .int .i64 x, .int .i64 y, .string s] w fun e w' => e = .returned (.tuple #[.int .i64 (la + 1), .int .i64 0]) ∧ (∃ ps' v', IdsS W w' a mb a2 mb2 (n + 1) (la + 1) ps' v') ∧ w.heap.size ≤ w'.heap.size := by
  have hl := h.len
  refine (Send_some w W.heap.size a mb v ⟨ps, la, noCut⟩ x y s h.m1 hs (by show ps.length < 512; omega) h.l0 (by have := h.l1; show la ≤ _; omega)).mono fun e w' ⟨h1, ⟨v', h2, _⟩, h4⟩ => ⟨h1, ⟨ps ++ [⟨la + 1, x, y, s⟩], v', ?_⟩, h4.size⟩
  obtain ⟨g1, g2, g3⟩ := h.push ⟨la + 1, x, y, s⟩ rfl
  exact h.upd h2 h4 g1 (by have := h.l0; omega) (by have := h.l1; omega) g2 g3
theorem IdsS.double {W w : World} {a mb a2 mb2 n : Nat} {la : Int} {ps : List Pkt} {v : Value} (h : IdsS W w a mb a2 mb2 n la ps v) (id : Int) (hn : n ≤ 400) :
    Calls Try.prog 10 #[.pointer (some ⟨a, 0, none⟩), .int .i64 id] w (fun e w' => e = .returned (.tuple #[.int .i64 (la + 1), .int .i64 0]) ∧ (∃ ps' v', IdsS W w' a mb a2 mb2 (n + 1) (la + 1) ps' v') ∧ w.heap.size ≤ w'.heap.size) ∨
    Calls Try.prog 10 #[.pointer (some ⟨a, 0, none⟩), .int .i64 id] w (fun e w' => e = .returned (.tuple #[.int .i64 0, .int .i64 151]) ∧ (∃ ps' v', IdsS W w' a mb a2 mb2 (n + 1) la ps' v') ∧ w.heap.size ≤ w'.heap.size) := by
  have hl := h.len
  rcases idxOf_cases (hasId id) ps with hx | ⟨k, hk, hx⟩
  · exact .inr ((Double_none w W.heap.size a mb v _ id h.m1 hx).mono fun e w' ⟨h1, h2⟩ => ⟨h1, ⟨ps, v, (h.below h2).up (by omega)⟩, h2.size⟩)
  · refine .inl ((Double_some w W.heap.size a mb v ⟨ps, la, noCut⟩ id k h.m1 hk hx (by show ps.length < 512; omega) h.l0 (by have := h.l1; show la ≤ _; omega)).mono fun e w' ⟨h1, ⟨v', h2, _⟩, h4⟩ => ⟨h1, ⟨ps ++ [⟨la + 1, ps[k].src, ps[k].dst, ps[k].body⟩], v', ?_⟩, h4.size⟩)
    obtain ⟨g1, g2, g3⟩ := h.push ⟨la + 1, ps[k].src, ps[k].dst, ps[k].body⟩ rfl
    exact h.upd h2 h4 g1 (by have := h.l0; omega) (by have := h.l1; omega) g2 g3
theorem IdsS.less {W w w' : World} {a mb a2 mb2 n : Nat} {la : Int} {ps : List Pkt} {v v' : Value} (h : IdsS W w a mb a2 mb2 n la ps v) (k : Nat) (hm : MeshAt w' W.heap.size a mb v' ⟨ps.eraseIdx k, la, noCut⟩) (ho : Only (Foot a mb v) w w') : IdsS W w' a mb a2 mb2 (n + 1) la (ps.eraseIdx k) v' :=
  h.upd hm ho (by have := h.len; have := List.length_eraseIdx_le ps k; omega) h.l0 (by have := h.l1; omega) (h.inc.sublist (List.eraseIdx_sublist _ _)) (fun p hp => h.top p (List.mem_of_mem_eraseIdx hp))
theorem IdsS.next {W w : World} {a mb a2 mb2 n : Nat} {la : Int} {ps : List Pkt} {v : Value} (h : IdsS W w a mb a2 mb2 n la ps v) :
    Calls Try.prog 11 #[.pointer (some ⟨a, 0, none⟩)] w fun e w' => ∃ r, e = .returned r ∧ (∃ ps' v', IdsS W w' a mb a2 mb2 (n + 1) la ps' v') ∧ w.heap.size ≤ w'.heap.size := by
  rcases idxOf_cases (freeB noCut) ps with hx | ⟨k, hk, hx⟩
  · exact (Next_none w W.heap.size a mb v _ h.m1 hx).mono fun e w' ⟨h1, h2⟩ => ⟨_, h1, ⟨ps, v, (h.below h2).up (by omega)⟩, h2.size⟩
  · exact (Next_some w W.heap.size a mb v ⟨ps, la, noCut⟩ k h.m1 hk hx).mono fun e w' ⟨h1, ⟨v', h2, _⟩, h4⟩ => ⟨_, h1, ⟨ps.eraseIdx k, v', h.less k h2 h4⟩, h4.size⟩
theorem IdsS.drop {W w : World} {a mb a2 mb2 n : Nat} {la : Int} {ps : List Pkt} {v : Value} (h : IdsS W w a mb a2 mb2 n la ps v) (id : Int) :
    Calls Try.prog 19 #[.pointer (some ⟨a, 0, none⟩), .int .i64 id] w fun e w' => ∃ r, e = .returned r ∧ (∃ ps' v', IdsS W w' a mb a2 mb2 (n + 1) la ps' v') ∧ w.heap.size ≤ w'.heap.size := by
  refine (Drop_any w W.heap.size a mb v ⟨ps, la, noCut⟩ id h.m1).mono fun e w' ⟨h1, ⟨v', h2, _⟩, h4⟩ => ⟨_, h1, ?_, h4.size⟩
  unfold M.drop1 at h2
  split at h2
  · exact ⟨ps, v', h.upd h2 h4 (by have := h.len; omega) h.l0 (by have := h.l1; omega) h.inc h.top⟩
  · exact ⟨_, v', h.less _ h2 h4⟩
/-- .. and beside it the list of what is in flight. -/
structure IdsF (W w : World) (a mb a2 mb2 n : Nat) (la : Int) (want : Value) (ps : List Pkt) (v : Value) : Prop where
  ids : IdsS W w a mb a2 mb2 n la ps v
  own : w.ownsRow W.heap.size 34 4 want ps.length (ps.map Pkt.cells).flatten
theorem IdsF.below {W w w' : World} {a mb a2 mb2 n : Nat} {la : Int} {want : Value} {ps : List Pkt} {v : Value} (h : IdsF W w a mb a2 mb2 n la want ps v) (hb : Below w.heap.size w w') : IdsF W w' a mb a2 mb2 n la want ps v :=
  ⟨h.ids.below hb, own_only h.own (Only.of_below (F := fun _ => False) hb) (fun _ _ h => h)⟩
theorem IdsS.flight {W w : World} {a mb a2 mb2 n : Nat} {la : Int} {ps : List Pkt} {v : Value} (h : IdsS W w a mb a2 mb2 n la ps v) (hn : n ≤ 401) :
    Calls Try.prog 12 #[.pointer (some ⟨a, 0, none⟩)] w fun e w' => ∃ A' c', e = .returned (.slice A' ps.length c') ∧ IdsF W w' a mb a2 mb2 n la (.slice A' ps.length c') ps v :=
  (Flight_any w W.heap.size a mb v _ h.m1 (by have := h.len; show ps.length ≤ _; omega)).mono fun e w' ⟨A', c', h1, h2, h3⟩ => ⟨A', c', h1, h.below h3, own_base h2 h.bel.size⟩
theorem IdsS.other {W w : World} {a mb a2 mb2 n : Nat} {la : Int} {ps : List Pkt} {v : Value} (h : IdsS W w a mb a2 mb2 n la ps v) :
    Calls Try.prog 12 #[.pointer (some ⟨a2, 0, none⟩)] w fun e w' => ∃ A' c', e = .returned (.slice A' 0 c') ∧ Below W.heap.size W w' :=
  (Flight_any w W.heap.size a2 mb2 _ _ h.m2 (by simp)).mono fun e w' ⟨A', c', h1, _, h3⟩ => ⟨A', c', h1, h.bel.trans (h3.mono h.bel.size)⟩
end Go.Proofs.Ytbgobcjnckoekaa
