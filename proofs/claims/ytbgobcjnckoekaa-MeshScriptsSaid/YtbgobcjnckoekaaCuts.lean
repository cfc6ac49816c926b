/- What is proved: MeshCuts answers true, whatever it is handed. -/
import Derived.Test.YtbgobcjnckoekaaOnce
namespace Go.Proofs.Ytbgobcjnckoekaa
open Go.RowKit
attribute [local go_sem] Pkt.val

def btw (x y : Int) (p : Pkt) : Bool := (p.src == x && p.dst == y) || (p.src == y && p.dst == x)
def cutOf (x y : Int) : Int → Int → Bool := addCut noCut (lo x y) (hi x y)
theorem free_btw (x y : Int) (p : Pkt) : freeB (cutOf x y) p = !btw x y p := by
  have : ((lo p.src p.dst == lo x y) && (hi p.src p.dst == hi x y)) = btw x y p := by
    rw [Bool.eq_iff_iff]
    simp only [btw, Bool.and_eq_true, Bool.or_eq_true, beq_iff_eq]
    unfold lo hi
    split <;> split <;> omega
  unfold freeB cutOf addCut noCut
  rw [Bool.false_or, this]
theorem cut_back (x y : Int) : delCut (cutOf x y) (lo y x) (hi y x) = noCut := by
  funext p q
  have h1 : lo y x = lo x y := by unfold lo; split <;> split <;> omega
  have h2 : hi y x = hi x y := by unfold hi; split <;> split <;> omega
  rw [h1, h2]
  unfold delCut cutOf addCut noCut
  simp
theorem filter_erase {α : Type} (q : α → Bool) : ∀ (l : List α) (k : Nat) (h : k < l.length), q l[k] = false → (l.eraseIdx k).filter q = l.filter q
  | a :: l, 0, _, hq => by simp at hq; simp [hq]
  | a :: l, k + 1, h, hq => by
    have := filter_erase q l k (by simpa using h) (by simpa using hq)
    simp only [List.eraseIdx_cons_succ, List.filter_cons, this]
theorem filter_full {α : Type} (q : α → Bool) (l : List α) (h : (l.filter q).length = l.length) : ∀ j (hj : j < l.length), q l[j] = true := by
  intro j hj
  have h1 := List.filter_eq_self.1 ((List.filter_sublist (p := q) (l := l)).eq_of_length h)
  exact h1 _ (List.getElem_mem hj)

/-- A mesh that is cut: only what lies between the two is left behind. -/
structure CutS (W w : World) (a mb : Nat) (x y la : Int) (bl qs : List Pkt) (n : Nat) (v : Value) : Prop where
  mesh : MeshAt w W.heap.size a mb v ⟨qs, la, cutOf x y⟩
  bel : Below W.heap.size W w
  bet : qs.filter (btw x y) = bl
  len : qs.length = n + bl.length
theorem CutS.below {W w w' : World} {a mb : Nat} {x y la : Int} {bl qs : List Pkt} {n : Nat} {v : Value} (h : CutS W w a mb x y la bl qs n v) (hb : Below w.heap.size w w') : CutS W w' a mb x y la bl qs n v :=
  ⟨h.mesh.below hb, h.bel.trans (hb.mono h.bel.size), h.bet, h.len⟩
theorem CutS.next {W w : World} {a mb : Nat} {x y la : Int} {bl qs : List Pkt} {n : Nat} {v : Value} (h : CutS W w a mb x y la bl qs (n + 1) v) :
    ∃ p, btw x y p = false ∧ Calls Try.prog 11 #[.pointer (some ⟨a, 0, none⟩)] w fun e w' => e = .returned (.tuple #[p.val, .bool true]) ∧ (∃ qs' v', CutS W w' a mb x y la bl qs' n v') ∧ w.heap.size ≤ w'.heap.size := by
  rcases idxOf_cases (freeB (cutOf x y)) qs with hx | ⟨k, hk, hx⟩
  · exfalso
    have h1 := idxOf_no hx
    have h2 : qs.filter (btw x y) = qs := List.filter_eq_self.2 fun p hp => by
      obtain ⟨j, hj, rfl⟩ := List.getElem_of_mem hp
      have := h1 j hj
      rw [free_btw] at this
      simpa using this
    have := h.len
    rw [h.bet] at h2
    rw [h2] at this; omega
  · obtain ⟨_, h1, _⟩ := idxOf_first hx
    rw [free_btw] at h1
    have hb : btw x y qs[k] = false := by simpa using h1
    refine ⟨qs[k], hb, (Next_some w W.heap.size a mb v ⟨qs, la, cutOf x y⟩ k h.mesh hk hx).mono fun e w' ⟨e1, ⟨v', e2, _⟩, e4⟩ => ⟨e1, ⟨_, v', e2, e4.below h.bel h.mesh.foot h.bel.size, ?_, ?_⟩, e4.size⟩⟩
    · rw [filter_erase _ _ k hk hb]; exact h.bet
    · rw [List.length_eraseIdx, if_pos hk, h.len]; omega
theorem CutS.all {W w : World} {a mb : Nat} {x y la : Int} {bl qs : List Pkt} {v : Value} (h : CutS W w a mb x y la bl qs 0 v) : qs = bl ∧ ∀ j (hj : j < qs.length), freeB (cutOf x y) qs[j] = false := by
  have h1 : (qs.filter (btw x y)).length = qs.length := by rw [h.bet, h.len]; omega
  refine ⟨?_, fun j hj => by rw [free_btw, filter_full _ _ h1 j hj]; rfl⟩
  rw [← h.bet]
  exact ((List.filter_sublist (p := btw x y) (l := qs)).eq_of_length h1).symm
theorem CutS.last {W w : World} {a mb : Nat} {x y la : Int} {bl qs : List Pkt} {v : Value} (h : CutS W w a mb x y la bl qs 0 v) :
    Calls Try.prog 11 #[.pointer (some ⟨a, 0, none⟩)] w fun e w' => e = .returned (.tuple #[zeroP.val, .bool false]) ∧ CutS W w' a mb x y la bl qs 0 v ∧ w.heap.size ≤ w'.heap.size :=
  (Next_none w W.heap.size a mb v _ h.mesh (idxOf_none h.all.2)).mono fun _ _ ⟨h1, h2⟩ => ⟨h1, h.below h2, h2.size⟩

/-- .. and beside it the list of what is in flight. -/
structure CutF (W w : World) (a mb : Nat) (want : Value) (x y la : Int) (ps : List Pkt) (v : Value) : Prop where
  mesh : MeshAt w W.heap.size a mb v ⟨ps, la, cutOf x y⟩
  own : w.ownsRow W.heap.size 34 4 want ps.length (ps.map Pkt.cells).flatten
  apart : Apart v want
  bel : Below W.heap.size W w
  all : ∀ j (hj : j < ps.length), freeB (cutOf x y) ps[j] = false
theorem CutF.below {W w w' : World} {a mb : Nat} {want : Value} {x y la : Int} {ps : List Pkt} {v : Value} (h : CutF W w a mb want x y la ps v) (hb : Below w.heap.size w w') : CutF W w' a mb want x y la ps v :=
  ⟨h.mesh.below hb, own_only h.own (Only.of_below (F := fun _ => False) hb) (fun _ _ h => h), h.apart, h.bel.trans (hb.mono h.bel.size), h.all⟩
theorem CutS.flight {W w : World} {a mb : Nat} {x y la : Int} {bl qs : List Pkt} {v : Value} (h : CutS W w a mb x y la bl qs 0 v) (hl : bl.length ≤ 2097152) :
    Calls Try.prog 12 #[.pointer (some ⟨a, 0, none⟩)] w fun e w' => ∃ A' c', e = .returned (.slice A' bl.length c') ∧ CutF W w' a mb (.slice A' bl.length c') x y la bl v := by
  obtain ⟨rfl, hall⟩ := h.all
  refine (Flight_any w W.heap.size a mb v _ h.mesh hl).mono fun e w' ⟨A', c', h1, h2, h3⟩ => ⟨A', c', h1, h.mesh.below h3, own_base h2 h.bel.size, ?_, h.bel.trans (h3.mono h.bel.size), hall⟩
  intro k hk hw
  have g1 := foot_lt h.mesh k (.inr (.inr hk))
  have g2 := (h2.lt k hw).1
  omega
theorem CutF.deliver {W w : World} {a mb : Nat} {want : Value} {x y la : Int} {ps : List Pkt} {v : Value} (h : CutF W w a mb want x y la ps v) (id : Int) :
    Calls Try.prog 14 #[.pointer (some ⟨a, 0, none⟩), .int .i64 id] w fun e w' => e = .returned (.tuple #[zeroP.val, .bool false]) ∧ CutF W w' a mb want x y la ps v ∧ w.heap.size ≤ w'.heap.size := by
  rcases idxOf_cases (hasId id) ps with hx | ⟨k, hk, hx⟩
  · exact (Deliver_none w W.heap.size a mb v _ id h.mesh hx).mono fun _ _ ⟨h1, h2⟩ => ⟨h1, h.below h2, h2.size⟩
  · exact (Deliver_cut w W.heap.size a mb v _ id k h.mesh hk hx (h.all k hk)).mono fun _ _ ⟨h1, h2⟩ => ⟨h1, h.below h2, h2.size⟩

/-- The mesh holds what is wanted from place k on, whatever its last number is. -/
structure LeftC (W w : World) (a mb : Nat) (want : Value) (la : Int) (ps : List Pkt) (k : Nat) (v : Value) : Prop where
  mesh : MeshAt w W.heap.size a mb v ⟨ps.drop k, la, noCut⟩
  own : w.ownsRow W.heap.size 34 4 want ps.length (ps.map Pkt.cells).flatten
  apart : Apart v want
  bel : Below W.heap.size W w
theorem LeftC.below {W w w' : World} {a mb : Nat} {want : Value} {la : Int} {ps : List Pkt} {k : Nat} {v : Value} (h : LeftC W w a mb want la ps k v) (hb : Below w.heap.size w w') : LeftC W w' a mb want la ps k v :=
  ⟨h.mesh.below hb, own_only h.own (Only.of_below (F := fun _ => False) hb) (fun _ _ h => h), h.apart, h.bel.trans (hb.mono h.bel.size)⟩
theorem own_foot {w w' : World} {B base a mb n : Nat} {v u : Value} {m : M} {xs : List Value} (h : MeshAt w B a mb v m) (hu : w.ownsRow base 34 4 u n xs) (hap : Apart v u) (ho : Only (Foot a mb v) w w') : w'.ownsRow base 34 4 u n xs := by
  refine own_only hu ho ?_
  rintro j hj (rfl | rfl | hf)
  · exact (own_ne h hu).1 hj
  · exact (own_ne h hu).2 hj
  · exact hap j hf hj
theorem CutF.join {W w : World} {a mb : Nat} {want : Value} {x y la : Int} {ps : List Pkt} {v : Value} (h : CutF W w a mb want x y la ps v) :
    Calls Try.prog 15 #[.pointer (some ⟨a, 0, none⟩), .int .i64 y, .int .i64 x] w fun e w' => e = .returned (.tuple #[]) ∧ LeftC W w' a mb want la ps 0 v ∧ w.heap.size ≤ w'.heap.size := by
  refine (Join_any w W.heap.size a mb v _ y x h.mesh).mono fun e w' ⟨h1, h2, h3⟩ => ⟨h1, ⟨?_, own_foot h.mesh h.own h.apart h3, h.apart, h3.below h.bel h.mesh.foot h.bel.size⟩, h3.size⟩
  have h2' : MeshAt w' W.heap.size a mb v ⟨ps, la, delCut (cutOf x y) (lo y x) (hi y x)⟩ := h2
  rw [cut_back] at h2'
  exact h2'
theorem LeftC.next {W w : World} {a mb : Nat} {want : Value} {la : Int} {ps : List Pkt} {k : Nat} {v : Value} (h : LeftC W w a mb want la ps k v) (hk : k < ps.length) :
    Calls Try.prog 11 #[.pointer (some ⟨a, 0, none⟩)] w fun e w' => e = .returned (.tuple #[ps[k].val, .bool true]) ∧ (∃ v', LeftC W w' a mb want la ps (k + 1) v') ∧ w.heap.size ≤ w'.heap.size := by
  have hd : 0 < (ps.drop k).length := by rw [List.length_drop]; omega
  have h0 : (ps.drop k)[0] = ps[k] := by simp
  have hx : idxOf (freeB noCut) (ps.drop k) = ((0 : Nat) : Int) := idxOf_found hd (fun j hj => absurd hj (by omega)) (free_no _)
  have hc := Next_some w W.heap.size a mb v ⟨ps.drop k, la, noCut⟩ 0 h.mesh hd hx
  refine hc.mono fun e w' ⟨h1, ⟨v', h2, h3⟩, h4⟩ => ⟨by rw [h1]; show Ending.returned (.tuple #[((ps.drop k)[0]).val, .bool true]) = _; rw [h0], ⟨v', ?_, own_foot h.mesh h.own h.apart h4, ?_, h4.below h.bel h.mesh.foot h.bel.size⟩, h4.size⟩
  · have e : (ps.drop k).eraseIdx 0 = ps.drop (k + 1) := by
      rw [List.drop_eq_getElem_cons hk]; rfl
    have h2' : MeshAt w' W.heap.size a mb v' ⟨(ps.drop k).eraseIdx 0, la, noCut⟩ := h2
    rw [e] at h2'; exact h2'
  · intro j hj; rw [h3] at hj; exact h.apart j hj
theorem LeftC.flight {W w : World} {a mb : Nat} {want : Value} {la : Int} {ps : List Pkt} {v : Value} (h : LeftC W w a mb want la ps ps.length v) :
    Calls Try.prog 12 #[.pointer (some ⟨a, 0, none⟩)] w fun e w' => ∃ A' c', e = .returned (.slice A' 0 c') ∧ Below W.heap.size W w' := by
  refine (Flight_any w W.heap.size a mb v _ h.mesh (by simp)).mono fun e w' ⟨A', c', h1, _, h3⟩ => ⟨A', c', ?_, h.bel.trans (h3.mono h.bel.size)⟩
  rw [h1]; simp

/-- What has been sent, and how much of it lies between the two. -/
structure Sent (W w : World) (a mb : Nat) (x y : Int) (n bt ot : Nat) (ps : List Pkt) (v : Value) : Prop where
  mesh : MeshAt w W.heap.size a mb v ⟨ps, ps.length, noCut⟩
  bel : Below W.heap.size W w
  len : ps.length ≤ n
  bet : (ps.filter (btw x y)).length = bt
  sum : ot + bt = ps.length
theorem Sent.cut {W w : World} {a mb : Nat} {x y : Int} {n bt ot : Nat} {ps : List Pkt} {v : Value} (h : Sent W w a mb x y n bt ot ps v) :
    Calls Try.prog 13 #[.pointer (some ⟨a, 0, none⟩), .int .i64 x, .int .i64 y] w fun e w' => e = .returned (.tuple #[]) ∧ CutS W w' a mb x y ps.length (ps.filter (btw x y)) ps ot v ∧ w.heap.size ≤ w'.heap.size :=
  (Cut_any w W.heap.size a mb v _ x y h.mesh).mono fun _ _ ⟨h1, h2, h3⟩ => ⟨h1, ⟨h2, h3.below h.bel h.mesh.foot h.bel.size, rfl, by rw [h.bet]; exact h.sum.symm⟩, h3.size⟩
def SentE (W : World) (a mb : Nat) (x y : Int) (n : Nat) (w : World) (u t : Value) : Prop := ∃ bt ot ps v, u = .int .i64 (bt : Nat) ∧ t = .int .i64 (ot : Nat) ∧ Sent W w a mb x y n bt ot ps v
end Go.Proofs.Ytbgobcjnckoekaa
