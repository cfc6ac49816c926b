/- What is proved: the mesh and the document's mesh, side by side: each step answers alike on both and keeps them alike. -/
import Derived.Test.YtbgobcjnckoekaaRefG
import Derived.Test.YtbgobcjnckoekaaRefH
namespace Go.Proofs.Ytbgobcjnckoekaa
open Go.RowKit

/-! ### the cuts are tied -/
def Tie (C : Int → Int → Bool) (l : List (Int × Int)) : Prop := ∀ x y, C (lo x y) (hi x y) = isCut l x y
theorem lohi_same (p q x y : Int) : (lo p q == lo x y && hi p q == hi x y) = sameB p q (x, y) := by
  rw [Bool.eq_iff_iff]
  simp only [sameB, Bool.or_eq_true, Bool.and_eq_true, beq_iff_eq]
  unfold lo hi
  constructor
  · intro h; split at h <;> split at h <;> omega
  · intro h; split <;> split <;> omega
theorem sameB_swap {p q x y : Int} (h : sameB p q (x, y) = true) (c : Int × Int) : sameB p q c = sameB x y c := by
  rw [Bool.eq_iff_iff]
  simp only [sameB, Bool.or_eq_true, Bool.and_eq_true, beq_iff_eq] at h ⊢
  omega
theorem isCut_swap {p q x y : Int} (h : sameB p q (x, y) = true) (l : List (Int × Int)) : isCut l p q = isCut l x y := by
  unfold isCut
  congr 1
  funext c
  exact sameB_swap h c
theorem Tie.add {C : Int → Int → Bool} {l : List (Int × Int)} (h : Tie C l) (x y : Int) (hc : isCut l x y = false) : Tie (addCut C (lo x y) (hi x y)) (l ++ [(x, y)]) := by
  intro p q
  unfold addCut
  rw [h p q, lohi_same]
  simp [isCut]
theorem Tie.addIs {C : Int → Int → Bool} {l : List (Int × Int)} (h : Tie C l) (x y : Int) (hc : isCut l x y = true) : Tie (addCut C (lo x y) (hi x y)) l := by
  intro p q
  unfold addCut
  rw [h p q, lohi_same]
  cases hs : sameB p q (x, y)
  · simp
  · rw [isCut_swap hs, hc]; rfl
theorem Tie.del {C : Int → Int → Bool} {l : List (Int × Int)} (h : Tie C l) (x y : Int) : Tie (delCut C (lo x y) (hi x y)) (delPair l x y) := by
  intro p q
  unfold delCut
  rw [h p q, lohi_same, Bool.eq_iff_iff]
  unfold isCut delPair
  simp only [Bool.and_eq_true, List.any_eq_true, List.mem_filter, Bool.not_eq_true', Bool.not_eq_eq_eq_not, Bool.not_true]
  constructor
  · rintro ⟨⟨c, hc, hs⟩, hn⟩
    refine ⟨c, ⟨hc, ?_⟩, hs⟩
    cases h1 : sameB x y c
    · rfl
    · exfalso
      have : sameB p q (x, y) = true := by
        simp only [sameB, Bool.or_eq_true, Bool.and_eq_true, beq_iff_eq] at hs h1 ⊢
        omega
      rw [this] at hn; cases hn
  · rintro ⟨c, ⟨hc, h1⟩, hs⟩
    refine ⟨⟨c, hc, hs⟩, ?_⟩
    cases h2 : sameB p q (x, y)
    · rfl
    · rw [sameB_swap h2, h1] at hs; cases hs

/-! ### two in one memory -/
structure Two (W w : World) (a mb a2 : Nat) (v v2 u : Value) (g : Option (Nat × Obj)) (m : M) (r : R) : Prop where
  m1 : MeshAt w W.heap.size a mb v m
  m2 : RefAt w W.heap.size a2 v2 u r
  ap : Apart v v2
  bel : Below W.heap.size W w
  kp : ∀ k o, g = some (k, o) → w.heap[k]? = some o ∧ ¬ Foot a mb v k ∧ ¬ RFoot a2 v2 u k
section
variable {W w w' : World} {a mb a2 : Nat} {v v2 u v' v2' u' : Value} {g : Option (Nat × Obj)} {m m' : M} {r r' : R}
theorem Two.apart (h : Two W w a mb a2 v v2 u g m r) : ∀ k, Foot a mb v k → ¬ RFoot a2 v2 u k := by
  have h1 := h.m1; have h2 := h.m2
  obtain ⟨es, clock, hx, _⟩ := h1.cuts
  rintro k (rfl | rfl | hk) (rfl | hf | hf)
  · have e1 := h1.heap; rw [h2.heap] at e1; injection e1 with e1; injection e1 with _ ht; exact absurd ht (by decide)
  · exact (own_ne h1 h2.own).1 hf
  · obtain ⟨cur, fr, hg⟩ := own_type h2.ownc hf
    have e1 := h1.heap; rw [hg] at e1; injection e1 with e1; injection e1 with _ ht; exact absurd ht (by decide)
  · have e1 := h2.heap; rw [hx] at e1; cases e1
  · exact (own_ne h1 h2.own).2 hf
  · obtain ⟨cur, fr, hg⟩ := own_type h2.ownc hf
    rw [hx] at hg; cases hg
  · obtain ⟨cur, fr, hg⟩ := own_type h1.own hk
    have e1 := h2.heap; rw [hg] at e1; injection e1 with e1; injection e1 with _ ht; exact absurd ht (by decide)
  · exact h.ap k hk hf
  · obtain ⟨cur, fr, hg⟩ := own_type h1.own hk
    obtain ⟨cur', fr', hg'⟩ := own_type h2.ownc hf
    rw [hg] at hg'; injection hg' with hg'; injection hg' with _ ht; exact absurd ht (by decide)
theorem lt_of_some {w : World} {k : Nat} {o : Obj} (h : w.heap[k]? = some o) : k < w.heap.size := by
  rcases Nat.lt_or_ge k w.heap.size with h1 | h1
  · exact h1
  · rw [Array.getElem?_eq_none h1] at h; cases h
theorem Two.below (h : Two W w a mb a2 v v2 u g m r) (hb : Below w.heap.size w w') : Two W w' a mb a2 v v2 u g m r :=
  ⟨h.m1.below hb, h.m2.below hb, h.ap, h.bel.trans (hb.mono h.bel.size), fun k o hk => by
    obtain ⟨h1, h2, h3⟩ := h.kp k o hk
    exact ⟨(hb.block k (lt_of_some h1)).trans h1, h2, h3⟩⟩
theorem Two.stepM (h : Two W w a mb a2 v v2 u g m r) (hm : MeshAt w' W.heap.size a mb v' m') (hv : v'.ownBlock = v.ownBlock ∨ ∃ k, v'.ownBlock = some k ∧ w.heap.size ≤ k) (ho : Only (Foot a mb v) w w') : Two W w' a mb a2 v' v2 u g m' r := by
  have hv' := RGrew.of hv
  refine ⟨hm, h.m2.only ho h.apart, ?_, ho.below h.bel h.m1.foot h.bel.size, fun k o hk => ?_⟩
  · intro k hk hf
    rcases hv' k hk with h1 | h1
    · exact h.ap k h1 hf
    · have := (h.m2.own.lt k hf).2; omega
  · obtain ⟨h1, h2, h3⟩ := h.kp k o hk
    have hlt := lt_of_some h1
    refine ⟨(ho.block k hlt h2).trans h1, ?_, h3⟩
    rintro (rfl | rfl | hf)
    · exact h2 (.inl rfl)
    · exact h2 (.inr (.inl rfl))
    · rcases hv' k hf with h4 | h4
      · exact h2 (.inr (.inr h4))
      · omega
theorem Two.stepR (h : Two W w a mb a2 v v2 u g m r) (hm : RefAt w' W.heap.size a2 v2' u' r') (hv : RGrew w v2 v2') (hu : RGrew w u u') (ho : Only (RFoot a2 v2 u) w w') : Two W w' a mb a2 v v2' u' g m r' := by
  refine ⟨h.m1.only ho (fun k hk hf => h.apart k hf hk), hm, ?_, ho.below h.bel h.m2.foot h.bel.size, fun k o hk => ?_⟩
  · intro k hk hf
    rcases hv k hf with h1 | h1
    · exact h.ap k hk h1
    · have := (h.m1.own.lt k hk).2; omega
  · obtain ⟨h1, h2, h3⟩ := h.kp k o hk
    have hlt := lt_of_some h1
    refine ⟨(ho.block k hlt h3).trans h1, h2, ?_⟩
    rintro (rfl | hf | hf)
    · exact h3 (.inl rfl)
    · rcases hv k hf with h4 | h4
      · exact h3 (.inr (.inl h4))
      · omega
    · rcases hu k hf with h4 | h4
      · exact h3 (.inr (.inr h4))
      · omega
end

/-! ### alike -/
structure Alike (n : Nat) (m : M) (r : R) : Prop where
  ps : m.ps = r.ps
  last : m.last = r.last
  tie : Tie m.cuts r.cuts
  len : r.ps.length ≤ 512
  l0 : 0 ≤ r.last
  l1 : r.last ≤ (n : Int)
  cl : r.cuts.length ≤ n
  body : ∀ p ∈ r.ps, p.body.size ≤ 65536
def Both (W : World) (a mb a2 : Nat) (g : Option (Nat × Obj)) (n : Nat) (w : World) : Prop := ∃ v v2 u m r, Two W w a mb a2 v v2 u g m r ∧ Alike n m r
theorem Alike.up {n n' : Nat} {m : M} {r : R} (h : Alike n m r) (hn : n ≤ n') : Alike n' m r := ⟨h.ps, h.last, h.tie, h.len, h.l0, by have := h.l1; omega, Nat.le_trans h.cl hn, h.body⟩
theorem Both.up {W w : World} {a mb a2 : Nat} {g : Option (Nat × Obj)} {n n' : Nat} (h : Both W a mb a2 g n w) (hn : n ≤ n') : Both W a mb a2 g n' w := by
  obtain ⟨v, v2, u, m, r, h1, h2⟩ := h
  exact ⟨v, v2, u, m, r, h1, h2.up hn⟩
theorem Both.below {W w w' : World} {a mb a2 : Nat} {g : Option (Nat × Obj)} {n : Nat} (h : Both W a mb a2 g n w) (hb : Below w.heap.size w w') : Both W a mb a2 g n w' := by
  obtain ⟨v, v2, u, m, r, h1, h2⟩ := h
  exact ⟨v, v2, u, m, r, h1.below hb, h2⟩
theorem Both.bel {W w : World} {a mb a2 : Nat} {g : Option (Nat × Obj)} {n : Nat} (h : Both W a mb a2 g n w) : Below W.heap.size W w := by
  obtain ⟨v, v2, u, m, r, h1, h2⟩ := h
  exact h1.bel
theorem Both.forget {W w : World} {a mb a2 : Nat} {g : Option (Nat × Obj)} {n : Nat} (h : Both W a mb a2 g n w) : Both W a mb a2 none n w := by
  obtain ⟨v, v2, u, m, r, h1, h2⟩ := h
  exact ⟨v, v2, u, m, r, ⟨h1.m1, h1.m2, h1.ap, h1.bel, fun k o hk => by cases hk⟩, h2⟩
/-- A new block is kept in mind. -/
theorem Both.new {W w : World} {a mb a2 : Nat} {g : Option (Nat × Obj)} {n : Nat} (h : Both W a mb a2 g n w) (o : Obj) : Both W a mb a2 (some (w.heap.size, o)) n (w.alloc o) := by
  obtain ⟨v, v2, u, m, r, h1, h2⟩ := h
  have h3 := h1.below (al (w := w) o)
  refine ⟨v, v2, u, m, r, ⟨h3.m1, h3.m2, h3.ap, h3.bel, fun k o' hk => ?_⟩, h2⟩
  injection hk with hk
  injection hk with hk ho
  subst hk; subst ho
  exact ⟨heap_alloc_new w o, fun hf => Nat.lt_irrefl _ (foot_lt h1.m1 _ hf), fun hf => Nat.lt_irrefl _ (h1.m2.footLt _ hf)⟩
theorem Both.kept {W w : World} {a mb a2 : Nat} {k : Nat} {o : Obj} {n : Nat} (h : Both W a mb a2 (some (k, o)) n w) : w.heap[k]? = some o := by
  obtain ⟨v, v2, u, m, r, h1, h2⟩ := h
  exact (h1.kp k o rfl).1

/-- The first call has been made, the second one (function f, arguments l) answers alike and brings the state on. -/
def Then (W : World) (a mb a2 : Nat) (g : Option (Nat × Obj)) (n : Nat) (f : FuncId) (l : Array Value) (ans : Value) (w : World) : Prop :=
  (∀ k o, g = some (k, o) → w.heap[k]? = some o) ∧ Below W.heap.size W w ∧
  ∀ w1, Below w.heap.size w w1 → Calls Try.prog f l w1 fun e w2 => e = .returned ans ∧ Both W a mb a2 g n w2 ∧ w1.heap.size ≤ w2.heap.size ∧ ∀ k o, w.heap.size ≤ k → w1.heap[k]? = some o → w2.heap[k]? = some o
/-- One step on both. -/
def Step (W w : World) (a mb a2 : Nat) (g : Option (Nat × Obj)) (n : Nat) (f f2 : FuncId) (l l2 : Array Value) (ans : Value) : Prop :=
  Calls Try.prog f l w fun e w1 => e = .returned ans ∧ Then W a mb a2 g n f2 l2 ans w1 ∧ w.heap.size ≤ w1.heap.size
section
variable {W w : World} {a mb a2 : Nat} {g : Option (Nat × Obj)} {n : Nat} {f f2 : FuncId} {l l2 : Array Value} {ans : Value} {v v2 u : Value} {m : M} {r : R}
theorem then_of (h : Two W w a mb a2 v v2 u g m r) (hc : ∀ w1, Two W w1 a mb a2 v v2 u g m r → Calls Try.prog f2 l2 w1 fun e w2 => e = .returned ans ∧ Both W a mb a2 g n w2 ∧ Only (RFoot a2 v2 u) w1 w2) : Then W a mb a2 g n f2 l2 ans w :=
  ⟨fun k o hk => (h.kp k o hk).1, h.bel, fun w1 hb => (hc w1 (h.below hb)).mono fun _ _ ⟨h1, h2, h3⟩ => ⟨h1, h2, h3.size, fun k o hk ho => (h3.block k (lt_of_some ho) (fun hf => by have := h.m2.footLt k hf; omega)).trans ho⟩⟩
end
section
variable {W w : World} {a mb a2 : Nat} {g : Option (Nat × Obj)} {n : Nat}
theorem Both.send (h : Both W a mb a2 g n w) (x y : Int) (s : ByteArray) (hs : s.size ≤ 9223372036854775807) (hn : n ≤ 1200) :
    ∃ i e : Int, Step W w a mb a2 g (n + 1) 9 16 #[.pointer (some ⟨a, 0, none⟩), .int .i64 x, .int .i64 y, .string s] #[.pointer (some ⟨a2, 0, none⟩), .int .i64 x, .int .i64 y, .string s] (.tuple #[.int .i64 i, .int .i64 e]) := by
  obtain ⟨v, v2, u, m, r, h1, h2⟩ := h
  have hl := h2.last; have hp := h2.ps; have hl0 := h2.l0; have hl1 := h2.l1; have hlen := h2.len
  by_cases hbig : 65536 < s.size
  · refine ⟨0, 1, (Send_long w a x y s hbig hs).mono ?_⟩
    rintro e w1 ⟨he, rfl⟩
    refine ⟨he, then_of h1 fun w1 h3 => (rSend_long w1 a2 x y s hbig hs).mono ?_, Nat.le_refl _⟩
    rintro e w2 ⟨he, rfl⟩
    exact ⟨he, ⟨v, v2, u, m, r, h3, h2.up (by omega)⟩, Only.refl _ _⟩
  by_cases hfull : 512 ≤ r.ps.length
  · refine ⟨0, 3, (Send_full w W.heap.size a mb v m x y s h1.m1 (by omega) (by rw [hp]; exact hfull)).mono ?_⟩
    rintro e w1 ⟨he, hb1⟩
    refine ⟨he, then_of (h1.below hb1) fun w1 h3 => (rSend_full w1 W.heap.size a2 v2 u r x y s h3.m2 (by omega) hfull).mono ?_, hb1.size⟩
    rintro e w2 ⟨he, rfl⟩
    exact ⟨he, ⟨v, v2, u, m, r, h3, h2.up (by omega)⟩, Only.refl _ _⟩
  · refine ⟨r.last + 1, 0, ?_⟩
    have hc := Send_some w W.heap.size a mb v m x y s h1.m1 (by omega) (by rw [hp]; omega) (by rw [hl]; exact hl0) (by rw [hl]; omega)
    rw [hl, hp] at hc
    refine hc.mono ?_
    rintro e w1 ⟨he, ⟨v', hm, hv⟩, ho⟩
    refine ⟨he, then_of (h1.stepM hm hv ho) fun w1 h3 => (rSend_some w1 W.heap.size a2 v2 u r x y s h3.m2 (by omega) (by omega) hl0 (by omega)).mono ?_, ho.size⟩
    rintro e w2 ⟨he, ⟨v2', hm2, hv2⟩, ho2, _⟩
    refine ⟨he, ⟨v', v2', u, _, _, h3.stepR hm2 hv2 (RGrew.refl _ _) ho2, ⟨rfl, rfl, h2.tie, ?_, ?_, ?_, ?_, ?_⟩⟩, ho2⟩
    · simp; omega
    · show 0 ≤ r.last + 1; omega
    · show r.last + 1 ≤ _; omega
    · have := h2.cl; show r.cuts.length ≤ _; omega
    · intro p hp'
      rcases List.mem_append.1 hp' with hp' | hp'
      · exact h2.body p hp'
      · simp at hp'; subst hp'; show s.size ≤ _; omega
theorem Both.double (h : Both W a mb a2 g n w) (id : Int) (hn : n ≤ 1200) :
    ∃ i e : Int, Step W w a mb a2 g (n + 1) 10 21 #[.pointer (some ⟨a, 0, none⟩), .int .i64 id] #[.pointer (some ⟨a2, 0, none⟩), .int .i64 id] (.tuple #[.int .i64 i, .int .i64 e]) := by
  obtain ⟨v, v2, u, m, r, h1, h2⟩ := h
  have hl := h2.last; have hp := h2.ps; have hl0 := h2.l0; have hl1 := h2.l1; have hlen := h2.len
  rcases idxOf_cases (hasId id) r.ps with hx | ⟨k, hk, hx⟩
  · refine ⟨0, 151, (Double_none w W.heap.size a mb v m id h1.m1 (by rw [hp]; exact hx)).mono ?_⟩
    rintro e w1 ⟨he, hb1⟩
    refine ⟨he, then_of (h1.below hb1) fun w1 h3 => (rDouble_none w1 W.heap.size a2 v2 u r id h3.m2 hx).mono ?_, hb1.size⟩
    rintro e w2 ⟨he, hb2⟩
    exact ⟨he, ⟨v, v2, u, m, r, h3.below hb2, h2.up (by omega)⟩, Only.of_below hb2⟩
  have hb := h2.body _ (List.getElem_mem hk)
  by_cases hfull : 512 ≤ r.ps.length
  · refine ⟨0, 3, (Double_full w W.heap.size a mb v m id k h1.m1 (by rw [hp]; exact hk) (by rw [hp]; exact hx) (by rw [hp]; exact hfull)).mono ?_⟩
    rintro e w1 ⟨he, hb1⟩
    refine ⟨he, then_of (h1.below hb1) fun w1 h3 => (rDouble_full w1 W.heap.size a2 v2 u r id k h3.m2 hk hx hfull hb).mono ?_, hb1.size⟩
    rintro e w2 ⟨he, hb2⟩
    exact ⟨he, ⟨v, v2, u, m, r, h3.below hb2, h2.up (by omega)⟩, Only.of_below hb2⟩
  · refine ⟨r.last + 1, 0, ?_⟩
    have hc := Double_some w W.heap.size a mb v m id k h1.m1 (by rw [hp]; exact hk) (by rw [hp]; exact hx) (by rw [hp]; omega) (by rw [hl]; exact hl0) (by rw [hl]; omega)
    simp only [hl, hp] at hc
    refine hc.mono ?_
    rintro e w1 ⟨he, ⟨v', hm, hv⟩, ho⟩
    refine ⟨he, then_of (h1.stepM hm hv ho) fun w1 h3 => (rDouble_some w1 W.heap.size a2 v2 u r id k h3.m2 hk hx (by omega) hb hl0 (by omega)).mono ?_, ho.size⟩
    rintro e w2 ⟨he, ⟨v2', hm2, hv2⟩, ho2⟩
    refine ⟨he, ⟨v', v2', u, _, _, h3.stepR hm2 hv2 (RGrew.refl _ _) ho2, ⟨rfl, rfl, h2.tie, ?_, ?_, ?_, ?_, ?_⟩⟩, ho2⟩
    · simp; omega
    · show 0 ≤ r.last + 1; omega
    · show r.last + 1 ≤ _; omega
    · have := h2.cl; show r.cuts.length ≤ _; omega
    · intro p hp'
      rcases List.mem_append.1 hp' with hp' | hp'
      · exact h2.body p hp'
      · simp at hp'; subst hp'; exact hb
theorem alike_erase {m : M} {r : R} {n : Nat} (h2 : Alike n m r) (k : Nat) : Alike (n + 1) ⟨r.ps.eraseIdx k, r.last, m.cuts⟩ ⟨r.ps.eraseIdx k, r.last, r.cuts⟩ :=
  ⟨rfl, rfl, h2.tie, Nat.le_trans (List.length_eraseIdx_le _ _) h2.len, h2.l0, by have := h2.l1; show r.last ≤ _; omega, Nat.le_trans h2.cl (Nat.le_succ n), fun p hp => h2.body p (List.mem_of_mem_eraseIdx hp)⟩
theorem Both.drop (h : Both W a mb a2 g n w) (id : Int) :
    ∃ b : Bool, Step W w a mb a2 g (n + 1) 19 20 #[.pointer (some ⟨a, 0, none⟩), .int .i64 id] #[.pointer (some ⟨a2, 0, none⟩), .int .i64 id] (.bool b) := by
  obtain ⟨v, v2, u, m, r, h1, h2⟩ := h
  have hl := h2.last; have hp := h2.ps; have hlen := h2.len
  have hc := Drop_any w W.heap.size a mb v m id h1.m1
  unfold M.drop1 at hc
  rw [hp, hl] at hc
  rcases idxOf_cases (hasId id) r.ps with hx | ⟨k, hk, hx⟩
  · rw [if_pos hx] at hc
    refine ⟨false, hc.mono ?_⟩
    rintro e w1 ⟨rfl, ⟨v', hm, hv⟩, ho⟩
    refine ⟨ret_bool (by rw [hx]; rfl), then_of (h1.stepM hm (.inl hv) ho) fun w1 h3 => (rDrop_none w1 W.heap.size a2 v2 u r id h3.m2 hx).mono ?_, ho.size⟩
    rintro e w2 ⟨he, hb2⟩
    exact ⟨he, ⟨v', v2, u, m, r, h3.below hb2, h2.up (by omega)⟩, Only.of_below hb2⟩
  · rw [if_neg (by rw [hx]; omega), hx, Int.toNat_natCast] at hc
    refine ⟨true, hc.mono ?_⟩
    rintro e w1 ⟨rfl, ⟨v', hm, hv⟩, ho⟩
    refine ⟨ret_bool (by simp [hx]), then_of (h1.stepM hm (.inl hv) ho) fun w1 h3 => (rDrop_some w1 W.heap.size a2 v2 u r id k h3.m2 hk hx hlen).mono ?_, ho.size⟩
    rintro e w2 ⟨he, ⟨v2', hm2, hv2⟩, ho2⟩
    exact ⟨he, ⟨v', v2', u, _, _, h3.stepR hm2 hv2 (RGrew.refl _ _) ho2, alike_erase h2 k⟩, ho2⟩
theorem Alike.free {m : M} {r : R} (h2 : Alike n m r) (p : Pkt) : freeB m.cuts p = freeR r.cuts p := by
  unfold freeB freeR
  rw [h2.tie]
theorem Both.deliver (h : Both W a mb a2 g n w) (id : Int) :
    ∃ (p : Pkt) (b : Bool), Step W w a mb a2 g (n + 1) 14 17 #[.pointer (some ⟨a, 0, none⟩), .int .i64 id] #[.pointer (some ⟨a2, 0, none⟩), .int .i64 id] (.tuple #[p.val, .bool b]) := by
  obtain ⟨v, v2, u, m, r, h1, h2⟩ := h
  have hl := h2.last; have hp := h2.ps; have hlen := h2.len
  rcases idxOf_cases (hasId id) r.ps with hx | ⟨k, hk, hx⟩
  · refine ⟨zeroP, false, (Deliver_none w W.heap.size a mb v m id h1.m1 (by rw [hp]; exact hx)).mono ?_⟩
    rintro e w1 ⟨he, hb1⟩
    refine ⟨he, then_of (h1.below hb1) fun w1 h3 => (rDeliver_none w1 W.heap.size a2 v2 u r id h3.m2 hx).mono ?_, hb1.size⟩
    rintro e w2 ⟨he, hb2⟩
    exact ⟨he, ⟨v, v2, u, m, r, h3.below hb2, h2.up (by omega)⟩, Only.of_below hb2⟩
  have hfr := h2.free r.ps[k]
  cases hf : freeR r.cuts r.ps[k]
  · have hcut : isCut r.cuts r.ps[k].src r.ps[k].dst = true := by simpa [freeR] using hf
    refine ⟨zeroP, false, (Deliver_cut w W.heap.size a mb v m id k h1.m1 (by rw [hp]; exact hk) (by rw [hp]; exact hx) (by simp only [hp]; rw [hfr, hf])).mono ?_⟩
    rintro e w1 ⟨he, hb1⟩
    refine ⟨he, then_of (h1.below hb1) fun w1 h3 => (rDeliver_cut w1 W.heap.size a2 v2 u r id k h3.m2 hk hx hcut).mono ?_, hb1.size⟩
    rintro e w2 ⟨he, hb2⟩
    exact ⟨he, ⟨v, v2, u, m, r, h3.below hb2, h2.up (by omega)⟩, Only.of_below hb2⟩
  · have hcut : isCut r.cuts r.ps[k].src r.ps[k].dst = false := by simpa [freeR] using hf
    have hc := Deliver_some w W.heap.size a mb v m id k h1.m1 (by rw [hp]; exact hk) (by rw [hp]; exact hx) (by simp only [hp]; rw [hfr, hf])
    simp only [hl, hp] at hc
    refine ⟨r.ps[k], true, hc.mono ?_⟩
    rintro e w1 ⟨he, ⟨v', hm, hv⟩, ho⟩
    refine ⟨he, then_of (h1.stepM hm (.inl hv) ho) fun w1 h3 => (rDeliver_some w1 W.heap.size a2 v2 u r id k h3.m2 hk hx hcut hlen).mono ?_, ho.size⟩
    rintro e w2 ⟨he, ⟨v2', hm2, hv2⟩, ho2⟩
    exact ⟨he, ⟨v', v2', u, _, _, h3.stepR hm2 hv2 (RGrew.refl _ _) ho2, alike_erase h2 k⟩, ho2⟩
theorem Both.next (h : Both W a mb a2 g n w) :
    ∃ (p : Pkt) (b : Bool), Step W w a mb a2 g (n + 1) 11 18 #[.pointer (some ⟨a, 0, none⟩)] #[.pointer (some ⟨a2, 0, none⟩)] (.tuple #[p.val, .bool b]) := by
  obtain ⟨v, v2, u, m, r, h1, h2⟩ := h
  have hl := h2.last; have hp := h2.ps; have hlen := h2.len
  have hfe : freeB m.cuts = freeR r.cuts := funext fun p => h2.free p
  rcases idxOf_cases (freeR r.cuts) r.ps with hx | ⟨k, hk, hx⟩
  · refine ⟨zeroP, false, (Next_none w W.heap.size a mb v m h1.m1 (by rw [hp, hfe]; exact hx)).mono ?_⟩
    rintro e w1 ⟨he, hb1⟩
    refine ⟨he, then_of (h1.below hb1) fun w1 h3 => (rNext_none w1 W.heap.size a2 v2 u r h3.m2 hx).mono ?_, hb1.size⟩
    rintro e w2 ⟨he, hb2⟩
    exact ⟨he, ⟨v, v2, u, m, r, h3.below hb2, h2.up (by omega)⟩, Only.of_below hb2⟩
  · have hc := Next_some w W.heap.size a mb v m k h1.m1 (by rw [hp]; exact hk) (by rw [hp, hfe]; exact hx)
    simp only [hl, hp] at hc
    refine ⟨r.ps[k], true, hc.mono ?_⟩
    rintro e w1 ⟨he, ⟨v', hm, hv⟩, ho⟩
    refine ⟨he, then_of (h1.stepM hm (.inl hv) ho) fun w1 h3 => (rNext_some w1 W.heap.size a2 v2 u r k h3.m2 hk hx hlen).mono ?_, ho.size⟩
    rintro e w2 ⟨he, ⟨v2', hm2, hv2⟩, ho2⟩
    exact ⟨he, ⟨v', v2', u, _, _, h3.stepR hm2 hv2 (RGrew.refl _ _) ho2, alike_erase h2 k⟩, ho2⟩
theorem Both.cut (h : Both W a mb a2 g n w) (x y : Int) (hn : n ≤ 1200) :
    Step W w a mb a2 g (n + 1) 13 22 #[.pointer (some ⟨a, 0, none⟩), .int .i64 x, .int .i64 y] #[.pointer (some ⟨a2, 0, none⟩), .int .i64 x, .int .i64 y] (.tuple #[]) := by
  obtain ⟨v, v2, u, m, r, h1, h2⟩ := h
  have hcl := h2.cl; have hl1 := h2.l1
  refine (Cut_any w W.heap.size a mb v m x y h1.m1).mono ?_
  rintro e w1 ⟨he, hm, ho⟩
  cases hc : isCut r.cuts x y
  · refine ⟨he, then_of (h1.stepM hm (.inl rfl) ho) fun w1 h3 => (rCut_new w1 W.heap.size a2 v2 u r x y h3.m2 hc (by omega)).mono ?_, ho.size⟩
    rintro e w2 ⟨he, ⟨u', hm2, hu⟩, ho2⟩
    exact ⟨he, ⟨v, v2, u', _, _, h3.stepR hm2 (RGrew.refl _ _) hu ho2, ⟨h2.ps, h2.last, h2.tie.add x y hc, h2.len, h2.l0, by show r.last ≤ _; omega, by simp; omega, h2.body⟩⟩, ho2⟩
  · refine ⟨he, then_of (h1.stepM hm (.inl rfl) ho) fun w1 h3 => (rCut_is w1 W.heap.size a2 v2 u r x y h3.m2 hc).mono ?_, ho.size⟩
    rintro e w2 ⟨he, hb2⟩
    exact ⟨he, ⟨v, v2, u, _, _, h3.below hb2, ⟨h2.ps, h2.last, h2.tie.addIs x y hc, h2.len, h2.l0, by omega, by omega, h2.body⟩⟩, Only.of_below hb2⟩
theorem Both.join (h : Both W a mb a2 g n w) (x y : Int) (hn : n ≤ 1200) :
    Step W w a mb a2 g (n + 1) 15 23 #[.pointer (some ⟨a, 0, none⟩), .int .i64 x, .int .i64 y] #[.pointer (some ⟨a2, 0, none⟩), .int .i64 x, .int .i64 y] (.tuple #[]) := by
  obtain ⟨v, v2, u, m, r, h1, h2⟩ := h
  have hcl := h2.cl; have hl1 := h2.l1
  refine (Join_any w W.heap.size a mb v m x y h1.m1).mono ?_
  rintro e w1 ⟨he, hm, ho⟩
  refine ⟨he, then_of (h1.stepM hm (.inl rfl) ho) fun w1 h3 => (rJoin_any w1 W.heap.size a2 v2 u r x y h3.m2 (by omega)).mono ?_, ho.size⟩
  rintro e w2 ⟨he, ⟨u', hm2, hu⟩, ho2⟩
  refine ⟨he, ⟨v, v2, u', _, _, h3.stepR hm2 (RGrew.refl _ _) hu ho2, ⟨h2.ps, h2.last, h2.tie.del x y, h2.len, h2.l0, by show r.last ≤ _; omega, ?_, h2.body⟩⟩, ho2⟩
  have : (delPair r.cuts x y).length ≤ r.cuts.length := List.length_filter_le _ _
  show (delPair r.cuts x y).length ≤ _
  omega
/-- What is in flight is asked of both. -/
theorem Both.flight (h : Both W a mb a2 g n w) :
    ∃ (A2 : Option Addr) (c2 len : Nat), w.cell? ⟨a2, 0, none⟩ = some (.slice A2 len c2) ∧ a2 < w.heap.size ∧
      ∀ w0, Below w.heap.size w w0 → Calls Try.prog 12 #[.pointer (some ⟨a, 0, none⟩)] w0 fun e w1 => ∃ A' c', e = .returned (.slice A' len c') ∧ w1.cell? ⟨a2, 0, none⟩ = some (.slice A2 len c2) ∧ Both W a mb a2 g n w1 ∧ w0.heap.size ≤ w1.heap.size ∧
        ∀ w2, Below w1.heap.size w1 w2 → Calls Try.prog 24 #[.slice A' len c', .slice A2 len c2] w2 fun e w3 => e = .returned (.bool true) ∧ w3.cell? ⟨a2, 0, none⟩ = some (.slice A2 len c2) ∧ Both W a mb a2 g n w3 ∧ w2.heap.size ≤ w3.heap.size := by
  obtain ⟨v, v2, u, m, r, h1, h2⟩ := h
  have hp := h2.ps; have hlen := h2.len
  obtain ⟨A2, c2, rfl, _, hmax⟩ := own_shape h1.m2.own
  refine ⟨A2, c2, r.ps.length, h1.m2.c0, h1.m2.alt, fun w0 hb0 => ?_⟩
  have h3 := h1.below hb0
  have hc := Flight_any w0 W.heap.size a mb v m h3.m1 (by rw [hp]; omega)
  rw [hp] at hc
  refine hc.mono ?_
  rintro e w1 ⟨A', c', he, hown, hb1⟩
  have h4 := h3.below hb1
  refine ⟨A', c', he, h4.m2.c0, ⟨v, _, u, m, r, h4, h2⟩, hb1.size, fun w2 hb2 => ?_⟩
  have h5 := h4.below hb2
  have hown2 := own_only hown (Only.of_below (F := fun _ => False) hb2) (fun _ _ h => h)
  refine (Packets_same w2 A' A2 c' c2 r.ps.length r.ps rfl (by omega) (rowAt_of_own hown2 rfl (cells_len _) (by simp)) (h5.m2.row rfl)).mono ?_
  rintro e w3 ⟨he, hb3⟩
  exact ⟨he, (h5.below hb3).m2.c0, ⟨v, _, u, m, r, h5.below hb3, h2⟩, hb3.size⟩
end
end Go.Proofs.Ytbgobcjnckoekaa
