/- What is proved: whether a plan fits its map: the program's planned. -/
import Derived.Test.YtimondpollbdfaaCovers
set_option linter.unusedVariables false
set_option linter.unusedSimpArgs false
namespace Go.Proofs.Ytimondpollbdfaa
open Go.RowKit
attribute [local go_sem] Span.val Atl.val Plan.val
attribute [local go_sem high] run_eql_eqP run_neq_eqP run_eql_eqS run_neq_eqS

theorem idxOf_cases {α : Type} (q : α → Bool) (l : List α) : idxOf q l = -1 ∨ ∃ k : Nat, k < l.length ∧ idxOf q l = (k : Int) := by
  unfold idxOf
  cases h : l.findIdx? q with
  | none => exact .inl rfl
  | some k => exact .inr ⟨k, (List.findIdx?_eq_some_iff_getElem.1 h).1, rfl⟩

def isZ (p : Plan) : Bool := eqP p.kind 0 p.phase 0 p.shard 0 p.other 0 p.group 0 p.past 0 p.epoch 0 p.key ⟨#[]⟩
def PlanAt (a : Atl) (i : Nat) (s : Span) : Prop :=
  1 ≤ a.plan.epoch ∧ a.plan.epoch ≤ 1099511627774 ∧
    ((a.plan.kind = 1 ∧ moveOk a.groups s a.plan = true) ∨
     (a.plan.past = 0 ∧ a.plan.group = s.gr ∧ (a.plan.phase = 1 ∧ s.ep = a.plan.epoch ∨ a.plan.phase = 9 ∧ s.ep - 2 = a.plan.epoch) ∧
      ((a.plan.kind = 2 ∧ a.plan.other = a.last ∧ place a.sp a.plan.other < 0 ∧ inside s a.plan.key = true ∧ a.sp.length < 16) ∨
       (a.plan.kind = 3 ∧ a.plan.key.toList = [] ∧ ∃ h : i + 1 < a.sp.length, a.sp[i+1].sh = a.plan.other ∧ a.sp[i+1].gr = s.gr ∧ a.sp[i+1].ep ≤ 1099511627774))))
def PlanOk (a : Atl) : Prop := isZ a.plan = true ∨ ∃ i : Nat, ∃ h : i < a.sp.length, place a.sp a.plan.shard = (i : Int) ∧ PlanAt a i a.sp[i]

theorem eq_tr {b : Bool} {P : Prop} (h : b = true ↔ P) : b = tr P := by
  cases b
  · exact (tr_false fun hp => by have := h.2 hp; cases this).symm
  · exact (tr_true (h.1 rfl)).symm
theorem planOk_none {a : Atl} (h : place a.sp a.plan.shard = -1) : PlanOk a ↔ isZ a.plan = true :=
  ⟨fun hp => hp.elim id fun ⟨i, _, hi, _⟩ => by rw [h] at hi; omega, .inl⟩
theorem planOk_some {a : Atl} {k : Nat} (hk : k < a.sp.length) (h : place a.sp a.plan.shard = (k : Int)) : PlanOk a ↔ isZ a.plan = true ∨ PlanAt a k a.sp[k] :=
  ⟨fun hp => hp.imp id fun ⟨i, _, hi, hp⟩ => by
    have : i = k := by omega
    subst this; exact hp, fun hp => hp.imp id fun hp => ⟨k, hk, h, hp⟩⟩

set_option maxRecDepth 100000 in
set_option maxHeartbeats 4000000 in
theorem planned_zero (w : World) (v : Value) (a : Atl) (hz : isZ a.plan = true) :
    Calls Try.prog 53 #[a.val v] w fun e w' => e = .returned (.bool (tr (PlanOk a))) ∧ Below w.heap.size w w' := by
  have Hok := Lib.hid (tr_true (P := PlanOk a) (.inl hz))
  unfold isZ at hz
  go_enter Try.func53, Try.ntmps53
  go_wp2
  go_ret
  exact ⟨ret_bool Hok.out.symm, al2 _ _⟩

set_option maxRecDepth 100000 in
set_option maxHeartbeats 4000000 in
theorem planned_none (w : World) (A : Option Addr) (cap : Nat) (a : Atl) (hz : isZ a.plan = false) (hrow : RowAt w w.heap.size 5 A (a.sp.map Span.cells)) (hlen : a.sp.length ≤ 16) (hp : place a.sp a.plan.shard = -1) :
    Calls Try.prog 53 #[a.val (.slice A a.sp.length cap)] w fun e w' => e = .returned (.bool (tr (PlanOk a))) ∧ Below w.heap.size w w' := by
  have Hno := Lib.hid (tr_false (P := PlanOk a) (fun h => by rw [planOk_none hp, hz] at h; cases h))
  unfold isZ at hz
  have hpl := fun w hr => place_any w A cap a a.plan.shard hr (by omega)
  rw [hp] at hpl
  have Hrow := Lib.hid hrow; have Hpl := Lib.hid hpl; clear hrow hpl hp
  go_enter Try.func53, Try.ntmps53
  go_wp2_with (go_at_call 41; refine (Hpl.out _ (Hrow.out.below (al2 _ _) (Nat.le_refl _) |>.more (by simp; omega))).mono ?_; rintro e w1 ⟨rfl, hb1⟩; have hb2 := (al2 (w := w) (a.blk (.slice A a.sp.length cap)) a.plan.blk).trans (hb1.mono (by simp; omega)); clear hb1)
  go_ret
  exact ⟨ret_bool Hno.out.symm, hb2⟩

/-- What is known behind the call of place. -/
structure Known (w w1 : World) (b off cap k : Nat) (a : Atl) (s : Span) : Prop where
  map : w1.heap[w.heap.size]? = some (a.blk (.slice (some ⟨b, off, none⟩) a.sp.length cap))
  plan : w1.heap[w.heap.size + 1]? = some a.plan.blk
  bel : Below w.heap.size w w1
  row : RowAt w1 w1.heap.size 5 (some ⟨b, off, none⟩) (a.sp.map Span.cells)
theorem known_of {w w1 : World} {b off cap k : Nat} {a : Atl} {s : Span} (hrow : RowAt w w.heap.size 5 (some ⟨b, off, none⟩) (a.sp.map Span.cells))
    (hb1 : Below ((w.alloc (a.blk (.slice (some ⟨b, off, none⟩) a.sp.length cap))).alloc a.plan.blk).heap.size ((w.alloc (a.blk (.slice (some ⟨b, off, none⟩) a.sp.length cap))).alloc a.plan.blk) w1) : Known w w1 b off cap k a s := by
  have hbel := (al2 (w := w) (a.blk (.slice (some ⟨b, off, none⟩) a.sp.length cap)) a.plan.blk).trans (hb1.mono (by simp; omega))
  refine ⟨blk_below hb1 (by simp; omega) ((Below.heap_alloc _ _ _ (by simp)).trans (heap_alloc_new w _)), blk_below hb1 (by simp) (by simpa using heap_alloc_new (w.alloc (a.blk (.slice (some ⟨b, off, none⟩) a.sp.length cap))) a.plan.blk), hbel, (hrow.below hbel (Nat.le_refl _)).more hbel.size⟩
theorem Known.later {w w1 w2 : World} {b off cap k : Nat} {a : Atl} {s : Span} (h : Known w w1 b off cap k a s) (hb : Below w1.heap.size w1 w2) : Known w w2 b off cap k a s :=
  ⟨blk_below hb (lt_of_some h.map) h.map, blk_below hb (lt_of_some h.plan) h.plan, h.bel.trans (hb.mono h.bel.size), (h.row.below hb (Nat.le_refl _)).more hb.size⟩

end Go.Proofs.Ytimondpollbdfaa
