/- What is proved: a region that draws its order, whose first n operations only read, whose operation n waits for all of them, and whose other operations wait for operation n or for one behind it: one walk of the first n in the text's order serves every order. Conditions: the Bools named in the law. -/
import Derived.Test.YtbgobcjnckoekaaMem
import Derived.StillTailTactics
namespace Go.Proofs.Ytbgobcjnckoekaa

section
variable {P : Program} {ops : Array Oper} {md : Region.Mode} {w : World}

def fanB (md : Region.Mode) (ops : Array Oper) (n : Nat) : Bool :=
  (List.range ops.size).all fun t => decide (t ≤ n) || (List.range t).any fun i => decide (n ≤ i) && Region.waitsFor md ops t i

/-- An operation that may come up has seen all that it waits for. -/
theorem ready_seen {listed : Array Bool} {t i : Nat} (h : t ∈ Region.ready md ops listed) (hw : Region.waitsFor md ops t i = true) : listed.getD i false = true := by
  obtain ⟨_, ot, hot, hall⟩ := mem_ready.1 h
  obtain ⟨o', ho', e, he, hb, hon⟩ := Region.waitsFor_spec hw
  have : o' = ot := Option.some.inj (ho'.symm.trans hot)
  subst this
  rw [← hon]; exact hall e he hb
theorem head_seen {n j i : Nat} {listed : Array Bool} (inv : HeadInv md ops n listed) (hl : listed.getD j false = true) (hw : Region.waitsFor md ops j i = true) : listed.getD i false = true := by
  obtain ⟨oj, hoj, e, he, hb, hon⟩ := Region.waitsFor_spec hw
  rw [← hon]; exact inv.closed j oj hoj hl e he hb
/-- As long as one of the first n has not come up none of the others may. -/
theorem fan_waits {n : Nat} {listed : Array Bool} (hs : Region.sinkB md ops n = true) (hf : fanB md ops n = true) (hn : n < ops.size) (inv : HeadInv md ops n listed) {i : Nat} (hi : i < n) (hun : listed.getD i false = false) : ∀ t ∈ Region.ready md ops listed, t < n := by
  have hnot : n ∉ Region.ready md ops listed := by
    intro hr
    have key : ∀ d i, n - i = d → i < n → listed.getD i false = true := by
      intro d
      induction d using Nat.strongRecOn with
      | _ d ih =>
        intro i hd hi
        obtain ⟨j, _, hj⟩ := List.any_eq_true.1 (List.all_eq_true.1 hs i (List.mem_range.2 hi))
        rename_i hjn
        have hjn := List.mem_range.1 hjn
        simp only [Bool.and_eq_true, decide_eq_true_eq] at hj
        rcases Nat.lt_or_ge j n with h1 | h1
        · exact head_seen inv (ih (n - j) (by omega) j rfl h1) hj.2
        · have : j = n := by omega
          subst this
          exact ready_seen hr hj.2
    rw [key (n - i) i rfl hi] at hun
    cases hun
  intro t ht
  rcases Nat.lt_trichotomy t n with h1 | h1 | h1
  · exact h1
  · subst h1; exact absurd ht hnot
  · obtain ⟨_, ot, hot, _⟩ := mem_ready.1 ht
    have htl : t < ops.size := (Array.getElem?_eq_some_iff.1 hot).1
    have h2 := List.all_eq_true.1 hf t (List.mem_range.2 htl)
    simp only [Bool.or_eq_true, decide_eq_true_eq] at h2
    rcases h2 with h2 | h2
    · omega
    · obtain ⟨i', hi', h3⟩ := List.any_eq_true.1 h2
      simp only [Bool.and_eq_true, decide_eq_true_eq] at h3
      have := ready_seen ht h3.2
      rw [getD_both (inv.tail i' h3.1 (by have := List.mem_range.1 hi'; omega))] at this
      cases this

theorem fan_first {n i : Nat} {oi : Oper} {v : Value} {L : Array Bool → Act → Prop} (hi : ops[i]? = some oi) (hsel : ∀ (j : Nat) (o : Oper) cs b, ops[j]? = some o → o.op ≠ .select cs b)
    (hs : Region.sinkB md ops n = true) (hf : fanB md ops n = true) (hn : n < ops.size) (hin : i < n) (hdone : ∀ listed a, L listed a → ∀ j ∈ Region.ready md ops listed, n ≤ j) :
    ∀ (f : Nat) (listed : Array Bool) (a : Act), HeadInv md ops n listed →
      (∀ j oj, ops[j]? = some oj → j ≠ i → listed.getD j true = false → (∀ e ∈ oj.after, Region.binds md e = true → e.on ≠ i) → oi.apart ops oj = true) →
      i ∈ Region.ready md ops listed → YieldsAt P ops w oi v a →
      wpAnyL P md ops w n L f (listed.setIfInBounds i true) (a.put oi.dst v) → wpAnyL P md ops w n L (f + 1) listed a := by
  intro f
  induction f with
  | zero =>
    intro listed a inv _ hr hy H
    refine ⟨List.ne_nil_of_mem hr, fun j hj => ?_⟩
    have hjn := fan_waits hs hf hn inv hin (getD_both (mem_ready.1 hr).1) j hj
    by_cases hji : j = i
    · subst hji; exact ⟨hin, hy.stOp hi H⟩
    · have := hdone _ _ H j (ready_mono hj hji); omega
  | succ f ih =>
    intro listed a inv hfree hr hy H
    have hun := getD_both (mem_ready.1 hr).1
    refine ⟨List.ne_nil_of_mem hr, fun j hj => ?_⟩
    have hjn := fan_waits hs hf hn inv hin hun j hj
    refine ⟨hjn, ?_⟩
    by_cases hji : j = i
    · subst hji; exact hy.stOp hi H
    obtain ⟨hjun, oj, hoj, hall⟩ := mem_ready.1 hj
    have hno : ∀ e ∈ oj.after, Region.binds md e = true → e.on ≠ i := fun e he hb heq => by
      have := hall e he hb; rw [heq, hun] at this; cases this
    refine stOp_mono (fun a' h3 => ih (listed.setIfInBounds j true) a' (inv.set hj hjn) (fun k ok hk hki hun' hno' => ?_) (ready_mono hr (Ne.symm hji)) h3.1 ?_)
      (stOp_put hoj (hfree j oj hoj hji hjun hno) (fun cs b => hsel i oi cs b hi) (fun cs b => hsel j oj cs b hoj) hy (H.2 j (ready_mono hj hji)).2)
    · refine hfree k ok hk hki ?_ hno'
      by_cases hjk : j = k
      · subst hjk; exact hjun
      · rwa [getD_set_ne true hjk] at hun'
    · rw [Array.setIfInBounds_comm _ _ hji]; exact h3.2

def fanHead (md : Region.Mode) (ops : Array Oper) (goal : Array Bool) : Nat → Nat → Array Bool → Bool
  | 0, _, listed => listed == goal
  | f + 1, k, listed => (Region.ready md ops listed).contains k && Region.free md ops listed k && fanHead md ops goal f (k + 1) (listed.setIfInBounds k true)

theorem fan_lex {n : Nat} {goal : Array Bool} {Lq : Act → Prop} (hsel : Region.noSelect ops = true) (hs : Region.sinkB md ops n = true) (hf : fanB md ops n = true) (hn : n < ops.size) (hgoal : (Region.ready md ops goal).all (fun j => decide (n ≤ j)) = true) :
    ∀ (l : List Oper) (k : Nat) (listed : Array Bool) (a : Act), (∀ j, j < l.length → l[j]? = ops[k + j]?) → k + l.length = n → HeadInv md ops n listed →
    fanHead md ops goal l.length k listed = true → wpStill P ops w Lq l a → wpAnyL P md ops w n (fun listed' a' => listed' = goal ∧ Lq a') l.length listed a
  | [], k, listed, a, _, _, _, hB, h => ⟨by simpa [fanHead] using hB, h⟩
  | o :: l, k, listed, a, hl, hk, inv, hB, h => by
    have h0 : ops[k]? = some o := by simpa using (hl 0 (by simp)).symm
    simp only [List.length_cons, fanHead, Bool.and_eq_true] at hB
    obtain ⟨⟨hr, hfr⟩, hB'⟩ := hB
    have hkn : k < n := by simp only [List.length_cons] at hk; omega
    have hr' : k ∈ Region.ready md ops listed := by simpa using hr
    have hst : stOp P ops w k (wpStill P ops w Lq l) a := by unfold stOp; simp only [h0]; exact h
    obtain ⟨v, hy, hK⟩ := yieldsAt_of_stOp h0 hst
    refine fan_first h0 (Region.noSelect_spec hsel) hs hf hn hkn (fun listed' a' hL j hj => ?_) l.length listed a inv (Region.free_spec h0 hfr) hr' hy
      (fan_lex hsel hs hf hn hgoal l (k + 1) _ _ (fun j hj => by have := hl (j + 1) (by simp; omega); simpa [Nat.add_assoc, Nat.add_comm 1 j] using this) (by simp only [List.length_cons] at hk; omega) (inv.set hr' hkn) hB' hK)
    rw [hL.1] at hj
    simpa using List.all_eq_true.1 hgoal j hj

/-- The head's end: its operations have come up, no other. -/
def fanGoal (n m : Nat) : Array Bool := ((List.range m).map fun i => decide (i < n)).toArray
def fanAll (md : Region.Mode) (ops : Array Oper) (n : Nat) : Bool :=
  Region.noSelect ops && decide (n < ops.size) && Region.sinkB md ops n && fanB md ops n && (Region.ready md ops (fanGoal n ops.size)).all (fun j => decide (n ≤ j)) && fanHead md ops (fanGoal n ops.size) n 0 (Array.replicate ops.size false)

theorem wp_region_fan {id : Nat} {Q : Exit → Act → World → Prop} {a : Act} {w : World} {l : List Oper} (n : Nat) (hm : P.follows .mixedOrders = true) (hB : fanAll .any l.toArray n = true)
    (h : wpStill P l.toArray w.drew (fun a' => wpAny P .any l.toArray Q (l.length - n) (fanGoal n l.length) a' w.drew) (l.take n) a) : (Code.region id l.toArray true).wp P Q a w := by
  simp only [fanAll, Bool.and_eq_true, decide_eq_true_eq] at hB
  obtain ⟨⟨⟨⟨⟨hsel, hn⟩, hs⟩, hf⟩, hg⟩, hlex⟩ := hB
  have hn' : n < l.length := by simpa using hn
  have htl : (l.take n).length = n := by simp; omega
  have inv0 : HeadInv .any l.toArray n (Array.replicate l.toArray.size false) :=
    ⟨by simp, fun j oj _ hl => (by rw [getD_replicate_false] at hl; cases hl), fun t _ ht => getD_in (by simpa using ht) (getD_replicate_false _ _)⟩
  have H := fan_lex (md := .any) hsel hs hf hn hg (l.take n) 0 _ a (fun j hj => by
    have hj' : j < n := by rw [htl] at hj; exact hj
    simp [hj']) (by simpa using htl) inv0 (by rw [htl]; exact hlex) h
  refine wp_region_any hm ?_
  have := wpAny_of_head (Q' := Q) (g := l.length - n) (fun listed a' hL => by
    rw [hL.1]
    simpa using hL.2) _ _ _ H
  rw [htl, show n + (l.length - n) = l.toArray.size by simp; omega] at this
  exact this
end
end Go.Proofs.Ytbgobcjnckoekaa
