/- What is proved: a map keyed by pairs of ints, as a set: looking up, storing, deleting. No condition beyond what each law states. -/
import Derived.Test.YtbgobcjnckoekaaMem
namespace Go.Proofs.Ytbgobcjnckoekaa
open Go.RowKit
theorem run_equal_pair_d (d : Nat) (a b x y : Int) (w : World) : (Op.equalIn (d + 2) 60 (.agg #[.int .i64 a, .int .i64 b]) (.agg #[.int .i64 x, .int .i64 y])).run Try.prog w = .ok (a == x && b == y) w := by
  by_cases h1 : a = x <;> by_cases h2 : b = y <;> simp [go_sem, h1, h2]
theorem run_equal_pair (a b x y : Int) (w : World) : (Op.equal 60 (.agg #[.int .i64 a, .int .i64 b]) (.agg #[.int .i64 x, .int .i64 y])).run Try.prog w = .ok (a == x && b == y) w :=
  run_equal_pair_d 9998 a b x y w
theorem run_checkKey_pair_d (n : Nat) (e : Bool) (a b : Int) (w : World) : (Instr.checkKey e (n + 2) 60 (.agg #[.int .i64 a, .int .i64 b])).run Try.prog w = .ok () w := by
  simp [go_sem, Instr.checkKey]
theorem run_checkKey_pair (e : Bool) (a b : Int) (w : World) : (Instr.checkKey e 10000 60 (.agg #[.int .i64 a, .int .i64 b])).run Try.prog w = .ok () w :=
  run_checkKey_pair_d 9998 e a b w

/-- The cuts: block mb is a map whose keys are just the pairs of which C says yes; each value is 1. -/
def CutsAt (w : World) (mb : Nat) (C : Int → Int → Bool) : Prop :=
  ∃ es clock, w.heap[mb]? = some (.map es clock) ∧ (∀ e ∈ es.toList, ∃ a b, e.key = .agg #[.int .i64 a, .int .i64 b] ∧ e.val = .int .i64 1 ∧ C a b = true) ∧
    (∀ a b, C a b = true → ∃ e ∈ es.toList, e.key = .agg #[.int .i64 a, .int .i64 b]) ∧ es.toList.Pairwise (fun e f => e.key ≠ f.key)

theorem findAsking_pair (a b : Int) (w : World) : ∀ (es : List MapEntry) (i : Nat), (∀ e ∈ es, ∃ x y, e.key = .agg #[.int .i64 x, .int .i64 y]) →
    ((Instr.findAsking 60 (.agg #[.int .i64 a, .int .i64 b]) es i).run Try.prog w = .ok none w ∧ ∀ e ∈ es, e.key ≠ .agg #[.int .i64 a, .int .i64 b]) ∨
    ∃ j e, (Instr.findAsking 60 (.agg #[.int .i64 a, .int .i64 b]) es i).run Try.prog w = .ok (some (i + j, e.val)) w ∧ es[j]? = some e ∧ e.key = .agg #[.int .i64 a, .int .i64 b]
  | [], i, _ => .inl ⟨rfl, by simp⟩
  | e :: es, i, hk => by
    obtain ⟨x, y, hxy⟩ := hk e (by simp)
    by_cases h : a = x ∧ b = y
    · obtain ⟨rfl, rfl⟩ := h
      refine .inr ⟨0, e, ?_, rfl, hxy⟩
      simp [Instr.findAsking, hxy, run_equal_pair]
    · have hne : (a == x && b == y) = false := by simpa using h
      have hr : (Instr.findAsking 60 (.agg #[.int .i64 a, .int .i64 b]) (e :: es) i).run Try.prog w = (Instr.findAsking 60 (.agg #[.int .i64 a, .int .i64 b]) es (i + 1)).run Try.prog w := by
        simp [Instr.findAsking, hxy, run_equal_pair, hne]
      rw [hr]
      rcases findAsking_pair a b w es (i + 1) (fun f hf => hk f (by simp [hf])) with ⟨h1, h2⟩ | ⟨j, f, h1, h2, h3⟩
      · refine .inl ⟨h1, fun f hf => ?_⟩
        rcases List.mem_cons.1 hf with rfl | hf
        · rw [hxy]; intro he; simp at he; exact h ⟨he.1.symm, he.2.symm⟩
        · exact h2 f hf
      · exact .inr ⟨j + 1, f, by rw [h1]; congr 3; omega, by simpa using h2, h3⟩

theorem findKey_pair (a b : Int) (w : World) (es : List MapEntry) (hk : ∀ e ∈ es, ∃ x y, e.key = .agg #[.int .i64 x, .int .i64 y]) :
    ((Instr.findKey 60 (.agg #[.int .i64 a, .int .i64 b]) es).run Try.prog w = .ok none w ∧ ∀ e ∈ es, e.key ≠ .agg #[.int .i64 a, .int .i64 b]) ∨
    ∃ j e, (Instr.findKey 60 (.agg #[.int .i64 a, .int .i64 b]) es).run Try.prog w = .ok (some (j, e.val)) w ∧ es[j]? = some e ∧ e.key = .agg #[.int .i64 a, .int .i64 b] := by
  cases es with
  | nil => exact .inl ⟨by simp [Instr.findKey, Instr.findNow], by simp⟩
  | cons e es =>
    have hr : (Instr.findKey 60 (.agg #[.int .i64 a, .int .i64 b]) (e :: es)).run Try.prog w = (Instr.findAsking 60 (.agg #[.int .i64 a, .int .i64 b]) (e :: es) 0).run Try.prog w := by
      simp [Instr.findKey, Instr.findNow, Instr.sameNow]
    rw [hr]
    rcases findAsking_pair a b w (e :: es) 0 hk with h | ⟨j, f, h1, h2, h3⟩
    · exact .inl h
    · exact .inr ⟨j, f, by rw [h1]; simp, h2, h3⟩

def bit (b : Bool) : Int := if b then 1 else 0
theorem CutsAt.look {w : World} {mb : Nat} {C : Int → Int → Bool} (h : CutsAt w mb C) (a b : Int) :
    (Instr.lookup 50 (.map (some mb)) (.agg #[.int .i64 a, .int .i64 b]) false).run Try.prog w = .ok (.int .i64 (bit (C a b))) w := by
  obtain ⟨es, clock, hh, hk, hc, _⟩ := h
  have hg : (getObj mb).run Try.prog w = .ok (.map es clock) w := by simp [getObj, Sem.run, hh]
  have hk' : ∀ e ∈ es.toList, ∃ x y, e.key = .agg #[.int .i64 x, .int .i64 y] := fun e he => by obtain ⟨x, y, h1, _⟩ := hk e he; exact ⟨x, y, h1⟩
  rcases findKey_pair a b w es.toList hk' with ⟨h1, h2⟩ | ⟨j, e, h1, h2, h3⟩
  · have hC : C a b = false := by
      cases hC : C a b with
      | false => rfl
      | true => obtain ⟨e, he, hke⟩ := hc a b hC; exact absurd hke (h2 e he)
    simp [Instr.lookup, hg, run_checkKey_pair, h1, hC, bit]
  · have he : e ∈ es.toList := List.mem_of_getElem? h2
    obtain ⟨x, y, k1, k2, k3⟩ := hk e he
    rw [h3] at k1; simp at k1; obtain ⟨rfl, rfl⟩ := k1
    simp [Instr.lookup, hg, run_checkKey_pair, h1, k2, k3, bit]

theorem CutsAt.block {w w' : World} {mb : Nat} {C : Int → Int → Bool} (h : CutsAt w mb C) (hb : w'.heap[mb]? = w.heap[mb]?) : CutsAt w' mb C := by
  obtain ⟨es, clock, hh, r⟩ := h
  exact ⟨es, clock, hb.trans hh, r⟩
theorem CutsAt.lt {w : World} {mb : Nat} {C : Int → Int → Bool} (h : CutsAt w mb C) : mb < w.heap.size := by
  obtain ⟨es, clock, hh, _⟩ := h
  rcases Nat.lt_or_ge mb w.heap.size with h | h
  · exact h
  · rw [Array.getElem?_eq_none h] at hh; cases hh

def addCut (C : Int → Int → Bool) (a b : Int) : Int → Int → Bool := fun x y => C x y || (x == a && y == b)
def delCut (C : Int → Int → Bool) (a b : Int) : Int → Int → Bool := fun x y => C x y && !(x == a && y == b)

theorem only_setObj (w : World) (mb : Nat) (o : Obj) : Only (· = mb) w { w with heap := w.heap.setIfInBounds mb o } :=
  ⟨rfl, rfl, rfl, by simp, fun k hk hne => by
    simp only [Array.getElem?_setIfInBounds]
    rw [if_neg (fun h => hne h.symm)]⟩

theorem CutsAt.update {w : World} {mb : Nat} {C : Int → Int → Bool} (h : CutsAt w mb C) (a b : Int) :
    ∃ w', (Instr.mapUpdate 50 (.map (some mb)) (.agg #[.int .i64 a, .int .i64 b]) (.int .i64 1)).run Try.prog w = .ok () w' ∧ CutsAt w' mb (addCut C a b) ∧ Only (· = mb) w w' := by
  have hlt := h.lt
  obtain ⟨es, clock, hh, hk, hc, hp⟩ := h
  have hg : (getObj mb).run Try.prog w = .ok (.map es clock) w := by simp [getObj, Sem.run, hh]
  have hset : ∀ o, (setObj mb o).run Try.prog w = .ok () { w with heap := w.heap.setIfInBounds mb o } := fun o => by simp [setObj, Sem.run, hh]
  have hk' : ∀ e ∈ es.toList, ∃ x y, e.key = .agg #[.int .i64 x, .int .i64 y] := fun e he => by obtain ⟨x, y, h1, _⟩ := hk e he; exact ⟨x, y, h1⟩
  have hnew : ∀ o, ({ w with heap := w.heap.setIfInBounds mb o } : World).heap[mb]? = some o := fun o => by simp [hlt]
  rcases findKey_pair a b w es.toList hk' with ⟨h1, h2⟩ | ⟨j, e, h1, h2, h3⟩
  · refine ⟨_, ?_, ⟨es.push { key := .agg #[.int .i64 a, .int .i64 b], val := .int .i64 1, born := clock }, clock + 1, hnew _, ?_, ?_, ?_⟩, only_setObj w mb _⟩
    · simp [Instr.mapUpdate, hg, run_checkKey_pair, h1, hset]
    · intro e he
      simp only [Array.toList_push, List.mem_append, List.mem_singleton] at he
      rcases he with he | rfl
      · obtain ⟨x, y, k1, k2, k3⟩ := hk e he
        exact ⟨x, y, k1, k2, by simp [addCut, k3]⟩
      · exact ⟨a, b, rfl, rfl, by simp [addCut]⟩
    · intro x y hxy
      simp only [addCut, Bool.or_eq_true, Bool.and_eq_true, beq_iff_eq] at hxy
      rcases hxy with hxy | ⟨rfl, rfl⟩
      · obtain ⟨e, he, hke⟩ := hc x y hxy
        exact ⟨e, by simp [he], hke⟩
      · exact ⟨{ key := .agg #[.int .i64 x, .int .i64 y], val := .int .i64 1, born := clock }, by simp, rfl⟩
    · simp only [Array.toList_push]
      refine List.pairwise_append.2 ⟨hp, by simp, fun e he f hf => ?_⟩
      simp at hf; subst hf; exact h2 e he
  · have he : e ∈ es.toList := List.mem_of_getElem? h2
    obtain ⟨x, y, k1, k2, k3⟩ := hk e he
    rw [h3] at k1; simp at k1; obtain ⟨rfl, rfl⟩ := k1
    have hj : j < es.size := by have := (List.getElem?_eq_some_iff.1 h2).1; simpa using this
    have hej : es[j]? = some e := by simpa using h2
    have hst : (Instr.keyThatStays (.agg #[.int .i64 a, .int .i64 b]) (.agg #[.int .i64 a, .int .i64 b])).run Try.prog w = .ok (.agg #[.int .i64 a, .int .i64 b]) w := by
      simp [Instr.keyThatStays, Instr.sameBits]
    have hmod : (es.modify j fun e => { e with key := .agg #[.int .i64 a, .int .i64 b], val := .int .i64 1 }) = es := by
      apply Array.ext_getElem?
      intro i
      rw [Array.getElem?_modify]
      split
      · rename_i hij; subst hij
        rw [hej]
        simp only [Option.map_some]
        rw [← h3, ← k2]
      · rfl
    refine ⟨_, ?_, ⟨es, clock, hnew _, fun f hf => ?_, fun p q hpq => ?_, hp⟩, only_setObj w mb _⟩
    · simp only [Instr.mapUpdate, Sem.run_bind, run_underlying Try.underlying50, Result.andThen_ok, hg, run_checkKey_pair, h1, hej, Option.map_some, Option.getD_some, h3, hst, hmod, hset]
    · obtain ⟨p, q, q1, q2, q3⟩ := hk f hf
      exact ⟨p, q, q1, q2, by simp [addCut, q3]⟩
    · simp only [addCut, Bool.or_eq_true, Bool.and_eq_true, beq_iff_eq] at hpq
      rcases hpq with hpq | ⟨rfl, rfl⟩
      · exact hc p q hpq
      · exact ⟨e, he, h3⟩

theorem CutsAt.delete {w : World} {mb : Nat} {C : Int → Int → Bool} (h : CutsAt w mb C) (a b : Int) (ty : TypeId) :
    ∃ w', (Builtin.delete_ #[50, 60] ty #[.map (some mb), .agg #[.int .i64 a, .int .i64 b]]).run Try.prog w = .ok (.tuple #[]) w' ∧ CutsAt w' mb (delCut C a b) ∧ Only (· = mb) w w' := by
  have hlt := h.lt
  obtain ⟨es, clock, hh, hk, hc, hp⟩ := h
  have hg : (getObj mb).run Try.prog w = .ok (.map es clock) w := by simp [getObj, Sem.run, hh]
  have hset : ∀ o, (setObj mb o).run Try.prog w = .ok () { w with heap := w.heap.setIfInBounds mb o } := fun o => by simp [setObj, Sem.run, hh]
  have hk' : ∀ e ∈ es.toList, ∃ x y, e.key = .agg #[.int .i64 x, .int .i64 y] := fun e he => by obtain ⟨x, y, h1, _⟩ := hk e he; exact ⟨x, y, h1⟩
  have hnew : ∀ o, ({ w with heap := w.heap.setIfInBounds mb o } : World).heap[mb]? = some o := fun o => by simp [hlt]
  rcases findKey_pair a b w es.toList hk' with ⟨h1, h2⟩ | ⟨j, e, h1, h2, h3⟩
  · refine ⟨_, ?_, ⟨es, clock, hnew _, fun f hf => ?_, fun p q hpq => ?_, hp⟩, only_setObj w mb _⟩
    · simp [Builtin.delete_, hg, run_checkKey_pair, h1, hset]
    · obtain ⟨p, q, q1, q2, q3⟩ := hk f hf
      refine ⟨p, q, q1, q2, ?_⟩
      have : ¬ (p = a ∧ q = b) := fun ⟨hp, hq⟩ => h2 f hf (by rw [q1, hp, hq])
      simp only [delCut, q3, Bool.true_and, Bool.not_eq_true', Bool.and_eq_false_iff, beq_eq_false_iff_ne, ne_eq]
      by_cases hpa : p = a
      · right; exact fun hq => this ⟨hpa, hq⟩
      · left; exact hpa
    · simp only [delCut, Bool.and_eq_true] at hpq
      exact hc p q hpq.1
  · have he : e ∈ es.toList := List.mem_of_getElem? h2
    have hj : j < es.toList.length := (List.getElem?_eq_some_iff.1 h2).1
    have hje : es.toList[j] = e := (List.getElem?_eq_some_iff.1 h2).2
    have hlist : (es.eraseIdxIfInBounds j).toList = es.toList.eraseIdx j := by
      simp [Array.eraseIdxIfInBounds, hj, show j < es.size from by simpa using hj]
    refine ⟨_, ?_, ⟨es.eraseIdxIfInBounds j, clock, hnew _, fun f hf => ?_, fun p q hpq => ?_, ?_⟩, only_setObj w mb _⟩
    · simp [Builtin.delete_, hg, run_checkKey_pair, h1, hset]
    · rw [hlist] at hf
      have hf' := List.mem_of_mem_eraseIdx hf
      obtain ⟨p, q, q1, q2, q3⟩ := hk f hf'
      refine ⟨p, q, q1, q2, ?_⟩
      have hne : f.key ≠ e.key := by
        obtain ⟨i, hi, hij, hfi⟩ := List.mem_eraseIdx_iff_getElem.1 hf
        subst hfi; subst hje
        rcases Nat.lt_or_gt_of_ne hij with h | h
        · exact List.pairwise_iff_getElem.1 hp i j hi hj h
        · exact (List.pairwise_iff_getElem.1 hp j i hj hi h).symm
      have : ¬ (p = a ∧ q = b) := fun ⟨hp, hq⟩ => hne (by rw [q1, h3, hp, hq])
      simp only [delCut, q3, Bool.true_and, Bool.not_eq_true', Bool.and_eq_false_iff, beq_eq_false_iff_ne, ne_eq]
      by_cases hpa : p = a
      · right; exact fun hq => this ⟨hpa, hq⟩
      · left; exact hpa
    · simp only [delCut, Bool.and_eq_true, Bool.not_eq_true', Bool.and_eq_false_iff, beq_eq_false_iff_ne, ne_eq] at hpq
      obtain ⟨f, hf, hkf⟩ := hc p q hpq.1
      refine ⟨f, ?_, hkf⟩
      rw [hlist]
      obtain ⟨i, hi, hfi⟩ := List.getElem_of_mem hf
      refine List.mem_eraseIdx_iff_getElem.2 ⟨i, hi, fun hij => ?_, hfi⟩
      subst hij
      rw [hje] at hfi; subst hfi
      rw [h3] at hkf; simp at hkf
      rcases hpq.2 with hx | hx
      · exact hx hkf.1.symm
      · exact hx hkf.2.symm
    · rw [hlist]
      exact hp.sublist (List.eraseIdx_sublist _ _)
end Go.Proofs.Ytbgobcjnckoekaa
