/- What is proved: the order of strings. No condition. -/
import Derived.Test.YtimondpollbdfaaBase
set_option linter.unusedVariables false
set_option linter.unusedSimpArgs false
namespace Go.Proofs.Ytimondpollbdfaa
open Go.RowKit

theorem less_eq : ∀ (x y : List UInt8), Op.bytesLess x y = decide (x < y)
  | [], [] => by simp [Op.bytesLess]
  | _ :: _, [] => by simp [Op.bytesLess]
  | [], _ :: _ => by simp [Op.bytesLess]
  | a :: x, b :: y => by
    rw [Op.bytesLess, less_eq x y]
    simp only [List.cons_lt_cons_iff]
    by_cases h1 : a < b <;> by_cases h2 : a = b <;> by_cases h3 : x < y <;> simp [h1, h2, h3]
def sLt (a b : ByteArray) : Bool := Op.bytesLess a.toList b.toList
def sEq (a b : ByteArray) : Bool := decide (a.toList = b.toList)
def isE (a : ByteArray) : Bool := decide (a.toList = [])
theorem sLt_irrefl (a : ByteArray) : sLt a a = false := by
  unfold sLt; rw [less_eq]; simp [List.lt_irrefl]
theorem sLt_trans {a b c : ByteArray} (h : sLt a b = true) (k : sLt b c = true) : sLt a c = true := by
  unfold sLt at *; rw [less_eq] at *
  simp only [decide_eq_true_eq] at *
  exact List.lt_trans h k
theorem sLt_asymm {a b : ByteArray} (h : sLt a b = true) : sLt b a = false := by
  cases k : sLt b a
  · rfl
  · have := sLt_trans h k; rw [sLt_irrefl] at this; cases this
/-- k > a. -/
theorem gt_iff (k a : ByteArray) : (Op.bytesLess k.toList a.toList = false ∧ ¬ k.toList = a.toList) ↔ sLt a k = true := by
  unfold sLt
  rw [less_eq, less_eq]
  simp only [decide_eq_false_iff_not, decide_eq_true_eq]
  constructor
  · rintro ⟨h1, h2⟩
    have h3 : a.toList ≤ k.toList := by simpa using h1
    rcases List.le_iff_lt_or_eq.1 h3 with h | h
    · exact h
    · exact absurd h.symm h2
  · intro h
    refine ⟨fun h1 => List.lt_irrefl _ (List.lt_trans h h1), fun h1 => ?_⟩
    rw [h1] at h; exact List.lt_irrefl _ h
theorem lt_or_ge (k a : ByteArray) : sLt a k = !(sLt k a || sEq k a) := by
  rw [Bool.eq_iff_iff, ← gt_iff]
  simp [sLt, sEq]
theorem al2 {w : World} (o p : Obj) : Below w.heap.size w ((w.alloc o).alloc p) := (al o).alloc (by simp) _
theorem al3 {w : World} (o p q : Obj) : Below w.heap.size w (((w.alloc o).alloc p).alloc q) := (al2 o p).alloc (by simp; omega) _
def eqP (a0 b0 a1 b1 a2 b2 a3 b3 a4 b4 a5 b5 a6 b6 : Int) (a7 b7 : ByteArray) : Bool := a0 == b0 && a1 == b1 && a2 == b2 && a3 == b3 && a4 == b4 && a5 == b5 && a6 == b6 && a7.toList == b7.toList
set_option maxHeartbeats 2000000 in
theorem run_eql_eqP (a0 b0 a1 b1 a2 b2 a3 b3 a4 b4 a5 b5 a6 b6 : Int) (a7 b7 : ByteArray) (w : World) : (binOp .eql 24 (.agg #[.int .i64 a0, .int .i64 a1, .int .i64 a2, .int .i64 a3, .int .i64 a4, .int .i64 a5, .int .i64 a6, .string a7]) (.agg #[.int .i64 b0, .int .i64 b1, .int .i64 b2, .int .i64 b3, .int .i64 b4, .int .i64 b5, .int .i64 b6, .string b7])).run Try.prog w = .ok (.bool (eqP a0 b0 a1 b1 a2 b2 a3 b3 a4 b4 a5 b5 a6 b6 a7 b7)) w := by
  unfold eqP
  cases e0 : (a0 == b0)
  · simp [go_sem, e0]
  cases e1 : (a1 == b1)
  · simp [go_sem, e0, e1]
  cases e2 : (a2 == b2)
  · simp [go_sem, e0, e1, e2]
  cases e3 : (a3 == b3)
  · simp [go_sem, e0, e1, e2, e3]
  cases e4 : (a4 == b4)
  · simp [go_sem, e0, e1, e2, e3, e4]
  cases e5 : (a5 == b5)
  · simp [go_sem, e0, e1, e2, e3, e4, e5]
  cases e6 : (a6 == b6)
  · simp [go_sem, e0, e1, e2, e3, e4, e5, e6]
  cases e7 : (a7.toList == b7.toList)
  · simp [go_sem, e0, e1, e2, e3, e4, e5, e6, e7]
  simp [go_sem, e0, e1, e2, e3, e4, e5, e6, e7]
set_option maxHeartbeats 2000000 in
theorem run_neq_eqP (a0 b0 a1 b1 a2 b2 a3 b3 a4 b4 a5 b5 a6 b6 : Int) (a7 b7 : ByteArray) (w : World) : (binOp .neq 24 (.agg #[.int .i64 a0, .int .i64 a1, .int .i64 a2, .int .i64 a3, .int .i64 a4, .int .i64 a5, .int .i64 a6, .string a7]) (.agg #[.int .i64 b0, .int .i64 b1, .int .i64 b2, .int .i64 b3, .int .i64 b4, .int .i64 b5, .int .i64 b6, .string b7])).run Try.prog w = .ok (.bool (!eqP a0 b0 a1 b1 a2 b2 a3 b3 a4 b4 a5 b5 a6 b6 a7 b7)) w := by
  unfold eqP
  cases e0 : (a0 == b0)
  · simp [go_sem, e0]
  cases e1 : (a1 == b1)
  · simp [go_sem, e0, e1]
  cases e2 : (a2 == b2)
  · simp [go_sem, e0, e1, e2]
  cases e3 : (a3 == b3)
  · simp [go_sem, e0, e1, e2, e3]
  cases e4 : (a4 == b4)
  · simp [go_sem, e0, e1, e2, e3, e4]
  cases e5 : (a5 == b5)
  · simp [go_sem, e0, e1, e2, e3, e4, e5]
  cases e6 : (a6 == b6)
  · simp [go_sem, e0, e1, e2, e3, e4, e5, e6]
  cases e7 : (a7.toList == b7.toList)
  · simp [go_sem, e0, e1, e2, e3, e4, e5, e6, e7]
  simp [go_sem, e0, e1, e2, e3, e4, e5, e6, e7]
def eqS (a2 b2 a3 b3 a4 b4 : Int) (a0 b0 a1 b1 : ByteArray) : Bool := a0.toList == b0.toList && a1.toList == b1.toList && a2 == b2 && a3 == b3 && a4 == b4
set_option maxHeartbeats 2000000 in
theorem run_eql_eqS (a2 b2 a3 b3 a4 b4 : Int) (a0 b0 a1 b1 : ByteArray) (w : World) : (binOp .eql 50 (.agg #[.string a0, .string a1, .int .i64 a2, .int .i64 a3, .int .i64 a4]) (.agg #[.string b0, .string b1, .int .i64 b2, .int .i64 b3, .int .i64 b4])).run Try.prog w = .ok (.bool (eqS a2 b2 a3 b3 a4 b4 a0 b0 a1 b1)) w := by
  unfold eqS
  cases e0 : (a0.toList == b0.toList)
  · simp [go_sem, e0]
  cases e1 : (a1.toList == b1.toList)
  · simp [go_sem, e0, e1]
  cases e2 : (a2 == b2)
  · simp [go_sem, e0, e1, e2]
  cases e3 : (a3 == b3)
  · simp [go_sem, e0, e1, e2, e3]
  cases e4 : (a4 == b4)
  · simp [go_sem, e0, e1, e2, e3, e4]
  simp [go_sem, e0, e1, e2, e3, e4]
set_option maxHeartbeats 2000000 in
theorem run_neq_eqS (a2 b2 a3 b3 a4 b4 : Int) (a0 b0 a1 b1 : ByteArray) (w : World) : (binOp .neq 50 (.agg #[.string a0, .string a1, .int .i64 a2, .int .i64 a3, .int .i64 a4]) (.agg #[.string b0, .string b1, .int .i64 b2, .int .i64 b3, .int .i64 b4])).run Try.prog w = .ok (.bool (!eqS a2 b2 a3 b3 a4 b4 a0 b0 a1 b1)) w := by
  unfold eqS
  cases e0 : (a0.toList == b0.toList)
  · simp [go_sem, e0]
  cases e1 : (a1.toList == b1.toList)
  · simp [go_sem, e0, e1]
  cases e2 : (a2 == b2)
  · simp [go_sem, e0, e1, e2]
  cases e3 : (a3 == b3)
  · simp [go_sem, e0, e1, e2, e3]
  cases e4 : (a4 == b4)
  · simp [go_sem, e0, e1, e2, e3, e4]
  simp [go_sem, e0, e1, e2, e3, e4]
end Go.Proofs.Ytimondpollbdfaa
