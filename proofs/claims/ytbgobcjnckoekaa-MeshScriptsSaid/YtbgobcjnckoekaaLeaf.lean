/- What is proved: what the smallest functions of the mesh do: of, free, the closure of find. -/
import Derived.Test.YtbgobcjnckoekaaMap
namespace Go.Proofs.Ytbgobcjnckoekaa
open Go.RowKit
attribute [local go_sem] cell_over frozen_over

structure Pkt where
  id : Int
  src : Int
  dst : Int
  body : ByteArray
def Pkt.cells (p : Pkt) : List Value := [.int .i64 p.id, .int .i64 p.src, .int .i64 p.dst, .string p.body]
def Pkt.val (p : Pkt) : Value := .agg #[.int .i64 p.id, .int .i64 p.src, .int .i64 p.dst, .string p.body]

def lo (a b : Int) : Int := if a ≤ b then a else b
def hi (a b : Int) : Int := if a ≤ b then b else a

set_option maxHeartbeats 400000 in
theorem of_any (a b : Int) (w : World) :
    Calls Try.prog 31 #[.int .i64 a, .int .i64 b] w fun e w' => e = .returned (.agg #[.int .i64 (lo a b), .int .i64 (hi a b)]) ∧ Below w.heap.size w w' := by
  have hb : ∀ o, Below w.heap.size w (w.alloc o) := fun o => (Below.refl _ _).alloc (Nat.le_refl _) o
  rcases Int.lt_trichotomy a b with h | h | h
  · have e1 : lo a b = a := by unfold lo; omega
    have e2 : hi a b = b := by unfold hi; omega
    have H1 := Lib.hid e1; have H2 := Lib.hid e2; clear e1 e2
    go_enter Try.func31, Try.ntmps31
    go_wp2
    exact bodyPost_ret (v := .agg #[.int .i64 a, .int .i64 b]) (by simp [results, Try.results31, go_sem]) rfl ⟨by rw [H1.out, H2.out], hb _⟩
  · subst h
    have e1 : lo a a = a := by unfold lo; omega
    have e2 : hi a a = a := by unfold hi; omega
    have H1 := Lib.hid e1; have H2 := Lib.hid e2; clear e1 e2
    go_enter Try.func31, Try.ntmps31
    go_wp2
    all_goals exact bodyPost_ret (v := .agg #[.int .i64 a, .int .i64 a]) (by simp [results, Try.results31, go_sem]) rfl ⟨by rw [H1.out, H2.out], hb _⟩
  · have e1 : lo a b = b := by unfold lo; omega
    have e2 : hi a b = a := by unfold hi; omega
    have H1 := Lib.hid e1; have H2 := Lib.hid e2; clear e1 e2
    go_enter Try.func31, Try.ntmps31
    go_wp2
    exact bodyPost_ret (v := .agg #[.int .i64 b, .int .i64 a]) (by simp [results, Try.results31, go_sem]) rfl ⟨by rw [H1.out, H2.out], hb _⟩

set_option maxHeartbeats 400000 in
theorem findCl_any (p : Pkt) (id : Int) (c : Nat) (w : World) (hc : w.cell? ⟨c, 0, none⟩ = some (.int .i64 id)) (hlt : c < w.heap.size) :
    Calls Try.prog 36 #[p.val, .pointer (some ⟨c, 0, none⟩)] w fun e w' => e = .returned (.bool (p.id == id)) ∧ Below w.heap.size w w' := by
  unfold Pkt.val
  go_enter Try.func36, Try.ntmps36
  go_wp2
  go_ret
  exact ⟨rfl, (Below.refl _ _).alloc (Nat.le_refl _) _⟩

def freeB (C : Int → Int → Bool) (p : Pkt) : Bool := !C (lo p.src p.dst) (hi p.src p.dst)

set_option maxHeartbeats 400000 in
theorem free_any (p : Pkt) (a mb : Nat) (C : Int → Int → Bool) (w : World) (hc : w.cell? ⟨a, 2, none⟩ = some (.map (some mb))) (hlt : a < w.heap.size) (hC : CutsAt w mb C) :
    Calls Try.prog 28 #[.pointer (some ⟨a, 0, none⟩), p.val] w fun e w' => e = .returned (.bool (freeB C p)) ∧ Below w.heap.size w w' := by
  unfold Pkt.val
  have hmb := hC.lt
  have hlook : ∀ o x, (Instr.lookup 50 (.map (some mb)) (.agg #[.int .i64 (lo p.src p.dst), .int .i64 (hi p.src p.dst)]) false).run Try.prog (over (w.alloc o) x) = .ok (.int .i64 (bit (C (lo p.src p.dst) (hi p.src p.dst)))) (over (w.alloc o) x) :=
    fun o x => CutsAt.look (hC.block ((heap_over _ _ _ (by simp; omega)).trans (Below.heap_alloc w o mb hmb))) _ _
  go_enter Try.func28, Try.ntmps28
  go_wp2
  refine wp_region_over (by kernel_rfl) (by kernel_rfl) ?_
  repeat (go_big_quiet_step ((go_at_call 31; exact calls_over (of_any _ _ _))))
  refine wpQuiet_nil ?_
  intro _ hw'
  obtain ⟨nx, hw''⟩ := hw'
  subst hw''
  go_wp2
  go_ret
  refine ⟨ret_bool ?_, ((Below.refl _ _).alloc (Nat.le_refl _) _).trans ((below_over _ nx).mono (by simp))⟩
  unfold freeB
  cases C (lo p.src p.dst) (hi p.src p.dst) <;> rfl
end Go.Proofs.Ytbgobcjnckoekaa
