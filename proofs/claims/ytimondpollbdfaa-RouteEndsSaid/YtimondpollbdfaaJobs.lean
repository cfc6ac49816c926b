/- What is proved: the document's Same on jobs, results and ways: true on two copies of one. -/
import Derived.Test.YtimondpollbdfaaRBegin
set_option linter.unusedVariables false
set_option linter.unusedSimpArgs false
namespace Go.Proofs.Ytimondpollbdfaa
open Go.RowKit

structure JobD where
  name : ByteArray
  expr : ByteArray
  zone : ByteArray
  token : ByteArray
  client : Int
  seq : Int
  paused : Bool
  mark : Int
def JobD.cells (d : JobD) : List Value := [.string d.name, .string d.expr, .string d.zone, .string d.token, .int .i64 d.client, .int .i64 d.seq, .bool d.paused, .int .i64 d.mark]
theorem job_len (l : List JobD) : ∀ c ∈ l.map JobD.cells, c.length = 8 := by
  intro c hc; obtain ⟨p, _, rfl⟩ := List.mem_map.1 hc; rfl
theorem job_cells {w : World} {B : Nat} {A : Option Addr} {l : List JobD} (h : RowAt w B 8 A (l.map JobD.cells)) (k : Nat) (hk : k < l.length) :
    ∃ b off, A = some ⟨b, off, none⟩ ∧ b < B ∧ w.cell? ⟨b, off + k * 8, none⟩ = some (.string l[k].name) ∧ w.cell? ⟨b, off + k * 8 + 1, none⟩ = some (.string l[k].expr) ∧ w.cell? ⟨b, off + k * 8 + 2, none⟩ = some (.string l[k].zone) ∧ w.cell? ⟨b, off + k * 8 + 3, none⟩ = some (.string l[k].token) ∧
      w.cell? ⟨b, off + k * 8 + 4, none⟩ = some (.int .i64 l[k].client) ∧ w.cell? ⟨b, off + k * 8 + 5, none⟩ = some (.int .i64 l[k].seq) ∧ w.cell? ⟨b, off + k * 8 + 6, none⟩ = some (.bool l[k].paused) ∧ w.cell? ⟨b, off + k * 8 + 7, none⟩ = some (.int .i64 l[k].mark) := by
  obtain ⟨b, off, hA, hb, hc⟩ := h k (JobD.cells l[k]) (by simp [hk])
  exact ⟨b, off, hA, hb, hc 0 _ rfl, hc 1 _ rfl, hc 2 _ rfl, hc 3 _ rfl, hc 4 _ rfl, hc 5 _ rfl, hc 6 _ rfl, hc 7 _ rfl⟩
def eqJ (a0 b0 : ByteArray) (a1 b1 : ByteArray) (a2 b2 : ByteArray) (a3 b3 : ByteArray) (a4 b4 : Int) (a5 b5 : Int) (a6 b6 : Bool) (a7 b7 : Int) : Bool := (a0.toList == b0.toList) && (a1.toList == b1.toList) && (a2.toList == b2.toList) && (a3.toList == b3.toList) && (a4 == b4) && (a5 == b5) && (a6 == b6) && (a7 == b7)
set_option maxHeartbeats 2000000 in
theorem run_neq_eqJ (a0 b0 : ByteArray) (a1 b1 : ByteArray) (a2 b2 : ByteArray) (a3 b3 : ByteArray) (a4 b4 : Int) (a5 b5 : Int) (a6 b6 : Bool) (a7 b7 : Int) (w : World) : (binOp .neq 88 (.agg #[.string a0, .string a1, .string a2, .string a3, .int .i64 a4, .int .i64 a5, .bool a6, .int .i64 a7]) (.agg #[.string b0, .string b1, .string b2, .string b3, .int .i64 b4, .int .i64 b5, .bool b6, .int .i64 b7])).run Try.prog w = .ok (.bool (!eqJ a0 b0 a1 b1 a2 b2 a3 b3 a4 b4 a5 b5 a6 b6 a7 b7)) w := by
  unfold eqJ
  cases e0 : (a0.toList == b0.toList)
  · simp [go_sem, e0]
  cases e1 : (a1.toList == b1.toList)
  · simp [go_sem, e0, e1]
  cases e2 : (a2.toList == b2.toList)
  · simp [go_sem, e0, e1, e2]
  cases e3 : (a3.toList == b3.toList)
  · simp [go_sem, e0, e1, e2, e3]
  cases e4 : (a4 == b4)
  · simp [go_sem, e0, e1, e2, e3, e4]
  cases e5 : (a5 == b5)
  · simp [go_sem, e0, e1, e2, e3, e4, e5]
  cases e6 : (a6 == b6)
  · simp [go_sem, e0, e1, e2, e3, e4, e5, e6]
  cases e7 : (a7 == b7)
  · simp [go_sem, e0, e1, e2, e3, e4, e5, e6, e7]
  simp [go_sem, e0, e1, e2, e3, e4, e5, e6, e7]
theorem eqJ_refl (a0 : ByteArray) (a1 : ByteArray) (a2 : ByteArray) (a3 : ByteArray) (a4 : Int) (a5 : Int) (a6 : Bool) (a7 : Int) : eqJ a0 a0 a1 a1 a2 a2 a3 a3 a4 a4 a5 a5 a6 a6 a7 a7 = true := by simp [eqJ]
attribute [local go_sem high] run_neq_eqJ
attribute [local go_sem] eqJ_refl
set_option maxRecDepth 100000 in
set_option maxHeartbeats 2000000 in
theorem jobs_true (w : World) (A A' : Option Addr) (cap cap' : Nat) (l : List JobD) (hl : l.length ≤ 9223372036854775807) (h : RowAt w w.heap.size 8 A (l.map JobD.cells)) (h' : RowAt w w.heap.size 8 A' (l.map JobD.cells)) :
    Calls Try.prog 60 #[.slice A l.length cap, .slice A' l.length cap'] w fun e w' => e = .returned (.bool true) ∧ Below w.heap.size w w' := by
  have H := Lib.hid h; have H' := Lib.hid h'; clear h h'
  go_enter Try.func60, Try.ntmps60
  go_wp2
  go_loopw [5] (fun v wr => ∃ k : Nat, k ≤ l.length ∧ v = .int .i64 k ∧ Below w.heap.size w wr) (fun v _ => l.length - (intOf v).toNat)
  case atStart => exact ⟨0, Nat.zero_le _, rfl, Below.refl _ _⟩
  case round =>
    obtain ⟨k, hk, rfl, hbel⟩ := hrel
    by_cases hlt : k < l.length
    · obtain ⟨b, off, rfl, hb, p0, p1, p2, p3, p4, p5, p6, p7⟩ := job_cells (H.out.below hbel (Nat.le_refl _)) k hlt
      obtain ⟨b', off', rfl, hb', s0, s1, s2, s3, s4, s5, s6, s7⟩ := job_cells (H'.out.below hbel (Nat.le_refl _)) k hlt
      have hk1 : (0 : Int) ≤ (k : Int) := by omega
      have hk2 : (k : Int) < (l.length : Int) := by omega
      go_wp2_with fail
      go_quiet (fail)
      go_wp2_with fail
      go_roundw
      case rel => exact ⟨k + 1, by omega, by go_num, hbel.trans ⟨rfl, rfl, rfl, Nat.le_refl _, fun _ _ => rfl⟩⟩
      case measure => simp [intOf]; omega
    · go_wp2
      go_ret
      exact ⟨rfl, hbel⟩
set_option maxRecDepth 100000 in
set_option maxHeartbeats 2000000 in
theorem result_true (w : World) (A A' : Option Addr) (cap cap' : Nat) (err time : Int) (l : List JobD) (hl : l.length ≤ 9223372036854775807) (h : RowAt w w.heap.size 8 A (l.map JobD.cells)) (h' : RowAt w w.heap.size 8 A' (l.map JobD.cells)) :
    Calls Try.prog 35 #[.agg #[.int .i64 err, .int .i64 time, .slice A l.length cap], .agg #[.int .i64 err, .int .i64 time, .slice A' l.length cap']] w fun e w' => e = .returned (.bool true) ∧ Below w.heap.size w w' := by
  have H := Lib.hid h; have H' := Lib.hid h'; clear h h'
  go_enter Try.func35, Try.ntmps35
  go_wp2_with (go_at_call 60
               refine (jobs_true _ A A' cap cap' l hl ((H.out.below (al2 _ _) (Nat.le_refl _)).more (by simp; omega)) ((H'.out.below (al2 _ _) (Nat.le_refl _)).more (by simp; omega))).mono ?_
               rintro e w1 ⟨rfl, hb1⟩)
  go_ret
  exact ⟨rfl, (al2 _ _).trans (hb1.mono (by simp; omega))⟩
end Go.Proofs.Ytimondpollbdfaa
