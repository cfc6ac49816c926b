/- What is proved: whether an answer says that the map is an old one. -/
import Derived.Test.YtimondpollbdfaaHeard
set_option linter.unusedVariables false
set_option linter.unusedSimpArgs false
namespace Go.Proofs.Ytimondpollbdfaa
open Go.RowKit

theorem rep_cells {w : World} {g : Nat} {p : Rep} {j v : Value} (h : w.heap[g]? = some (p.blk j v)) :
    (w.cell? ⟨g, 0, none⟩ = some (.int .i64 p.kind) ∧ w.cell? ⟨g, 1, none⟩ = some (.int .i64 p.hint) ∧ w.cell? ⟨g, 2, none⟩ = some (.int .i64 p.err) ∧ w.cell? ⟨g, 3, none⟩ = some (.int .i64 p.time) ∧ w.cell? ⟨g, 4, none⟩ = some j ∧ g < w.heap.size) ∧
    w.cell? ⟨g, 5, none⟩ = some (.int .i64 p.map.groups) ∧ w.cell? ⟨g, 6, none⟩ = some (.int .i64 p.map.last) ∧ w.cell? ⟨g, 7, none⟩ = some v ∧ w.cell? ⟨g, 8, none⟩ = some (.int .i64 p.map.plan.kind) ∧ w.cell? ⟨g, 9, none⟩ = some (.int .i64 p.map.plan.phase) ∧
    w.cell? ⟨g, 10, none⟩ = some (.int .i64 p.map.plan.shard) ∧ w.cell? ⟨g, 11, none⟩ = some (.int .i64 p.map.plan.other) ∧ w.cell? ⟨g, 12, none⟩ = some (.int .i64 p.map.plan.group) ∧ w.cell? ⟨g, 13, none⟩ = some (.int .i64 p.map.plan.past) ∧ w.cell? ⟨g, 14, none⟩ = some (.int .i64 p.map.plan.epoch) ∧ w.cell? ⟨g, 15, none⟩ = some (.string p.map.plan.key) := by
  refine ⟨⟨?_, ?_, ?_, ?_, ?_, lt_of_some h⟩, ?_, ?_, ?_, ?_, ?_, ?_, ?_, ?_, ?_, ?_, ?_⟩
  all_goals simp [World.cell?, h, Rep.blk]
def staleB (e : Int) : Bool := e == 172 || e == 171 || e == 173
set_option maxHeartbeats 400000 in
theorem stale_any (w : World) (e : Int) : Calls Try.prog 57 #[.int .i64 e] w fun e' w' => e' = .returned (.bool (staleB e)) ∧ w' = w := by
  cases e1 : (e == 172) <;> cases e2 : (e == 171) <;> cases e3 : (e == 173)
  all_goals
    have hv : staleB e = (e == 172 || e == 171 || e == 173) := rfl
    rw [e1, e2, e3] at hv
    have Hv := Lib.hid hv; clear hv
    go_enter Try.func57, Try.ntmps57
    go_wp2
    go_ret
    exact ⟨ret_bool (by rw [Hv.out]; rfl), rfl⟩
end Go.Proofs.Ytimondpollbdfaa
