/- What is proved: a whole way is stored into its block, and read out of it as a result. Condition: its two slices are single cells. -/
import Derived.Test.YtimondpollbdfaaWhere
import Derived.Laws.Tables
import Derived.Laws.ResultCell
set_option linter.unusedVariables false
set_option linter.unusedSimpArgs false
namespace Go.Proofs.Ytimondpollbdfaa
open Go.RowKit

theorem rte_one {r : Rte} {v j : Value} (hv : v.oneCell' = true) (hj : j.oneCell' = true) : (#[Value.int .i64 r.nodes, .string r.name, .int .i64 r.map.groups, .int .i64 r.map.last, v, .int .i64 r.map.plan.kind, .int .i64 r.map.plan.phase, .int .i64 r.map.plan.shard, .int .i64 r.map.plan.other, .int .i64 r.map.plan.group, .int .i64 r.map.plan.past, .int .i64 r.map.plan.epoch, .string r.map.plan.key,
  .bool r.fetch, .int .i64 r.node, .int .i64 r.left, .bool r.done, .int .i64 r.err, .int .i64 r.time, j] : Array Value).all (·.oneCell') = true := by
  refine all_oneCell_toArray (cs := [_, _, _, _, _, _, _, _, _, _, _, _, _, _, _, _, _, _, _, _]) ?_
  intro u hu
  simp only [List.mem_cons, List.not_mem_nil, or_false] at hu
  rcases hu with rfl | rfl | rfl | rfl | rfl | rfl | rfl | rfl | rfl | rfl | rfl | rfl | rfl | rfl | rfl | rfl | rfl | rfl | rfl | rfl
  all_goals first | rfl | assumption
theorem only_setRow (w : World) (g : Nat) (c : Array Value) : Only (· = g) w (w.setRow g c) :=
  ⟨rfl, rfl, rfl, by simp, fun k _ hk => setRow_other w g k c hk⟩
theorem wpList_store39 {ops : Array Oper} {rest : List Oper} {op : Oper} {a : Act} {w : World} {Q : Exit → Act → World → Prop} (hgd : op.guard = none) (x y : Operand) (ho : op.op = .store 39 x y) (g : Nat) (hx : a.eval x = .pointer (some ⟨g, 0, none⟩))
    {r r0 : Rte} {v j v0 j0 : Value} (hy : a.eval y = r.val v j) (hv : v.oneCell' = true) (hj : j.oneCell' = true) (h : w.heap[g]? = some (r0.blk v0 j0))
    (hK : ∀ w', w'.heap[g]? = some (r.blk v j) → Only (· = g) w w' → wpList Try.prog ops Q rest (a.put op.dst undef) w') : wpList Try.prog ops Q (op :: rest) a w :=
  wpList_store_row hgd 39 x y ho g _ hx hy 39 _ h info39 rfl (rte_one hv hj) (hK _ (setRow_heap w g _ _ 39 (0, 0) h) (only_setRow w g _))
theorem results39 {fn : Func} {p u : Tmp} (h : fn.results = #[.cell p 39, .tmp u]) (tmps : Array Value) (w : World) (g : Nat) {r : Rte} {v j : Value} (hp : tmps.getD p undef = .pointer (some ⟨g, 0, none⟩)) (hw : w.heap[g]? = some (r.blk v j)) :
    (results fn tmps).run Try.prog w = .ok (.tuple #[r.val v j, tmps.getD u undef]) w := by
  rw [results_cell_tmp h, hp]
  simp [asAddr, run_loadVar_row (P := Try.prog) w g 39 39 _ (0, 0) _ hw Try.underlying39 rfl info39, Result.andThen, Rte.val]
def zeroR : Rte := ⟨0, ⟨#[]⟩, ⟨0, 0, [], ⟨0, 0, 0, 0, 0, 0, 0, ⟨#[]⟩⟩⟩, false, 0, 0, false, 0, 0⟩
def nilV : Value := .slice none 0 0
end Go.Proofs.Ytimondpollbdfaa
