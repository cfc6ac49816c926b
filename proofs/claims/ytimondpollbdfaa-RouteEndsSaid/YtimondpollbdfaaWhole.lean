/- What is proved: a whole map, plan or span is read out of its block, stored into it, and read out of it as a result. -/
import Derived.Test.YtimondpollbdfaaBegin
set_option linter.unusedVariables false
set_option linter.unusedSimpArgs false
namespace Go.Proofs.Ytimondpollbdfaa
open Go.RowKit

theorem info26 : (Try.prog.info? 26).map (·.size) = some 11 := by kernel_rfl
theorem info24 : (Try.prog.info? 24).map (·.size) = some 8 := by kernel_rfl
theorem map_range {W : World} {g : Nat} {m : Atl} {v : Value} (h : W.heap[g]? = some (m.blk v)) : W.rangeAt g 0 [.int .i64 m.groups, .int .i64 m.last, v, .int .i64 m.plan.kind, .int .i64 m.plan.phase, .int .i64 m.plan.shard, .int .i64 m.plan.other, .int .i64 m.plan.group, .int .i64 m.plan.past, .int .i64 m.plan.epoch, .string m.plan.key] := fun i u hi => by
    rw [Nat.zero_add]
    simp only [World.cell?, h, Atl.blk]
    simpa using hi
theorem map_one {m : Atl} {v : Value} (hv : v.oneCell' = true) : (#[Value.int .i64 m.groups, .int .i64 m.last, v, .int .i64 m.plan.kind, .int .i64 m.plan.phase, .int .i64 m.plan.shard, .int .i64 m.plan.other, .int .i64 m.plan.group, .int .i64 m.plan.past, .int .i64 m.plan.epoch, .string m.plan.key] : Array Value).all (·.oneCell') = true := by
  refine all_oneCell_toArray (cs := [_, _, _, _, _, _, _, _, _, _, _]) ?_
  intro u hu
  simp only [List.mem_cons, List.not_mem_nil, or_false] at hu
  rcases hu with rfl | rfl | rfl | rfl | rfl | rfl | rfl | rfl | rfl | rfl | rfl
  all_goals first | rfl | assumption
theorem wpList_load26 {ops : Array Oper} {rest : List Oper} {op : Oper} {a : Act} {w : World} {Q : Exit → Act → World → Prop} (hgd : op.guard = none) (x : Operand) (ho : op.op = .load 26 x) (g : Nat) (hx : a.eval x = .pointer (some ⟨g, 0, none⟩))
    {m : Atl} {v : Value} (h : w.heap[g]? = some (m.blk v)) (hK : wpList Try.prog ops Q rest (a.put op.dst (m.val v)) w) : wpList Try.prog ops Q (op :: rest) a w :=
  wpList_load_mid hgd 26 x ho g 0 hx _ _ (map_range h) Try.underlying26 rfl info26 hK
theorem wpList_store26 {ops : Array Oper} {rest : List Oper} {op : Oper} {a : Act} {w : World} {Q : Exit → Act → World → Prop} (hgd : op.guard = none) (x y : Operand) (ho : op.op = .store 26 x y) (g : Nat) (hx : a.eval x = .pointer (some ⟨g, 0, none⟩))
    {m m0 : Atl} {v v0 : Value} (hy : a.eval y = m.val v) (hv : v.oneCell' = true) (h : w.heap[g]? = some (m0.blk v0))
    (hK : ∀ w', w'.heap[g]? = some (m.blk v) → Only (· = g) w w' → wpList Try.prog ops Q rest (a.put op.dst undef) w') : wpList Try.prog ops Q (op :: rest) a w :=
  wpList_store_row hgd 26 x y ho g _ hx hy 26 _ h info26 rfl (map_one hv) (hK _ (setRow_heap w g _ _ 26 (0, 0) h) (only_setRow w g _))
theorem results26 {fn : Func} {p u : Tmp} (h : fn.results = #[.cell p 26, .tmp u]) (tmps : Array Value) (w : World) (g : Nat) {m : Atl} {v : Value} (hp : tmps.getD p undef = .pointer (some ⟨g, 0, none⟩)) (hw : w.heap[g]? = some (m.blk v)) :
    (results fn tmps).run Try.prog w = .ok (.tuple #[m.val v, tmps.getD u undef]) w := by
  rw [results_cell_tmp h, hp]
  simp [asAddr, run_loadVar_row (P := Try.prog) w g 26 26 _ (0, 0) _ hw Try.underlying26 rfl info26, Result.andThen, Atl.val]

theorem plan_range {W : World} {g : Nat} {p : Plan} (h : W.heap[g]? = some p.blk) : W.rangeAt g 0 [.int .i64 p.kind, .int .i64 p.phase, .int .i64 p.shard, .int .i64 p.other, .int .i64 p.group, .int .i64 p.past, .int .i64 p.epoch, .string p.key] := fun i u hi => by
    rw [Nat.zero_add]
    simp only [World.cell?, h, Plan.blk]
    simpa using hi
theorem plan_one (p : Plan) : (#[Value.int .i64 p.kind, .int .i64 p.phase, .int .i64 p.shard, .int .i64 p.other, .int .i64 p.group, .int .i64 p.past, .int .i64 p.epoch, .string p.key] : Array Value).all (·.oneCell') = true := by
  refine all_oneCell_toArray (cs := [_, _, _, _, _, _, _, _]) ?_
  intro u hu
  simp only [List.mem_cons, List.not_mem_nil, or_false] at hu
  rcases hu with rfl | rfl | rfl | rfl | rfl | rfl | rfl | rfl
  all_goals rfl
theorem wpList_load24 {ops : Array Oper} {rest : List Oper} {op : Oper} {a : Act} {w : World} {Q : Exit → Act → World → Prop} (hgd : op.guard = none) (x : Operand) (ho : op.op = .load 24 x) (g : Nat) (hx : a.eval x = .pointer (some ⟨g, 0, none⟩))
    {p : Plan} (h : w.heap[g]? = some p.blk) (hK : wpList Try.prog ops Q rest (a.put op.dst p.val) w) : wpList Try.prog ops Q (op :: rest) a w :=
  wpList_load_mid hgd 24 x ho g 0 hx _ _ (plan_range h) Try.underlying24 rfl info24 hK
theorem wpList_store24 {ops : Array Oper} {rest : List Oper} {op : Oper} {a : Act} {w : World} {Q : Exit → Act → World → Prop} (hgd : op.guard = none) (x y : Operand) (ho : op.op = .store 24 x y) (g : Nat) (hx : a.eval x = .pointer (some ⟨g, 0, none⟩))
    {p p0 : Plan} (hy : a.eval y = p.val) (h : w.heap[g]? = some p0.blk)
    (hK : ∀ w', w'.heap[g]? = some p.blk → Only (· = g) w w' → wpList Try.prog ops Q rest (a.put op.dst undef) w') : wpList Try.prog ops Q (op :: rest) a w :=
  wpList_store_row hgd 24 x y ho g _ hx hy 24 _ h info24 rfl (plan_one p) (hK _ (setRow_heap w g _ _ 24 (0, 0) h) (only_setRow w g _))
theorem results24 {fn : Func} {p u : Tmp} (h : fn.results = #[.cell p 24, .tmp u]) (tmps : Array Value) (w : World) (g : Nat) {m : Plan} (hp : tmps.getD p undef = .pointer (some ⟨g, 0, none⟩)) (hw : w.heap[g]? = some m.blk) :
    (results fn tmps).run Try.prog w = .ok (.tuple #[m.val, tmps.getD u undef]) w := by
  rw [results_cell_tmp h, hp]
  simp [asAddr, run_loadVar_row (P := Try.prog) w g 24 24 _ (0, 0) _ hw Try.underlying24 rfl info24, Result.andThen, Plan.val]
def zeroA : Atl := ⟨0, 0, [], ⟨0, 0, 0, 0, 0, 0, 0, ⟨#[]⟩⟩⟩
def zeroP : Plan := ⟨0, 0, 0, 0, 0, 0, 0, ⟨#[]⟩⟩
theorem below_set {B : Nat} {w W : World} (h : Below B w W) {b i : Nat} (u : Value) (hb : B ≤ b) (hB : B ≤ W.heap.size) : Below B w (W.setCell ⟨b, i, none⟩ u) :=
  (only_setCell W ⟨b, i, none⟩ u).below h (fun k hk => by have : k = b := hk; omega) hB
end Go.Proofs.Ytimondpollbdfaa
