/- What is proved: what spans, plans and maps are, as values and as rows of cells. No condition beyond what each law states. -/
import Derived.Test.YtimondpollbdfaaMem
set_option linter.unusedVariables false
set_option linter.unusedSimpArgs false
namespace Go.Proofs.Ytimondpollbdfaa
open Go.RowKit

structure Span where
  fr : ByteArray
  to : ByteArray
  sh : Int
  ep : Int
  gr : Int
def Span.cells (s : Span) : List Value := [.string s.fr, .string s.to, .int .i64 s.sh, .int .i64 s.ep, .int .i64 s.gr]
def Span.val (s : Span) : Value := .agg #[.string s.fr, .string s.to, .int .i64 s.sh, .int .i64 s.ep, .int .i64 s.gr]
structure Plan where
  kind : Int
  phase : Int
  shard : Int
  other : Int
  group : Int
  past : Int
  epoch : Int
  key : ByteArray
def Plan.val (p : Plan) : Value := .agg #[.int .i64 p.kind, .int .i64 p.phase, .int .i64 p.shard, .int .i64 p.other, .int .i64 p.group, .int .i64 p.past, .int .i64 p.epoch, .string p.key]
structure Atl where
  groups : Int
  last : Int
  sp : List Span
  plan : Plan
/-- A map as a value; v is the slice of its spans. -/
def Atl.val (a : Atl) (v : Value) : Value := .agg #[.int .i64 a.groups, .int .i64 a.last, v, .int .i64 a.plan.kind, .int .i64 a.plan.phase, .int .i64 a.plan.shard, .int .i64 a.plan.other, .int .i64 a.plan.group, .int .i64 a.plan.past, .int .i64 a.plan.epoch, .string a.plan.key]
theorem span_len (l : List Span) : ∀ c ∈ l.map Span.cells, c.length = 5 := by
  intro c hc; obtain ⟨p, _, rfl⟩ := List.mem_map.1 hc; rfl
theorem span_cells {w : World} {B : Nat} {A : Option Addr} {l : List Span} (h : RowAt w B 5 A (l.map Span.cells)) (k : Nat) (hk : k < l.length) :
    ∃ b off, A = some ⟨b, off, none⟩ ∧ b < B ∧ w.cell? ⟨b, off + k * 5, none⟩ = some (.string l[k].fr) ∧ w.cell? ⟨b, off + k * 5 + 1, none⟩ = some (.string l[k].to) ∧
      w.cell? ⟨b, off + k * 5 + 2, none⟩ = some (.int .i64 l[k].sh) ∧ w.cell? ⟨b, off + k * 5 + 3, none⟩ = some (.int .i64 l[k].ep) ∧ w.cell? ⟨b, off + k * 5 + 4, none⟩ = some (.int .i64 l[k].gr) := by
  obtain ⟨b, off, hA, hb, hc⟩ := h k (Span.cells l[k]) (by simp [hk])
  exact ⟨b, off, hA, hb, hc 0 _ rfl, hc 1 _ rfl, hc 2 _ rfl, hc 3 _ rfl, hc 4 _ rfl⟩
/-- A map in a block of its own. -/
def Atl.blk (a : Atl) (v : Value) : Obj := .cells #[.int .i64 a.groups, .int .i64 a.last, v, .int .i64 a.plan.kind, .int .i64 a.plan.phase, .int .i64 a.plan.shard, .int .i64 a.plan.other, .int .i64 a.plan.group, .int .i64 a.plan.past, .int .i64 a.plan.epoch, .string a.plan.key] 26
theorem map_cells {w : World} {g : Nat} {a : Atl} {v : Value} (h : w.heap[g]? = some (a.blk v)) :
    w.cell? ⟨g, 0, none⟩ = some (.int .i64 a.groups) ∧ w.cell? ⟨g, 1, none⟩ = some (.int .i64 a.last) ∧ w.cell? ⟨g, 2, none⟩ = some v ∧ w.cell? ⟨g, 3, none⟩ = some (.int .i64 a.plan.kind) ∧ w.cell? ⟨g, 4, none⟩ = some (.int .i64 a.plan.phase) ∧
    w.cell? ⟨g, 5, none⟩ = some (.int .i64 a.plan.shard) ∧ w.cell? ⟨g, 6, none⟩ = some (.int .i64 a.plan.other) ∧ w.cell? ⟨g, 7, none⟩ = some (.int .i64 a.plan.group) ∧ w.cell? ⟨g, 8, none⟩ = some (.int .i64 a.plan.past) ∧ w.cell? ⟨g, 9, none⟩ = some (.int .i64 a.plan.epoch) ∧
    w.cell? ⟨g, 10, none⟩ = some (.string a.plan.key) ∧ g < w.heap.size := by
  refine ⟨?_, ?_, ?_, ?_, ?_, ?_, ?_, ?_, ?_, ?_, ?_, ?_⟩
  all_goals first
    | (simp [World.cell?, h, Atl.blk]; done)
    | (rcases Nat.lt_or_ge g w.heap.size with h1 | h1
       · exact h1
       · rw [Array.getElem?_eq_none h1] at h; cases h)
def Span.blk (s : Span) : Obj := .cells #[.string s.fr, .string s.to, .int .i64 s.sh, .int .i64 s.ep, .int .i64 s.gr] 50
theorem lt_of_some {w : World} {k : Nat} {o : Obj} (h : w.heap[k]? = some o) : k < w.heap.size := by
  rcases Nat.lt_or_ge k w.heap.size with h1 | h1
  · exact h1
  · rw [Array.getElem?_eq_none h1] at h; cases h
theorem span_blk {w : World} {g : Nat} {s : Span} (h : w.heap[g]? = some s.blk) :
    w.cell? ⟨g, 0, none⟩ = some (.string s.fr) ∧ w.cell? ⟨g, 1, none⟩ = some (.string s.to) ∧ w.cell? ⟨g, 2, none⟩ = some (.int .i64 s.sh) ∧ w.cell? ⟨g, 3, none⟩ = some (.int .i64 s.ep) ∧ w.cell? ⟨g, 4, none⟩ = some (.int .i64 s.gr) ∧ g < w.heap.size := by
  refine ⟨?_, ?_, ?_, ?_, ?_, lt_of_some h⟩
  all_goals simp [World.cell?, h, Span.blk]
def Plan.blk (p : Plan) : Obj := .cells #[.int .i64 p.kind, .int .i64 p.phase, .int .i64 p.shard, .int .i64 p.other, .int .i64 p.group, .int .i64 p.past, .int .i64 p.epoch, .string p.key] 24
theorem plan_blk {w : World} {g : Nat} {p : Plan} (h : w.heap[g]? = some p.blk) :
    w.cell? ⟨g, 0, none⟩ = some (.int .i64 p.kind) ∧ w.cell? ⟨g, 1, none⟩ = some (.int .i64 p.phase) ∧ w.cell? ⟨g, 2, none⟩ = some (.int .i64 p.shard) ∧ w.cell? ⟨g, 3, none⟩ = some (.int .i64 p.other) ∧ w.cell? ⟨g, 4, none⟩ = some (.int .i64 p.group) ∧
    w.cell? ⟨g, 5, none⟩ = some (.int .i64 p.past) ∧ w.cell? ⟨g, 6, none⟩ = some (.int .i64 p.epoch) ∧ w.cell? ⟨g, 7, none⟩ = some (.string p.key) ∧ g < w.heap.size := by
  refine ⟨?_, ?_, ?_, ?_, ?_, ?_, ?_, ?_, lt_of_some h⟩
  all_goals simp [World.cell?, h, Plan.blk]
theorem al {w : World} (o : Obj) : Below w.heap.size w (w.alloc o) := (Below.refl _ _).alloc (Nat.le_refl _) o
theorem blk_below {B : Nat} {w w1 : World} {g : Nat} {o : Obj} (hb : Below B w w1) (hg : g < B) (h : w.heap[g]? = some o) : w1.heap[g]? = some o := (hb.block g hg).trans h
end Go.Proofs.Ytimondpollbdfaa
