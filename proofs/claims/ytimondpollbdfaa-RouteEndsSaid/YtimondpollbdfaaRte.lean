/- What is proved: what ways are, as values; whether a way is right: the program's Check. -/
import Derived.Test.YtimondpollbdfaaNew
set_option linter.unusedVariables false
set_option linter.unusedSimpArgs false
namespace Go.Proofs.Ytimondpollbdfaa
open Go.RowKit
attribute [local go_sem] Span.val Atl.val Plan.val

structure Rte where
  nodes : Int
  name : ByteArray
  map : Atl
  fetch : Bool
  node : Int
  left : Int
  done : Bool
  err : Int
  time : Int
/-- v: the slice of its map's spans; j: the slice of its result's jobs. -/
def Rte.val (r : Rte) (v j : Value) : Value := .agg #[.int .i64 r.nodes, .string r.name, .int .i64 r.map.groups, .int .i64 r.map.last, v, .int .i64 r.map.plan.kind, .int .i64 r.map.plan.phase, .int .i64 r.map.plan.shard, .int .i64 r.map.plan.other, .int .i64 r.map.plan.group, .int .i64 r.map.plan.past, .int .i64 r.map.plan.epoch, .string r.map.plan.key,
  .bool r.fetch, .int .i64 r.node, .int .i64 r.left, .bool r.done, .int .i64 r.err, .int .i64 r.time, j]
def Rte.blk (r : Rte) (v j : Value) : Obj := .cells #[.int .i64 r.nodes, .string r.name, .int .i64 r.map.groups, .int .i64 r.map.last, v, .int .i64 r.map.plan.kind, .int .i64 r.map.plan.phase, .int .i64 r.map.plan.shard, .int .i64 r.map.plan.other, .int .i64 r.map.plan.group, .int .i64 r.map.plan.past, .int .i64 r.map.plan.epoch, .string r.map.plan.key,
  .bool r.fetch, .int .i64 r.node, .int .i64 r.left, .bool r.done, .int .i64 r.err, .int .i64 r.time, j] 39
theorem rte_cells {w : World} {g : Nat} {r : Rte} {v j : Value} (h : w.heap[g]? = some (r.blk v j)) :
    (w.cell? ⟨g, 0, none⟩ = some (.int .i64 r.nodes) ∧ w.cell? ⟨g, 1, none⟩ = some (.string r.name) ∧ w.cell? ⟨g, 13, none⟩ = some (.bool r.fetch) ∧ w.cell? ⟨g, 14, none⟩ = some (.int .i64 r.node) ∧ w.cell? ⟨g, 15, none⟩ = some (.int .i64 r.left) ∧ w.cell? ⟨g, 16, none⟩ = some (.bool r.done) ∧ g < w.heap.size) ∧
    (w.cell? ⟨g, 2, none⟩ = some (.int .i64 r.map.groups) ∧ w.cell? ⟨g, 3, none⟩ = some (.int .i64 r.map.last) ∧ w.cell? ⟨g, 4, none⟩ = some v ∧ w.cell? ⟨g, 5, none⟩ = some (.int .i64 r.map.plan.kind) ∧ w.cell? ⟨g, 6, none⟩ = some (.int .i64 r.map.plan.phase) ∧
    w.cell? ⟨g, 7, none⟩ = some (.int .i64 r.map.plan.shard) ∧ w.cell? ⟨g, 8, none⟩ = some (.int .i64 r.map.plan.other) ∧ w.cell? ⟨g, 9, none⟩ = some (.int .i64 r.map.plan.group) ∧ w.cell? ⟨g, 10, none⟩ = some (.int .i64 r.map.plan.past) ∧ w.cell? ⟨g, 11, none⟩ = some (.int .i64 r.map.plan.epoch) ∧ w.cell? ⟨g, 12, none⟩ = some (.string r.map.plan.key)) ∧
    w.cell? ⟨g, 17, none⟩ = some (.int .i64 r.err) ∧ w.cell? ⟨g, 18, none⟩ = some (.int .i64 r.time) ∧ w.cell? ⟨g, 19, none⟩ = some j := by
  refine ⟨⟨?_, ?_, ?_, ?_, ?_, ?_, lt_of_some h⟩, ⟨?_, ?_, ?_, ?_, ?_, ?_, ?_, ?_, ?_, ?_, ?_⟩, ?_, ?_, ?_⟩
  all_goals simp [World.cell?, h, Rte.blk]
def RteOk (r : Rte) : Prop := 1 ≤ r.nodes ∧ r.nodes ≤ 7 ∧ 1 ≤ r.node ∧ r.node ≤ r.nodes ∧ 0 ≤ r.left ∧ r.left ≤ 64 ∧ (r.left = 0 → r.done = true) ∧ (emptyB r.map = true ∨ tr (MapOk r.map) = true) ∧ (r.fetch = true ∨ r.done = true ∨ (emptyB r.map = false ∧ named r.name = true))

attribute [local go_sem] Rte.val

set_option maxRecDepth 100000 in
set_option maxHeartbeats 4000000 in
theorem rteCheck_any (w : World) (A : Option Addr) (cap : Nat) (j : Value) (r : Rte) (h : MapIn w A cap r.map) (hn : r.name.size ≤ 9223372036854775807) :
    Calls Try.prog 26 #[r.val (.slice A r.map.sp.length cap) j] w fun e w' => e = .returned (.bool (tr (RteOk r))) ∧ Below w.heap.size w w' := by
  have hlen : r.map.sp.length ≤ 9223372036854775807 := Nat.le_trans h.ncap h.cmax
  obtain ⟨nodes, name, map, fetch, node, left, done, err, time⟩ := r
  dsimp only at h hn hlen
  have HI := Lib.hid h; clear h
  have tok : True := trivial
  cases hl : (left == 0)
  case' false => have hl0 : ¬ left = 0 := by simpa using hl
  case' true => have HL := Lib.hid (show left = 0 by simpa using hl)
  all_goals
   cases done <;> cases fetch
  all_goals
    go_enter Try.func26, Try.ntmps26
    go_wp2_with (first
      | (go_at_call 50
         have _h : True := tok
         refine (empty_any _ A cap map hlen).mono ?_
         rintro e w1 ⟨rfl, hb1⟩
         have hR := blk_below hb1 (by simp) (heap_alloc_new w ((Rte.mk nodes name map _ node left _ err time).blk (.slice A map.sp.length cap) j))
         obtain ⟨⟨c0, c1, c13, c14, c15, c16, clt⟩, ⟨c2, c3, c4, c5, c6, c7, c8, c9, c10, c11, c12⟩, c17, c18, c19⟩ := rte_cells hR
         have HB := Lib.hid ((al (w := w) ((Rte.mk nodes name map _ node left _ err time).blk (.slice A map.sp.length cap) j)).trans (hb1.mono (by simp))); have HR := Lib.hid hR
         clear hb1 hR tok)
      | (go_at_call 29
         refine (check_any _ A cap map (HI.out.below HB.out)).mono ?_
         rintro e w2 ⟨rfl, hb2⟩
         have hR := blk_below hb2 (lt_of_some HR.out) HR.out
         obtain ⟨⟨c0, c1, c13, c14, c15, c16, clt⟩, ⟨c2, c3, c4, c5, c6, c7, c8, c9, c10, c11, c12⟩, c17, c18, c19⟩ := rte_cells hR
         have HB2 := Lib.hid (HB.out.trans (hb2.mono HB.out.size)); have HR2 := Lib.hid hR
         clear hb2 hR)
      | (go_at_call 50
         refine (empty_any _ A cap map hlen).mono ?_
         rintro e w3 ⟨rfl, hb3⟩
         first
           | (have hR := blk_below hb3 (lt_of_some HR2.out) HR2.out
              have hB := HB2.out.trans (hb3.mono HB2.out.size)
              obtain ⟨⟨c0, c1, c13, c14, c15, c16, clt⟩, ⟨c2, c3, c4, c5, c6, c7, c8, c9, c10, c11, c12⟩, c17, c18, c19⟩ := rte_cells hR
              have HB3 := Lib.hid hB
              clear hb3 hR hB)
           | (have hR := blk_below hb3 (lt_of_some HR.out) HR.out
              have hB := HB.out.trans (hb3.mono HB.out.size)
              obtain ⟨⟨c0, c1, c13, c14, c15, c16, clt⟩, ⟨c2, c3, c4, c5, c6, c7, c8, c9, c10, c11, c12⟩, c17, c18, c19⟩ := rte_cells hR
              have HB3 := Lib.hid hB
              clear hb3 hR hB))
      | (go_at_call 47
         refine (named_any name hn _).mono ?_
         rintro e w4 ⟨rfl, hb4⟩
         have HB4 := Lib.hid (HB3.out.trans (hb4.mono HB3.out.size))
         clear hb4))
    all_goals
      go_ret
      refine ⟨ret_bool (eq_tr ?_), ?_⟩
      rotate_left
      · first
          | exact al _
          | exact HB4.out
          | exact HB3.out
          | exact HB2.out
          | exact HB.out
      · unfold RteOk
        try have hl1 := HL.out
        dsimp only
        clear HI
        first
          | (constructor
             · intro h; cases h
             · rintro ⟨g1, g2, g3, g4, g5, g6, g7, g8, g9⟩
               first
                 | omega
                 | (simp_all; done)
                 | grind)
          | (constructor
             · intro _
               exact ⟨by omega, by omega, by omega, by omega, by omega, by omega, by simp_all, by simp_all, by simp_all⟩
             · intro _; rfl)
          | grind
end Go.Proofs.Ytimondpollbdfaa
