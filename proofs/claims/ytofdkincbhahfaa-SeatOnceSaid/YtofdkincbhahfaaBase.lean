/- What is proved: what jobs, sessions and books are, as values and as rows of cells. No condition beyond what each law states. -/
import Derived.Test.YtofdkincbhahfaaMem2
set_option linter.unusedVariables false
set_option linter.unusedSimpArgs false
namespace Go.Proofs.Ytofdkincbhahfaa
open Go.RowKit

structure JobD where
  name : ByteArray
  expr : ByteArray
  zone : ByteArray
  token : ByteArray
  client : Int
  seq : Int
  paused : Bool
  mark : Int
def JobD.cells (d : JobD) : List Value := [.string d.name, .string d.expr, .string d.zone, .string d.token, .int .i64 d.client, .int .i64 d.seq, .bool d.paused, .int .i64 d.mark]
theorem job_len (l : List JobD) : ∀ c ∈ l.map JobD.cells, c.length = 8 := by
  intro c hc; obtain ⟨p, _, rfl⟩ := List.mem_map.1 hc; rfl
theorem job_cells {w : World} {B : Nat} {A : Option Addr} {l : List JobD} (h : RowAt w B 8 A (l.map JobD.cells)) (k : Nat) (hk : k < l.length) :
    ∃ b off, A = some ⟨b, off, none⟩ ∧ b < B ∧ w.cell? ⟨b, off + k * 8, none⟩ = some (.string l[k].name) ∧ w.cell? ⟨b, off + k * 8 + 1, none⟩ = some (.string l[k].expr) ∧ w.cell? ⟨b, off + k * 8 + 2, none⟩ = some (.string l[k].zone) ∧ w.cell? ⟨b, off + k * 8 + 3, none⟩ = some (.string l[k].token) ∧
      w.cell? ⟨b, off + k * 8 + 4, none⟩ = some (.int .i64 l[k].client) ∧ w.cell? ⟨b, off + k * 8 + 5, none⟩ = some (.int .i64 l[k].seq) ∧ w.cell? ⟨b, off + k * 8 + 6, none⟩ = some (.bool l[k].paused) ∧ w.cell? ⟨b, off + k * 8 + 7, none⟩ = some (.int .i64 l[k].mark) := by
  obtain ⟨b, off, hA, hb, hc⟩ := h k (JobD.cells l[k]) (by simp [hk])
  exact ⟨b, off, hA, hb, hc 0 _ rfl, hc 1 _ rfl, hc 2 _ rfl, hc 3 _ rfl, hc 4 _ rfl, hc 5 _ rfl, hc 6 _ rfl, hc 7 _ rfl⟩
/-- A session as it lies in memory: J, jc: where its jobs lie, and their room. -/
structure Seen where
  client : Int
  seq : Int
  err : Int
  time : Int
  jobs : List JobD
  J : Option Addr
  jc : Nat
def Seen.jv (s : Seen) : Value := .slice s.J s.jobs.length s.jc
def Seen.cells (s : Seen) : List Value := [.int .i64 s.client, .int .i64 s.seq, .int .i64 s.err, .int .i64 s.time, .slice s.J s.jobs.length s.jc]
def Seen.val (s : Seen) : Value := .agg #[.int .i64 s.client, .int .i64 s.seq, .int .i64 s.err, .int .i64 s.time, .slice s.J s.jobs.length s.jc]
def Seen.blk (s : Seen) : Obj := .cells #[.int .i64 s.client, .int .i64 s.seq, .int .i64 s.err, .int .i64 s.time, .slice s.J s.jobs.length s.jc] 28
def Seen.res (s : Seen) : Value := .agg #[.int .i64 s.err, .int .i64 s.time, .slice s.J s.jobs.length s.jc]
/-- What a session says, wherever its jobs lie. -/
def Seen.dat (s : Seen) : Int × Int × Int × Int × List JobD := (s.client, s.seq, s.err, s.time, s.jobs)
theorem seen_len (l : List Seen) : ∀ c ∈ l.map Seen.cells, c.length = 5 := by
  intro c hc; obtain ⟨p, _, rfl⟩ := List.mem_map.1 hc; rfl
theorem seen_cells {w : World} {B : Nat} {A : Option Addr} {l : List Seen} (h : RowAt w B 5 A (l.map Seen.cells)) (k : Nat) (hk : k < l.length) :
    ∃ b off, A = some ⟨b, off, none⟩ ∧ b < B ∧ w.cell? ⟨b, off + k * 5, none⟩ = some (.int .i64 l[k].client) ∧ w.cell? ⟨b, off + k * 5 + 1, none⟩ = some (.int .i64 l[k].seq) ∧
      w.cell? ⟨b, off + k * 5 + 2, none⟩ = some (.int .i64 l[k].err) ∧ w.cell? ⟨b, off + k * 5 + 3, none⟩ = some (.int .i64 l[k].time) ∧ w.cell? ⟨b, off + k * 5 + 4, none⟩ = some (.slice l[k].J l[k].jobs.length l[k].jc) := by
  obtain ⟨b, off, hA, hb, hc⟩ := h k (Seen.cells l[k]) (by simp [hk])
  exact ⟨b, off, hA, hb, hc 0 _ rfl, hc 1 _ rfl, hc 2 _ rfl, hc 3 _ rfl, hc 4 _ rfl⟩
theorem lt_of_some {w : World} {k : Nat} {o : Obj} (h : w.heap[k]? = some o) : k < w.heap.size := by
  rcases Nat.lt_or_ge k w.heap.size with h1 | h1
  · exact h1
  · rw [Array.getElem?_eq_none h1] at h; cases h
theorem seen_blk {w : World} {g : Nat} {s : Seen} (h : w.heap[g]? = some s.blk) :
    w.cell? ⟨g, 0, none⟩ = some (.int .i64 s.client) ∧ w.cell? ⟨g, 1, none⟩ = some (.int .i64 s.seq) ∧ w.cell? ⟨g, 2, none⟩ = some (.int .i64 s.err) ∧ w.cell? ⟨g, 3, none⟩ = some (.int .i64 s.time) ∧ w.cell? ⟨g, 4, none⟩ = some (.slice s.J s.jobs.length s.jc) ∧ g < w.heap.size := by
  refine ⟨?_, ?_, ?_, ?_, ?_, lt_of_some h⟩
  all_goals simp [World.cell?, h, Seen.blk]
theorem al {w : World} (o : Obj) : Below w.heap.size w (w.alloc o) := (Below.refl _ _).alloc (Nat.le_refl _) o
theorem al2 {w : World} (o o2 : Obj) : Below w.heap.size w ((w.alloc o).alloc o2) := (al o).trans ((al (w := w.alloc o) o2).mono (al o).size)
theorem blk_below {B : Nat} {w w1 : World} {g : Nat} {o : Obj} (hb : Below B w w1) (hg : g < B) (h : w.heap[g]? = some o) : w1.heap[g]? = some o := (hb.block g hg).trans h
/-- A session's jobs lie in memory, and take at most 2^47 bytes. -/
def JobsIn (w : World) (s : Seen) : Prop := RowAt w w.heap.size 8 s.J (s.jobs.map JobD.cells) ∧ s.jobs.length ≤ s.jc ∧ s.jc ≤ 9223372036854775807 ∧ s.jobs.length * 96 ≤ 140737488355328
theorem JobsIn.below {w w' : World} {s : Seen} (h : JobsIn w s) (hb : Below w.heap.size w w') : JobsIn w' s := ⟨(h.1.below hb (Nat.le_refl _)).more hb.size, h.2⟩
/-- A book that lies in memory. -/
structure BookIn (w : World) (A : Option Addr) (cap : Nat) (l : List Seen) : Prop where
  row : RowAt w w.heap.size 5 A (l.map Seen.cells)
  ncap : l.length ≤ cap
  cmax : cap ≤ 9223372036854775807
  jobs : ∀ s ∈ l, JobsIn w s
theorem BookIn.below {w w' : World} {A : Option Addr} {cap : Nat} {l : List Seen} (h : BookIn w A cap l) (hb : Below w.heap.size w w') : BookIn w' A cap l :=
  ⟨(h.row.below hb (Nat.le_refl _)).more hb.size, h.ncap, h.cmax, fun s hs => (h.jobs s hs).below hb⟩
/-- A Prop as a Bool. -/
noncomputable def tr (p : Prop) : Bool := @decide p (Classical.propDecidable p)
theorem tr_true {p : Prop} (h : p) : tr p = true := by unfold tr; exact @decide_eq_true _ (Classical.propDecidable p) h
theorem tr_false {p : Prop} (h : ¬ p) : tr p = false := by unfold tr; exact @decide_eq_false _ (Classical.propDecidable p) h
theorem of_tr {p : Prop} (h : tr p = true) : p := by unfold tr at h; exact @of_decide_eq_true _ (Classical.propDecidable p) h
theorem not_tr {p : Prop} (h : tr p = false) : ¬ p := by unfold tr at h; exact @of_decide_eq_false _ (Classical.propDecidable p) h
def rightB (client seq : Int) : Bool := decide (1 ≤ client) && decide (client ≤ 64) && decide (1 ≤ seq)
/-- A right book. -/
def BookOk (l : List Seen) : Prop := ∀ i (h : i < l.length), rightB l[i].client l[i].seq = true ∧ ∀ j (hj : j + 1 = i), (l[j]'(by omega)).client < l[i].client
end Go.Proofs.Ytofdkincbhahfaa
