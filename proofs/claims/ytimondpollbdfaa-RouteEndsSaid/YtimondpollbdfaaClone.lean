/- What is proved: a map is copied: slices.Clone at spans; both programs' copied. Condition: the spans take at most 2^47 bytes. -/
import Derived.Test.YtimondpollbdfaaRFind
set_option linter.unusedVariables false
set_option linter.unusedSimpArgs false
namespace Go.Proofs.Ytimondpollbdfaa
open Go.RowKit
attribute [local go_sem] Span.val Atl.val Plan.val

theorem info50 : (Try.prog.info? 50).map (fun i => (i.zero, i.size, i.bytes)) = some (some (.agg #[.string ⟨#[]⟩, .string ⟨#[]⟩, .int .i64 0, .int .i64 0, .int .i64 0]), 5, 56) := by kernel_rfl
theorem info_parts {t : TypeId} {z : Value} {n b : Nat} (h : (Try.prog.info? t).map (fun i => (i.zero, i.size, i.bytes)) = some (some z, n, b)) : ∃ i, Try.prog.info? t = some i ∧ i.zero = some z ∧ i.size = n ∧ i.bytes = b := by
  cases hi : Try.prog.info? t with
  | none => rw [hi] at h; cases h
  | some i =>
    rw [hi] at h
    simp only [Option.map_some, Option.some.injEq, Prod.mk.injEq] at h
    exact ⟨i, rfl, h.1, h.2.1, h.2.2⟩
theorem spans_one (l : List Span) : ∀ u ∈ (l.map Span.cells).flatten, u.oneCell' = true := by
  intro u hu
  obtain ⟨c, hc, hu⟩ := List.mem_flatten.1 hu
  obtain ⟨p, _, rfl⟩ := List.mem_map.1 hc
  simp [Span.cells] at hu
  rcases hu with rfl | rfl | rfl | rfl | rfl <;> rfl

set_option maxHeartbeats 400000 in
theorem clone_any (w : World) (A : Option Addr) (cap : Nat) (l : List Span) (hr : RowAt w w.heap.size 5 A (l.map Span.cells)) (hlen : l.length * 56 ≤ 140737488355328) :
    Calls Try.prog 64 #[.slice A l.length cap] w fun e w' => ∃ A' cap', e = .returned (.slice A' l.length cap') ∧ w'.ownsRow w.heap.size 50 5 (.slice A' l.length cap') l.length (l.map Span.cells).flatten ∧ Below w.heap.size w w' := by
  obtain ⟨i0, hi, hz0, hz1, hz2⟩ := info_parts info50
  have hn := fun w => Lib.run_eql_slice_nil (P := Try.prog) w 22 50 A l.length cap 0 0 Try.underlying22
  cases A with
  | none =>
    have hA' : l = [] := by
      cases l with
      | nil => rfl
      | cons d l => obtain ⟨b, off, hA, _⟩ := hr 0 (Span.cells d) (by simp); cases hA
    subst hA'
    have hn0 := fun w => Lib.run_eql_slice_nil (P := Try.prog) w 22 50 none 0 cap 0 0 Try.underlying22
    clear hn
    go_enter Try.func64, Try.ntmps64
    go_wp2
    go_ret
    exact ⟨none, 0, rfl, World.ownsRow_nil _ _ _ _, Below.refl _ _⟩
  | some ad =>
    have hl : (l.map Span.cells).length = l.length := by simp
    have Hl := Lib.hid hl; clear hl
    go_enter Try.func64, Try.ntmps64
    go_wp2_with (at_builtin; refine wpList_app _ rfl (.tmp 5) (.tmp 6) 22 rfl 50 i0 _ w.heap.size 5 56 Try.underlying22 hi hz0 hz1 hz2 rfl (by omega) (.slice (some ⟨w.heap.size, 0, none⟩) 0 0) 0 [] rfl (World.ownsRow_made w #[] 0 (Nat.le_refl _) (Nat.zero_le _) rfl) w.heap.size (some ad) l.length cap (l.map Span.cells) rfl (hr.below ((Below.refl _ _).alloc (Nat.le_refl _) _) (Nat.le_refl _)) (span_len l) Hl.out (spans_one l) (by unfold maxLen; omega) (by omega) (by simp) ?_; intro A' cap' w1 hown1 hg1 hat1)
    go_ret
    exact ⟨A', cap', by simp, by simpa using hown1, ((Below.refl _ _).alloc (Nat.le_refl _) _).grown hg1 (by simp) (by simp [Value.ownBlock])⟩

theorem MapIn.ofOwn {w w' : World} {A A' : Option Addr} {cap cap' base : Nat} {a : Atl} (h : MapIn w A cap a) (ho : w'.ownsRow base 50 5 (.slice A' a.sp.length cap') a.sp.length (a.sp.map Span.cells).flatten) : MapIn w' A' cap' a := by
  refine ⟨rowAt_of_own ho rfl (span_len _) (by simp), ?_, ?_, h.sz, h.key⟩
  · obtain ⟨A2, c2, hv, hle, _⟩ := own_shape ho
    injection hv with _ _ h3
    omega
  · rcases ho.2 with ⟨h4, _⟩ | ⟨g', cap2, cur, h4, _, _, hcap, hmax, _⟩
    · injection h4 with h5 h6 h7; omega
    · injection h4 with h5 h6 h7
      subst h7
      unfold maxLen at hmax; exact hmax
/-- The eleven cells of a map's block. -/
theorem map_fz {w : World} {g : Nat} {a : Atl} {v : Value} (h : w.heap[g]? = some (a.blk v)) (o : Nat) : w.frozen? ⟨g, o, none⟩ = false := fz_blk h o

theorem blk11 {w : World} {g ty : Nat} {p0 p1 p2 p3 p4 p5 p6 p7 p8 p9 p10 : Value} (h : w.heap[g]? = some (.cells #[p0, p1, p2, p3, p4, p5, p6, p7, p8, p9, p10] ty (0, 0))) : w.cell? ⟨g, 0, none⟩ = some p0 ∧ w.cell? ⟨g, 1, none⟩ = some p1 ∧ w.cell? ⟨g, 2, none⟩ = some p2 ∧ w.cell? ⟨g, 3, none⟩ = some p3 ∧ w.cell? ⟨g, 4, none⟩ = some p4 ∧ w.cell? ⟨g, 5, none⟩ = some p5 ∧ w.cell? ⟨g, 6, none⟩ = some p6 ∧ w.cell? ⟨g, 7, none⟩ = some p7 ∧ w.cell? ⟨g, 8, none⟩ = some p8 ∧ w.cell? ⟨g, 9, none⟩ = some p9 ∧ w.cell? ⟨g, 10, none⟩ = some p10 ∧ g < w.heap.size := by
  refine ⟨?_, ?_, ?_, ?_, ?_, ?_, ?_, ?_, ?_, ?_, ?_, lt_of_some h⟩
  all_goals simp [World.cell?, h]
theorem fz11 {w : World} {g ty : Nat} {c : Array Value} (h : w.heap[g]? = some (.cells c ty (0, 0))) : w.frozen? ⟨g, 0, none⟩ = false ∧ w.frozen? ⟨g, 1, none⟩ = false ∧ w.frozen? ⟨g, 2, none⟩ = false ∧ w.frozen? ⟨g, 3, none⟩ = false ∧ w.frozen? ⟨g, 4, none⟩ = false ∧ w.frozen? ⟨g, 5, none⟩ = false ∧ w.frozen? ⟨g, 6, none⟩ = false ∧ w.frozen? ⟨g, 7, none⟩ = false ∧ w.frozen? ⟨g, 8, none⟩ = false ∧ w.frozen? ⟨g, 9, none⟩ = false ∧ w.frozen? ⟨g, 10, none⟩ = false := by
  refine ⟨?_, ?_, ?_, ?_, ?_, ?_, ?_, ?_, ?_, ?_, ?_⟩
  all_goals exact fz_blk h _
theorem set11 {B g : Nat} {w W : World} {p0 p1 p2 p3 p4 p5 p6 p7 p8 p9 p10 : Value} (h : Below B w W) (hg : B ≤ g) : Below B w ((((((((((((W.setCell ⟨g, 0, none⟩ p0).setCell ⟨g, 1, none⟩ p1).setCell ⟨g, 2, none⟩ p2).setCell ⟨g, 3, none⟩ p3).setCell ⟨g, 4, none⟩ p4).setCell ⟨g, 5, none⟩ p5).setCell ⟨g, 6, none⟩ p6).setCell ⟨g, 7, none⟩ p7).setCell ⟨g, 8, none⟩ p8).setCell ⟨g, 9, none⟩ p9).setCell ⟨g, 10, none⟩ p10)) :=
  (((((((((((h.setCell (p := ⟨g, 0, none⟩) hg _).setCell (p := ⟨g, 1, none⟩) hg _).setCell (p := ⟨g, 2, none⟩) hg _).setCell (p := ⟨g, 3, none⟩) hg _).setCell (p := ⟨g, 4, none⟩) hg _).setCell (p := ⟨g, 5, none⟩) hg _).setCell (p := ⟨g, 6, none⟩) hg _).setCell (p := ⟨g, 7, none⟩) hg _).setCell (p := ⟨g, 8, none⟩) hg _).setCell (p := ⟨g, 9, none⟩) hg _).setCell (p := ⟨g, 10, none⟩) hg _)
theorem only11 {g : Nat} {W : World} {p0 p1 p2 p3 p4 p5 p6 p7 p8 p9 p10 : Value} : Only (· = g) W ((((((((((((W.setCell ⟨g, 0, none⟩ p0).setCell ⟨g, 1, none⟩ p1).setCell ⟨g, 2, none⟩ p2).setCell ⟨g, 3, none⟩ p3).setCell ⟨g, 4, none⟩ p4).setCell ⟨g, 5, none⟩ p5).setCell ⟨g, 6, none⟩ p6).setCell ⟨g, 7, none⟩ p7).setCell ⟨g, 8, none⟩ p8).setCell ⟨g, 9, none⟩ p9).setCell ⟨g, 10, none⟩ p10)) :=
  (((((((((((only_setCell W ⟨g, 0, none⟩ p0).trans (only_setCell _ ⟨g, 1, none⟩ p1) (fun _ _ h => h)).trans (only_setCell _ ⟨g, 2, none⟩ p2) (fun _ _ h => h)).trans (only_setCell _ ⟨g, 3, none⟩ p3) (fun _ _ h => h)).trans (only_setCell _ ⟨g, 4, none⟩ p4) (fun _ _ h => h)).trans (only_setCell _ ⟨g, 5, none⟩ p5) (fun _ _ h => h)).trans (only_setCell _ ⟨g, 6, none⟩ p6) (fun _ _ h => h)).trans (only_setCell _ ⟨g, 7, none⟩ p7) (fun _ _ h => h)).trans (only_setCell _ ⟨g, 8, none⟩ p8) (fun _ _ h => h)).trans (only_setCell _ ⟨g, 9, none⟩ p9) (fun _ _ h => h)).trans (only_setCell _ ⟨g, 10, none⟩ p10) (fun _ _ h => h))
set_option maxRecDepth 100000 in
set_option maxHeartbeats 2000000 in
theorem copied_any (w : World) (A : Option Addr) (cap : Nat) (a : Atl) (h : MapIn w A cap a) (hlen : a.sp.length * 56 ≤ 140737488355328) :
    Calls Try.prog 40 #[a.val (.slice A a.sp.length cap)] w fun e w' => ∃ A' cap', e = .returned (a.val (.slice A' a.sp.length cap')) ∧ w'.ownsRow w.heap.size 50 5 (.slice A' a.sp.length cap') a.sp.length (a.sp.map Span.cells).flatten ∧ MapIn w' A' cap' a ∧ Below w.heap.size w w' := by
  have HI := Lib.hid h; clear h
  go_enter Try.func40, Try.ntmps40
  go_wp2_with (go_at_call 64
               refine (clone_any _ A cap a.sp (HI.out.below (al2 _ _)).row hlen).mono ?_
               rintro e w1 ⟨A', cap', rfl, ho, hb1⟩
               obtain ⟨hM, hR, hB⟩ := rfind_blocks hb1
               obtain ⟨m0, m1, m2, m3, m4, m5, m6, m7, m8, m9, m10, mlt⟩ := map_cells hM
               have mf := map_fz hM 2
               obtain ⟨c0, c1, c2, c3, c4, c5, c6, c7, c8, c9, c10, clt⟩ := blk11 hR
               obtain ⟨f0, f1, f2, f3, f4, f5, f6, f7, f8, f9, f10⟩ := fz11 hR
               have hne : w.heap.size ≠ w.heap.size + 1 := by omega
               have HO := Lib.hid ho; have HB := Lib.hid hB
               clear ho hB hM hR hb1)
  refine bodyPost_ret (v := a.val (.slice A' a.sp.length cap')) (by simp [results, Try.results40, go_sem, Atl.val, c0, c1, c2, c3, c4, c5, c6, c7, c8, c9, c10]) rfl ?_
  have hbel := set11 (g := w.heap.size + 1) (p0 := .int .i64 a.groups) (p1 := .int .i64 a.last) (p2 := .slice A' a.sp.length cap') (p3 := .int .i64 a.plan.kind) (p4 := .int .i64 a.plan.phase) (p5 := .int .i64 a.plan.shard) (p6 := .int .i64 a.plan.other) (p7 := .int .i64 a.plan.group) (p8 := .int .i64 a.plan.past) (p9 := .int .i64 a.plan.epoch) (p10 := .string a.plan.key) (HB.out.setCell (p := ⟨w.heap.size, 2, none⟩) (Nat.le_refl _) (.slice A' a.sp.length cap')) (by omega)
  have hone := (only_setCell w1 ⟨w.heap.size, 2, none⟩ (.slice A' a.sp.length cap')).mono (G := fun k => k = w.heap.size ∨ k = w.heap.size + 1) (fun k h => .inl h)
  have htwo := hone.trans (only11 (g := w.heap.size + 1) (p0 := .int .i64 a.groups) (p1 := .int .i64 a.last) (p2 := .slice A' a.sp.length cap') (p3 := .int .i64 a.plan.kind) (p4 := .int .i64 a.plan.phase) (p5 := .int .i64 a.plan.shard) (p6 := .int .i64 a.plan.other) (p7 := .int .i64 a.plan.group) (p8 := .int .i64 a.plan.past) (p9 := .int .i64 a.plan.epoch) (p10 := .string a.plan.key)) (fun k _ h => .inr h)
  have hlt : ∀ k, (Value.slice A' a.sp.length cap').ownBlock = some k → w.heap.size + 1 + 1 ≤ k := fun k hk => by have := (HO.out.lt k hk).1; simpa using this
  have hown := own_base (own_only HO.out htwo (fun k hk h => by have := hlt k hk; rcases h with h | h <;> omega)) (base' := w.heap.size) (by simp; omega)
  exact ⟨A', cap', rfl, hown, HI.out.ofOwn hown, hbel⟩
set_option maxRecDepth 100000 in
set_option maxHeartbeats 2000000 in
theorem rcopied_any (w : World) (A : Option Addr) (cap : Nat) (a : Atl) (h : MapIn w A cap a) (hlen : a.sp.length * 56 ≤ 140737488355328) :
    Calls Try.prog 48 #[a.val (.slice A a.sp.length cap)] w fun e w' => ∃ A' cap', e = .returned (a.val (.slice A' a.sp.length cap')) ∧ w'.ownsRow w.heap.size 50 5 (.slice A' a.sp.length cap') a.sp.length (a.sp.map Span.cells).flatten ∧ MapIn w' A' cap' a ∧ Below w.heap.size w w' := by
  have HI := Lib.hid h; clear h
  go_enter Try.func48, Try.ntmps48
  go_wp2_with (go_at_call 64
               refine (clone_any _ A cap a.sp (HI.out.below (al2 _ _)).row hlen).mono ?_
               rintro e w1 ⟨A', cap', rfl, ho, hb1⟩
               obtain ⟨hM, hR, hB⟩ := rfind_blocks hb1
               obtain ⟨m0, m1, m2, m3, m4, m5, m6, m7, m8, m9, m10, mlt⟩ := map_cells hM
               have mf := map_fz hM 2
               obtain ⟨c0, c1, c2, c3, c4, c5, c6, c7, c8, c9, c10, clt⟩ := blk11 hR
               obtain ⟨f0, f1, f2, f3, f4, f5, f6, f7, f8, f9, f10⟩ := fz11 hR
               have hne : w.heap.size ≠ w.heap.size + 1 := by omega
               have HO := Lib.hid ho; have HB := Lib.hid hB
               clear ho hB hM hR hb1)
  refine bodyPost_ret (v := a.val (.slice A' a.sp.length cap')) (by simp [results, Try.results48, go_sem, Atl.val, c0, c1, c2, c3, c4, c5, c6, c7, c8, c9, c10]) rfl ?_
  have hbel := set11 (g := w.heap.size + 1) (p0 := .int .i64 a.groups) (p1 := .int .i64 a.last) (p2 := .slice A' a.sp.length cap') (p3 := .int .i64 a.plan.kind) (p4 := .int .i64 a.plan.phase) (p5 := .int .i64 a.plan.shard) (p6 := .int .i64 a.plan.other) (p7 := .int .i64 a.plan.group) (p8 := .int .i64 a.plan.past) (p9 := .int .i64 a.plan.epoch) (p10 := .string a.plan.key) (HB.out.setCell (p := ⟨w.heap.size, 2, none⟩) (Nat.le_refl _) (.slice A' a.sp.length cap')) (by omega)
  have hone := (only_setCell w1 ⟨w.heap.size, 2, none⟩ (.slice A' a.sp.length cap')).mono (G := fun k => k = w.heap.size ∨ k = w.heap.size + 1) (fun k h => .inl h)
  have htwo := hone.trans (only11 (g := w.heap.size + 1) (p0 := .int .i64 a.groups) (p1 := .int .i64 a.last) (p2 := .slice A' a.sp.length cap') (p3 := .int .i64 a.plan.kind) (p4 := .int .i64 a.plan.phase) (p5 := .int .i64 a.plan.shard) (p6 := .int .i64 a.plan.other) (p7 := .int .i64 a.plan.group) (p8 := .int .i64 a.plan.past) (p9 := .int .i64 a.plan.epoch) (p10 := .string a.plan.key)) (fun k _ h => .inr h)
  have hlt : ∀ k, (Value.slice A' a.sp.length cap').ownBlock = some k → w.heap.size + 1 + 1 ≤ k := fun k hk => by have := (HO.out.lt k hk).1; simpa using this
  have hown := own_base (own_only HO.out htwo (fun k hk h => by have := hlt k hk; rcases h with h | h <;> omega)) (base' := w.heap.size) (by simp; omega)
  exact ⟨A', cap', rfl, hown, HI.out.ofOwn hown, hbel⟩
end Go.Proofs.Ytimondpollbdfaa
