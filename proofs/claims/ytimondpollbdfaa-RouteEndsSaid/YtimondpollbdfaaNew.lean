/- What is proved: which maps are new: both programs' New. -/
import Derived.Test.YtimondpollbdfaaSame
import Derived.Test.YtimondpollbdfaaRCheck
set_option linter.unusedVariables false
set_option linter.unusedSimpArgs false
namespace Go.Proofs.Ytimondpollbdfaa
open Go.RowKit
attribute [local go_sem] Span.val Atl.val Plan.val

def newS : Span := ⟨⟨#[]⟩, ⟨#[]⟩, 1, 1, 1⟩
def newA (g : Int) : Atl := ⟨g, 1, [newS], ⟨0, 0, 0, 0, 0, 0, 0, ⟨#[]⟩⟩⟩
theorem newA_ok {g : Int} (h1 : 1 ≤ g) (h2 : g ≤ 8) : MapOk (newA g) := by
  refine ⟨h1, h2, by show (1 : Int) ≤ _; omega, ⟨by simp [newA], by simp [newA], by simp [newA, newS], by simp [newA, newS], fun i h => by simp [newA] at h⟩, fun i h => ?_, .inl (by simp [isZ, eqP, newA])⟩
  have : i = 0 := by simp [newA] at h; exact h
  subst this
  exact ⟨Int.le_refl _, Int.le_refl _, rfl, Int.le_refl _, by show (1 : Int) ≤ _; omega, Int.le_refl _, h1⟩
theorem heap_second (w : World) (o p : Obj) : ((w.alloc o).alloc p).heap[w.heap.size + 1]? = some p := by simpa using heap_alloc_new (w.alloc o) p
theorem newA_bad {g : Int} (h : ¬ (1 ≤ g ∧ g ≤ 8)) : ¬ MapOk (newA g) := fun hm => h ⟨hm.1, hm.2.1⟩
theorem newA_in {w : World} {g : Int} {b : Nat} {fr : Nat × Nat} (h : w.heap[b]? = some (.cells newS.cells.toArray 50 fr)) : MapIn w (some ⟨b, 0, none⟩) 1 (newA g) :=
  ⟨rowAt_one h (lt_of_some h), Nat.le_refl _, by omega, fun s hs => by simp [newA] at hs; subst hs; show (0 : Nat) ≤ _; omega, by show (0 : Nat) ≤ _; omega⟩

set_option maxRecDepth 100000 in
set_option maxHeartbeats 2000000 in
theorem new_ok (w : World) (g : Int) (h1 : 1 ≤ g) (h2 : g ≤ 8) :
    Calls Try.prog 37 #[.int .i64 g] w fun e w' => ∃ b, e = .returned (.tuple #[(newA g).val (.slice (some ⟨b, 0, none⟩) 1 1), .int .i64 0]) ∧ MapIn w' (some ⟨b, 0, none⟩) 1 (newA g) ∧ Below w.heap.size w w' := by
  have hck : ∀ (W : World) (b : Nat), W.heap[b]? = some (.cells #[.string ⟨#[]⟩, .string ⟨#[]⟩, .int .i64 1, .int .i64 1, .int .i64 1] 50) → Calls Try.prog 29 #[.agg #[.int .i64 g, .int .i64 1, .slice (some ⟨b, 0, none⟩) 1 1, .int .i64 0, .int .i64 0, .int .i64 0, .int .i64 0, .int .i64 0, .int .i64 0, .int .i64 0, .string ⟨#[]⟩]] W fun e w' => e = .returned (.bool true) ∧ Below W.heap.size W w' := fun W b hb => by
    have := check_any W (some ⟨b, 0, none⟩) 1 (newA g) (newA_in hb)
    rw [tr_true (newA_ok h1 h2)] at this
    exact this
  have Hck := Lib.hid hck; clear hck
  go_enter Try.func37, Try.ntmps37
  go_wp2_with (go_at_call 29
               refine (Hck.out _ (w.heap.size + 1) ((Below.heap_alloc _ _ _ (by simp)).trans (by simpa using heap_alloc_new (w.alloc _) _))).mono ?_
               rintro e w1 ⟨rfl, hb1⟩
               have hR := blk_below hb1 (g := w.heap.size) (by simp; omega) ((Below.heap_alloc _ _ _ (by simp; omega)).trans ((Below.heap_alloc _ _ _ (by simp)).trans (heap_alloc_new w _)))
               have hS := blk_below hb1 (g := w.heap.size + 1) (by simp) ((Below.heap_alloc _ _ _ (by simp)).trans (by simpa using heap_alloc_new (w.alloc _) _))
               have hA := blk_below hb1 (g := w.heap.size + 1 + 1) (by simp) (by simpa using heap_alloc_new ((w.alloc _).alloc _) _)
               obtain ⟨c0, c1, c2, c3, c4, c5, c6, c7, c8, c9, c10, clt⟩ := blk11 hR
               obtain ⟨f0, f1, f2, f3, f4, f5, f6, f7, f8, f9, f10⟩ := fz11 hR
               obtain ⟨m0, m1, m2, m3, m4, m5, m6, m7, m8, m9, m10, mlt⟩ := blk11 hA
               have hne : w.heap.size ≠ w.heap.size + 1 + 1 := by omega
               have HB := Lib.hid ((al3 (w := w) _ _ _).trans (hb1.mono (by simp; omega)))
               have HS := Lib.hid hS
               clear hb1 hR hS hA)
  refine bodyPost_ret (v := .tuple #[(newA g).val (.slice (some ⟨w.heap.size + 1, 0, none⟩) 1 1), .int .i64 0]) (by simp [results, Try.results37, go_sem, Atl.val, newA, c0, c1, c2, c3, c4, c5, c6, c7, c8, c9, c10]) rfl ?_
  have ho := only11 (g := w.heap.size) (W := w1) (p0 := .int .i64 g) (p1 := .int .i64 1) (p2 := .slice (some ⟨w.heap.size + 1, 0, none⟩) 1 1) (p3 := .int .i64 0) (p4 := .int .i64 0) (p5 := .int .i64 0) (p6 := .int .i64 0) (p7 := .int .i64 0) (p8 := .int .i64 0) (p9 := .int .i64 0) (p10 := .string ⟨#[]⟩)
  exact ⟨_, rfl, newA_in ((ho.block _ (lt_of_some HS.out) (by omega)).trans HS.out), set11 HB.out (Nat.le_refl _)⟩
set_option maxRecDepth 100000 in
set_option maxHeartbeats 2000000 in
theorem new_bad (w : World) (g : Int) (hbad : ¬ (1 ≤ g ∧ g ≤ 8)) :
    Calls Try.prog 37 #[.int .i64 g] w fun e w' => e = .returned (.tuple #[zeroV, .int .i64 1]) ∧ Below w.heap.size w w' := by
  have hck : ∀ (W : World) (b : Nat), W.heap[b]? = some (.cells #[.string ⟨#[]⟩, .string ⟨#[]⟩, .int .i64 1, .int .i64 1, .int .i64 1] 50) → Calls Try.prog 29 #[.agg #[.int .i64 g, .int .i64 1, .slice (some ⟨b, 0, none⟩) 1 1, .int .i64 0, .int .i64 0, .int .i64 0, .int .i64 0, .int .i64 0, .int .i64 0, .int .i64 0, .string ⟨#[]⟩]] W fun e w' => e = .returned (.bool false) ∧ Below W.heap.size W w' := fun W b hb => by
    have := check_any W (some ⟨b, 0, none⟩) 1 (newA g) (newA_in hb)
    rw [tr_false (newA_bad hbad)] at this
    exact this
  have Hck := Lib.hid hck; clear hck
  go_enter Try.func37, Try.ntmps37
  go_wp2_with (go_at_call 29
               refine (Hck.out _ (w.heap.size + 1) ((Below.heap_alloc _ _ _ (by simp)).trans (by simpa using heap_alloc_new (w.alloc _) _))).mono ?_
               rintro e w1 ⟨rfl, hb1⟩
               have hR := blk_below hb1 (g := w.heap.size) (by simp; omega) ((Below.heap_alloc _ _ _ (by simp; omega)).trans ((Below.heap_alloc _ _ _ (by simp)).trans (heap_alloc_new w _)))
               have hS := blk_below hb1 (g := w.heap.size + 1) (by simp) ((Below.heap_alloc _ _ _ (by simp)).trans (by simpa using heap_alloc_new (w.alloc _) _))
               have hA := blk_below hb1 (g := w.heap.size + 1 + 1) (by simp) (by simpa using heap_alloc_new ((w.alloc _).alloc _) _)
               obtain ⟨c0, c1, c2, c3, c4, c5, c6, c7, c8, c9, c10, clt⟩ := blk11 hR
               obtain ⟨f0, f1, f2, f3, f4, f5, f6, f7, f8, f9, f10⟩ := fz11 hR
               obtain ⟨m0, m1, m2, m3, m4, m5, m6, m7, m8, m9, m10, mlt⟩ := blk11 hA
               have hne : w.heap.size ≠ w.heap.size + 1 + 1 := by omega
               have HB := Lib.hid ((al3 (w := w) _ _ _).trans (hb1.mono (by simp; omega)))
               have HS := Lib.hid hS
               clear hb1 hR hS hA)
  refine bodyPost_ret (v := .tuple #[zeroV, .int .i64 1]) (by simp [results, Try.results37, go_sem, zeroV, c0, c1, c2, c3, c4, c5, c6, c7, c8, c9, c10]) rfl ?_
  exact ⟨rfl, set11 HB.out (Nat.le_refl _)⟩
set_option maxRecDepth 100000 in
set_option maxHeartbeats 2000000 in
theorem rNew_ok (w : World) (g : Int) (h1 : 1 ≤ g) (h2 : g ≤ 8) :
    Calls Try.prog 38 #[.int .i64 g] w fun e w' => ∃ b, e = .returned (.tuple #[(newA g).val (.slice (some ⟨b, 0, none⟩) 1 1), .int .i64 0]) ∧ MapIn w' (some ⟨b, 0, none⟩) 1 (newA g) ∧ Below w.heap.size w w' := by
  go_enter Try.func38, Try.ntmps38
  go_wp2
  refine bodyPost_ret (v := .tuple #[(newA g).val (.slice (some ⟨w.heap.size + 1, 0, none⟩) 1 1), .int .i64 0]) (by simp [results, Try.results38, go_sem, Atl.val, newA]) rfl ⟨w.heap.size + 1, rfl, newA_in (fr := (0, 0)) (heap_second _ _ _), al2 _ _⟩

set_option maxRecDepth 100000 in
set_option maxHeartbeats 2000000 in
theorem rNew_bad (w : World) (g : Int) (hbad : ¬ (1 ≤ g ∧ g ≤ 8)) :
    Calls Try.prog 38 #[.int .i64 g] w fun e w' => e = .returned (.tuple #[zeroV, .int .i64 1]) ∧ Below w.heap.size w w' := by
  by_cases h1 : g < 1
  · clear hbad
    go_enter Try.func38, Try.ntmps38
    go_wp2
    exact bodyPost_ret (v := .tuple #[zeroV, .int .i64 1]) (by simp [results, Try.results38, go_sem, zeroV]) rfl ⟨rfl, al _⟩
  · have h2 : 8 < g := by omega
    clear hbad
    go_enter Try.func38, Try.ntmps38
    go_wp2
    exact bodyPost_ret (v := .tuple #[zeroV, .int .i64 1]) (by simp [results, Try.results38, go_sem, zeroV]) rfl ⟨rfl, al _⟩
end Go.Proofs.Ytimondpollbdfaa
