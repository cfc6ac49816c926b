/- What is proved: the document's Books: true on two copies of one book. -/
import Derived.Test.YtofdkincbhahfaaRCheck
set_option linter.unusedVariables false
set_option linter.unusedSimpArgs false
namespace Go.Proofs.Ytofdkincbhahfaa
open Go.RowKit
attribute [local go_sem] Seen.val cell_over frozen_over

theorem dat_len {l l' : List Seen} (h : l.map Seen.dat = l'.map Seen.dat) : l'.length = l.length := by
  have := congrArg List.length h
  simpa using this.symm
theorem dat_at {l l' : List Seen} (h : l.map Seen.dat = l'.map Seen.dat) (k : Nat) (hk : k < l.length) : ∃ J jc, l'[k]'(by rw [dat_len h]; exact hk) = { l[k] with J := J, jc := jc } := by
  have h1 : (l.map Seen.dat)[k]'(by simpa using hk) = (l'.map Seen.dat)[k]'(by simp [dat_len h]; exact hk) := by simp only [h]
  simp only [List.getElem_map] at h1
  obtain ⟨s, hs⟩ : ∃ s, l'[k]'(by rw [dat_len h]; exact hk) = s := ⟨_, rfl⟩
  rw [hs] at h1 ⊢
  obtain ⟨c, q, e, t, js, J, m⟩ := s
  refine ⟨J, m, ?_⟩
  simp only [Seen.dat, Prod.mk.injEq] at h1
  obtain ⟨h1, h2, h3, h4, h5⟩ := h1
  rw [← h1, ← h2, ← h3, ← h4, ← h5]
set_option maxRecDepth 100000 in
set_option maxHeartbeats 4000000 in
theorem books_true (w : World) (A A' : Option Addr) (cap cap' : Nat) (l l' : List Seen) (h : BookIn w A cap l) (h' : BookIn w A' cap' l') (hd : l.map Seen.dat = l'.map Seen.dat) :
    Calls Try.prog 15 #[.slice A l.length cap, .slice A' l'.length cap'] w fun e w' => e = .returned (.bool true) ∧ Below w.heap.size w w' := by
  have hl : l.length ≤ 9223372036854775807 := Nat.le_trans h.ncap h.cmax
  have H := Lib.hid h; have H' := Lib.hid h'; have Hd := Lib.hid hd
  have hlen := dat_len hd
  rw [hlen]
  clear h h' hd
  have Hlen := Lib.hid hlen; clear hlen
  go_enter Try.func15, Try.ntmps15
  go_wp2
  go_loopw [5] (fun v wr => ∃ k : Nat, k ≤ l.length ∧ v = .int .i64 k ∧ Below w.heap.size w wr) (fun v _ => l.length - (intOf v).toNat)
  case atStart => exact ⟨0, Nat.zero_le _, rfl, Below.refl _ _⟩
  case round =>
    obtain ⟨k, hk, rfl, hbel⟩ := hrel
    have HB := Lib.hid hbel; clear hbel
    by_cases hlt : k < l.length
    · have hlt' : k < l'.length := by rw [Hlen.out]; exact hlt
      obtain ⟨g, off, rfl, hg, p0, p1, p2, p3, p4⟩ := seen_cells (H.out.below HB.out).row k hlt
      obtain ⟨g', off', rfl, hg', s0, s1, s2, s3, s4⟩ := seen_cells (H'.out.below HB.out).row k hlt'
      obtain ⟨J, jc, he⟩ := dat_at Hd.out k hlt
      have hj := (H.out.below HB.out).jobs l[k] (List.getElem_mem hlt)
      have hj' := (H'.out.below HB.out).jobs l'[k] (List.getElem_mem hlt')
      rw [he] at s0 s1 s2 s3 s4 hj'
      obtain ⟨s, hs⟩ : ∃ s, l[k] = s := ⟨_, rfl⟩
      rw [hs] at p0 p1 p2 p3 p4 s0 s1 s2 s3 s4 hj hj'
      dsimp only at s0 s1 s2 s3 s4 hj'
      have hk1 : (0 : Int) ≤ (k : Int) := by omega
      have hk2 : (k : Int) < (l.length : Int) := by omega
      have hC := fun x => result_true (over wr x) s.J J s.jc jc s.err s.time s.jobs (by have := hj.2.1; have := hj.2.2.1; omega) ((hj.below (below_over wr x)).1) ((JobsIn.below (s := { s with J := J, jc := jc }) hj' (below_over wr x)).1)
      have HC := Lib.hid hC
      clear hC he hs hj hj'
      go_wp2_with fail
      refine wp_region_over (by kernel_rfl) (by kernel_rfl) ?_
      repeat (go_big_quiet_step ((go_at_call 14; exact calls_over (HC.out _))))
      refine wpQuiet_nil ?_
      intro _ hw'
      obtain ⟨nx, hw''⟩ := hw'
      subst hw''
      have hbo := HB.out.trans ((below_over wr nx).mono HB.out.size)
      generalize over wr nx = w5 at *
      have HBo := Lib.hid hbo; clear hbo
      go_wp2
      go_roundw
      case rel => exact ⟨k + 1, by omega, by go_num, HBo.out⟩
      case measure => simp [intOf]; omega
    · go_wp2
      go_ret
      exact ⟨rfl, HB.out⟩
end Go.Proofs.Ytofdkincbhahfaa
