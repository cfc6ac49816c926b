/- What is proved: whether a list is a book of sessions: both programs' Check. -/
import Derived.Test.YtofdkincbhahfaaFind
set_option linter.unusedVariables false
set_option linter.unusedSimpArgs false
namespace Go.Proofs.Ytofdkincbhahfaa
open Go.RowKit
attribute [local go_sem] Seen.val cell_over frozen_over

theorem right_over (w : World) (c s : Int) (x : More) : Calls Try.prog 18 #[.int .i64 c, .int .i64 s] (over w x) fun e w' => e = .returned (.bool (rightB c s)) ∧ Below (over w x).heap.size (over w x) w' :=
  (right_any _ c s).mono fun e w' ⟨h1, h2⟩ => ⟨h1, h2 ▸ Below.refl _ _⟩
/-- The first k sessions are right. -/
def OkTo (l : List Seen) (k : Nat) : Prop := ∀ i (h : i < l.length), i < k → rightB l[i].client l[i].seq = true ∧ ∀ j (hj : j + 1 = i), (l[j]'(by omega)).client < l[i].client
theorem okTo_zero (l : List Seen) : OkTo l 0 := fun i _ h => by omega
theorem okTo_next {l : List Seen} {k : Nat} (h : OkTo l k) (hk : k < l.length) (h1 : rightB l[k].client l[k].seq = true) (h2 : ∀ j (hj : j + 1 = k), (l[j]'(by omega)).client < l[k].client) : OkTo l (k + 1) := fun i hi hik => by
  rcases Nat.lt_succ_iff_lt_or_eq.1 hik with h3 | h3
  · exact h i hi h3
  · subst h3; exact ⟨h1, h2⟩
theorem okTo_all {l : List Seen} (h : OkTo l l.length) : BookOk l := fun i hi => h i hi hi

set_option maxRecDepth 100000 in
set_option maxHeartbeats 4000000 in
theorem check_any (w : World) (A : Option Addr) (cap : Nat) (l : List Seen) (h : RowAt w w.heap.size 5 A (l.map Seen.cells)) (hl : l.length ≤ 9223372036854775807) :
    Calls Try.prog 12 #[.slice A l.length cap] w fun e w' => e = .returned (.bool (tr (BookOk l))) ∧ Below w.heap.size w w' := by
  have H := Lib.hid h; clear h
  go_enter Try.func12, Try.ntmps12
  go_wp2
  go_loopw [7] (fun v wr => ∃ k : Nat, k ≤ l.length ∧ v = .int .i64 k ∧ OkTo l k ∧ Below w.heap.size w wr) (fun v _ => l.length - (intOf v).toNat)
  case atStart => exact ⟨0, Nat.zero_le _, rfl, okTo_zero l, Below.refl _ _⟩
  case round =>
    obtain ⟨k, hk, rfl, hpre, hbel⟩ := hrel
    have HB := Lib.hid hbel; have Hpre := Lib.hid hpre; clear hbel hpre
    by_cases hlt : k < l.length
    · obtain ⟨g, off, rfl, hg, p0, p1, p2, p3, p4⟩ := seen_cells (H.out.below HB.out (Nat.le_refl _)) k hlt
      have hprev : ∀ j (hj : j + 1 = k), (wr.alloc l[k].blk).cell? ⟨g, off + j * 5, none⟩ = some (.int .i64 (l[j]'(by omega)).client) := fun j hj => by
        obtain ⟨g2, off2, he, hg2, p0, p1, p2, p3, p4⟩ := seen_cells (H.out.below HB.out (Nat.le_refl _)) j (by omega)
        injection he with he
        injection he with h1 h2 _
        subst h1; subst h2
        exact ((al (w := wr) l[k].blk).cell (p := ⟨g, off + j * 5, none⟩) (Nat.lt_of_lt_of_le hg HB.out.size)).trans p0
      have hnx := fun h1 h2 => okTo_next Hpre.out hlt h1 h2
      have hbad : (rightB l[k].client l[k].seq = false ∨ ∃ j, ∃ hj : j + 1 = k, ¬ (l[j]'(by omega)).client < l[k].client) → tr (BookOk l) = false := fun h => tr_false fun hok => by
        obtain ⟨h1, h2⟩ := hok k hlt
        rcases h with h | ⟨j, hj, h⟩
        · rw [h1] at h; cases h
        · exact h (h2 j hj)
      obtain ⟨s, hs⟩ : ∃ s, l[k] = s := ⟨_, rfl⟩
      rw [hs] at p0 p1 p2 p3 p4 hprev hnx hbad
      have hk1 : (0 : Int) ≤ (k : Int) := by omega
      have hk2 : (k : Int) < (l.length : Int) := by omega
      have Hnx := Lib.hid hnx; have Hbad := Lib.hid hbad; have Hprev := Lib.hid hprev
      clear hnx hbad hprev hs
      have hX := heap_alloc_new wr s.blk
      go_upto_region 4 with fail
      change Code.wp _ _ _ _ (wr.alloc s.blk)
      have hbx := HB.out.trans ((al (w := wr) s.blk).mono HB.out.size)
      have hgx : g < (wr.alloc s.blk).heap.size := Nat.lt_of_lt_of_le hg hbx.size
      have Hpv := Lib.hid Hprev.out
      clear HB Hprev p0 p1 p2 p3 p4
      generalize wr.alloc s.blk = w1 at *
      have HB := Lib.hid hbx; clear hbx
      obtain ⟨c0, c1, c2, c3, c4, clt⟩ := seen_blk hX
      cases hr : rightB s.client s.seq
      · have hbk := Hbad.out (.inl hr)
        have Hbk := Lib.hid hbk; clear hbk
        have hC := right_over w1 s.client s.seq
        rw [hr] at hC
        have HC := Lib.hid hC; clear hC hr
        refine wp_region_over (by kernel_rfl) (by kernel_rfl) ?_
        repeat (go_big_quiet_step ((go_at_call 18; exact calls_over (HC.out _))))
        refine wpQuiet_nil ?_
        intro _ hw'
        obtain ⟨nx, hw''⟩ := hw'
        subst hw''
        have hbo := HB.out.trans ((below_over w1 nx).mono HB.out.size)
        generalize over w1 nx = w5 at *
        have HBo := Lib.hid hbo; clear hbo
        go_wp2
        go_ret
        exact ⟨ret_bool Hbk.out.symm, HBo.out⟩
      · have hC := right_over w1 s.client s.seq
        rw [hr] at hC
        have HC := Lib.hid hC; clear hC
        have Hr := Lib.hid hr; clear hr
        rcases Nat.eq_zero_or_pos k with hk0 | hk0
        · subst hk0
          refine wp_region_over (by kernel_rfl) (by kernel_rfl) ?_
          repeat (go_big_quiet_step ((go_at_call 18; exact calls_over (HC.out _))))
          refine wpQuiet_nil ?_
          intro _ hw'
          obtain ⟨nx, hw''⟩ := hw'
          subst hw''
          have hbo := HB.out.trans ((below_over w1 nx).mono HB.out.size)
          generalize over w1 nx = w5 at *
          have HBo := Lib.hid hbo; clear hbo
          go_wp2
          go_roundw
          case rel => exact ⟨1, by omega, by go_num, Hnx.out Hr.out (fun j hj => by omega), HBo.out⟩
          case measure => simp [intOf]; omega
        · obtain ⟨j, rfl⟩ : ∃ j, k = j + 1 := ⟨k - 1, by omega⟩
          have hp := Hpv.out j rfl
          have hk3 : (0 : Int) < ((j + 1 : Nat) : Int) := by omega
          have hj1 : (0 : Int) ≤ (j : Int) := by omega
          have hj2 : (j : Int) < (l.length : Int) := by omega
          have hj3 : IntKind.i64.wrap (((j + 1 : Nat) : Int) - 1) = (j : Int) := by rw [show (((j + 1 : Nat) : Int) - 1) = (j : Int) by omega]; exact IntWalk.i64_in _ (by omega)
          obtain ⟨t, ht⟩ : ∃ t, l[j] = t := ⟨_, rfl⟩
          rw [ht] at hp
          have Hk0 := Lib.hid hk0; clear hk0
          by_cases hlt2 : t.client < s.client
          · have hge : ¬ s.client ≤ t.client := by omega
            have hge2 : decide (s.client ≤ t.client) = false := decide_eq_false hge
            have Hnk := Lib.hid (Hnx.out Hr.out (fun j' hj' => by have : j' = j := by omega
                                                                  subst this; rw [ht]; exact hlt2))
            clear ht
            refine wp_region_over (by kernel_rfl) (by kernel_rfl) ?_
            repeat (go_big_quiet_step ((go_at_call 18; exact calls_over (HC.out _))))
            refine wpQuiet_nil ?_
            intro _ hw'
            obtain ⟨nx, hw''⟩ := hw'
            subst hw''
            have hbo := HB.out.trans ((below_over w1 nx).mono HB.out.size)
            generalize over w1 nx = w5 at *
            have HBo := Lib.hid hbo; clear hbo
            go_wp2
            go_roundw
            case rel => exact ⟨j + 1 + 1, by omega, by go_num, Hnk.out, HBo.out⟩
            case measure => simp [intOf]; omega
          · have hge : s.client ≤ t.client := by omega
            have hge2 : decide (s.client ≤ t.client) = true := decide_eq_true hge
            have Hbk := Lib.hid (Hbad.out (.inr ⟨j, rfl, by rw [ht]; exact hlt2⟩))
            clear ht
            refine wp_region_over (by kernel_rfl) (by kernel_rfl) ?_
            repeat (go_big_quiet_step ((go_at_call 18; exact calls_over (HC.out _))))
            refine wpQuiet_nil ?_
            intro _ hw'
            obtain ⟨nx, hw''⟩ := hw'
            subst hw''
            have hbo := HB.out.trans ((below_over w1 nx).mono HB.out.size)
            generalize over w1 nx = w5 at *
            have HBo := Lib.hid hbo; clear hbo
            go_wp2
            go_ret
            exact ⟨ret_bool Hbk.out.symm, HBo.out⟩
    · obtain rfl : k = l.length := by omega
      have Hok := Lib.hid (tr_true (okTo_all Hpre.out))
      go_wp2
      go_ret
      exact ⟨ret_bool Hok.out.symm, HB.out⟩
end Go.Proofs.Ytofdkincbhahfaa
