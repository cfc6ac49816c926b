/- What is proved: whether a list is a book of sessions: the document's Check. -/
import Derived.Test.YtofdkincbhahfaaJobs
set_option linter.unusedVariables false
set_option linter.unusedSimpArgs false
namespace Go.Proofs.Ytofdkincbhahfaa
open Go.RowKit
attribute [local go_sem] Seen.val cell_over frozen_over

theorem rRight_over (w : World) (c s : Int) (x : More) : Calls Try.prog 21 #[.int .i64 c, .int .i64 s] (over w x) fun e w' => e = .returned (.bool (rightB c s)) ∧ Below (over w x).heap.size (over w x) w' :=
  (rRight_any _ c s).mono fun e w' ⟨h1, h2⟩ => ⟨h1, h2 ▸ Below.refl _ _⟩
/-- The client of the session ahead of place k. -/
def lastOf (l : List Seen) (k : Nat) : Int := if k = 0 then 0 else match l[k - 1]? with | some s => s.client | none => 0
theorem lastOf_succ {l : List Seen} {k : Nat} (h : k < l.length) : lastOf l (k + 1) = l[k].client := by
  unfold lastOf
  rw [if_neg (by omega), Nat.add_sub_cancel, List.getElem?_eq_getElem h]
theorem last_lt {l : List Seen} {k : Nat} (h : k < l.length) (hr : rightB l[k].client l[k].seq = true) : (∀ j (hj : j + 1 = k), (l[j]'(by omega)).client < l[k].client) ↔ lastOf l k < l[k].client := by
  rcases Nat.eq_zero_or_pos k with h0 | h0
  · subst h0
    refine ⟨fun _ => ?_, fun _ j hj => by omega⟩
    unfold rightB at hr
    simp at hr
    show (0 : Int) < _
    omega
  · obtain ⟨j, rfl⟩ : ∃ j, k = j + 1 := ⟨k - 1, by omega⟩
    rw [lastOf_succ (by omega)]
    exact ⟨fun h => h j rfl, fun h j' hj' => by have : j' = j := by omega
                                                subst this; exact h⟩
set_option maxRecDepth 100000 in
set_option maxHeartbeats 4000000 in
theorem rCheck_any (w : World) (A : Option Addr) (cap : Nat) (l : List Seen) (h : RowAt w w.heap.size 5 A (l.map Seen.cells)) (hl : l.length ≤ 9223372036854775807) :
    Calls Try.prog 13 #[.slice A l.length cap] w fun e w' => e = .returned (.bool (tr (BookOk l))) ∧ Below w.heap.size w w' := by
  have H := Lib.hid h; clear h
  go_enter Try.func13, Try.ntmps13
  go_wp2
  go_loopw [3, 4] (fun u v wr => ∃ k : Nat, k ≤ l.length ∧ u = .int .i64 (lastOf l k) ∧ v = .int .i64 k ∧ OkTo l k ∧ Below w.heap.size w wr) (fun _ v _ => l.length - (intOf v).toNat)
  case atStart => exact ⟨0, Nat.zero_le _, rfl, rfl, okTo_zero l, Below.refl _ _⟩
  case round =>
    obtain ⟨k, hk, rfl, rfl, hpre, hbel⟩ := hrel
    have HB := Lib.hid hbel; have Hpre := Lib.hid hpre; clear hbel hpre
    by_cases hlt : k < l.length
    · obtain ⟨g, off, rfl, hg, p0, p1, p2, p3, p4⟩ := seen_cells (H.out.below HB.out (Nat.le_refl _)) k hlt
      have hnx : rightB l[k].client l[k].seq = true → lastOf l k < l[k].client → OkTo l (k + 1) := fun h1 h2 => okTo_next Hpre.out hlt h1 ((last_lt hlt h1).2 h2)
      have hbad : (rightB l[k].client l[k].seq = false ∨ rightB l[k].client l[k].seq = true ∧ ¬ lastOf l k < l[k].client) → tr (BookOk l) = false := fun h => tr_false fun hok => by
        obtain ⟨h1, h2⟩ := hok k hlt
        rcases h with h | ⟨_, h⟩
        · rw [h1] at h; cases h
        · exact h ((last_lt hlt h1).1 h2)
      have hls := lastOf_succ hlt
      obtain ⟨s, hs⟩ : ∃ s, l[k] = s := ⟨_, rfl⟩
      rw [hs] at p0 p1 p2 p3 p4 hnx hbad hls
      have hk1 : (0 : Int) ≤ (k : Int) := by omega
      have hk2 : (k : Int) < (l.length : Int) := by omega
      obtain ⟨z, hz⟩ : ∃ z, lastOf l k = z := ⟨_, rfl⟩
      rw [hz] at hnx hbad ⊢
      have Hnx := Lib.hid hnx; have Hbad := Lib.hid hbad; have Hls := Lib.hid hls
      have hgw : g < wr.heap.size := Nat.lt_of_lt_of_le hg HB.out.size
      clear hnx hbad hs hz hls
      have hC := rRight_over wr s.client s.seq
      go_upto_region 5 with fail
      cases hr : rightB s.client s.seq
      · have Hbk := Lib.hid (Hbad.out (.inl hr))
        rw [hr] at hC
        have HC := Lib.hid hC; clear hC hr
        refine wp_region_over (by kernel_rfl) (by kernel_rfl) ?_
        repeat (go_big_quiet_step ((go_at_call 21; exact calls_over (HC.out _))))
        refine wpQuiet_nil ?_
        intro _ hw'
        obtain ⟨nx, hw''⟩ := hw'
        subst hw''
        have hbo := HB.out.trans ((below_over wr nx).mono HB.out.size)
        generalize over wr nx = w5 at *
        have HBo := Lib.hid hbo; clear hbo
        go_wp2
        go_ret
        exact ⟨ret_bool Hbk.out.symm, HBo.out⟩
      · rw [hr] at hC
        have HC := Lib.hid hC; have Hr := Lib.hid hr; clear hC hr
        by_cases hlt2 : z < s.client
        · have hge : ¬ s.client ≤ z := by omega
          have hge2 : decide (s.client ≤ z) = false := decide_eq_false hge
          have Hnk := Lib.hid (Hnx.out Hr.out hlt2)
          refine wp_region_over (by kernel_rfl) (by kernel_rfl) ?_
          repeat (go_big_quiet_step ((go_at_call 21; exact calls_over (HC.out _))))
          refine wpQuiet_nil ?_
          intro _ hw'
          obtain ⟨nx, hw''⟩ := hw'
          subst hw''
          have hbo := HB.out.trans ((below_over wr nx).mono HB.out.size)
          have p0' := (cell_over (x := nx) (a := ⟨g, off + k * 5, none⟩) hgw).trans p0
          generalize over wr nx = w5 at *
          have HBo := Lib.hid hbo; clear hbo p0 p1 p2 p3 p4
          go_wp2
          go_roundw
          case rel => exact ⟨k + 1, by omega, by rw [Hls.out], by go_num, Hnk.out, HBo.out⟩
          case measure => simp [intOf]; omega
        · have hge : s.client ≤ z := by omega
          have hge2 : decide (s.client ≤ z) = true := decide_eq_true hge
          have Hbk := Lib.hid (Hbad.out (.inr ⟨Hr.out, hlt2⟩))
          refine wp_region_over (by kernel_rfl) (by kernel_rfl) ?_
          repeat (go_big_quiet_step ((go_at_call 21; exact calls_over (HC.out _))))
          refine wpQuiet_nil ?_
          intro _ hw'
          obtain ⟨nx, hw''⟩ := hw'
          subst hw''
          have hbo := HB.out.trans ((below_over wr nx).mono HB.out.size)
          generalize over wr nx = w5 at *
          have HBo := Lib.hid hbo; clear hbo
          go_wp2
          go_ret
          exact ⟨ret_bool Hbk.out.symm, HBo.out⟩
    · obtain rfl : k = l.length := by omega
      have Hok := Lib.hid (tr_true (okTo_all Hpre.out))
      go_wp2
      go_ret
      exact ⟨ret_bool Hok.out.symm, HB.out⟩
end Go.Proofs.Ytofdkincbhahfaa
