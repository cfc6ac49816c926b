/- What is proved: whether spans lie one behind the other, from end to end: the program's covers. -/
import Derived.Test.YtimondpollbdfaaMove
import Derived.IntWalk
import Derived.Deep.CutBlock
set_option linter.unusedVariables false
set_option linter.unusedSimpArgs false
namespace Go.Proofs.Ytimondpollbdfaa
open Go.RowKit
attribute [local go_sem] Span.val Atl.val Plan.val
attribute [local go_sem] cell_over frozen_over

/-- A proposition as a Bool. -/
noncomputable def tr (P : Prop) : Bool := @decide P (Classical.propDecidable P)
theorem tr_true {P : Prop} (h : P) : tr P = true := by unfold tr; exact @decide_eq_true _ (_) h
theorem tr_false {P : Prop} (h : ¬ P) : tr P = false := by unfold tr; exact @decide_eq_false _ (_) h
theorem tr_iff {P Q : Prop} (h : P ↔ Q) : tr P = tr Q := by rw [propext h]
theorem of_tr {P : Prop} (h : tr P = true) : P := by
  by_cases hp : P
  · exact hp
  · rw [tr_false hp] at h; cases h

def Link (l : List Span) (i : Nat) : Prop := ∀ (h : i + 1 < l.length), named (l[i]'(by omega)).to = true ∧ sLt (l[i]'(by omega)).fr (l[i]'(by omega)).to = true ∧ l[i+1].fr.toList = (l[i]'(by omega)).to.toList
def CoversOk (l : List Span) : Prop := l.length ≤ 16 ∧ ∃ h : 0 < l.length, l[0].fr.toList = [] ∧ (l[l.length - 1]'(by omega)).to.toList = [] ∧ ∀ i, Link l i

set_option maxRecDepth 100000 in
set_option maxHeartbeats 4000000 in
theorem covers_any (w : World) (A : Option Addr) (cap n : Nat) (l : List Span) (hrow : RowAt w w.heap.size 5 A (l.map Span.cells)) (hn : l.length = n) (hlen : n ≤ 9223372036854775807) (hcap : n ≤ cap) (hcap2 : cap ≤ 9223372036854775807) (hsz : ∀ s ∈ l, s.to.size ≤ 9223372036854775807) :
    Calls Try.prog 52 #[.slice A n cap] w fun e w' => e = .returned (.bool (tr (CoversOk l))) ∧ Below w.heap.size w w' := by
  have Hsz := Lib.hid hsz; clear hsz
  have Hrow := Lib.hid hrow; clear hrow
  cases n with
  | zero =>
    have hf : tr (CoversOk l) = false := tr_false fun h => by obtain ⟨_, h, _⟩ := h; omega
    have Hf := Lib.hid hf; clear hf
    go_enter Try.func52, Try.ntmps52
    go_wp2
    go_ret
    exact ⟨ret_bool Hf.out.symm, Below.refl _ _⟩
  | succ m =>
    by_cases h16 : 16 < m + 1
    · have hf : tr (CoversOk l) = false := tr_false fun h => by have := h.1; omega
      have Hf := Lib.hid hf; clear hf
      go_enter Try.func52, Try.ntmps52
      go_wp2
      go_ret
      exact ⟨ret_bool Hf.out.symm, Below.refl _ _⟩
    obtain ⟨b, off, rfl, hb, p0, _⟩ := span_cells Hrow.out 0 (by omega)
    obtain ⟨b', off', he, _, _, q1, _⟩ := span_cells Hrow.out m (by omega)
    injection he with he
    injection he with he1 he2
    subst he1; subst he2
    simp only [Nat.zero_mul, Nat.add_zero] at p0
    have hno : ¬ ((l[0]'(by omega)).fr.toList = [] ∧ (l[m]'(by omega)).to.toList = []) → tr (CoversOk l) = false := fun h => tr_false fun hc => by
      obtain ⟨_, _, h1, h2, _⟩ := hc
      refine h ⟨h1, ?_⟩
      have : l.length - 1 = m := by omega
      simpa only [this] using h2
    have Hno := Lib.hid hno; clear hno
    have hic : m ≤ cap := by omega
    have hm1 : (0 : Int) ≤ (m : Int) := by omega
    go_enter Try.func52, Try.ntmps52
    go_wp2
    rotate_left
    case' _ => skip
    all_goals try (go_ret; refine ⟨ret_bool (Hno.out ?_).symm, Below.refl _ _⟩; clear Hno Hrow Hsz; grind)
    have hfst : (l[0]'(by omega)).fr.toList = [] := by assumption
    have hlst : (l[m]'(by omega)).to.toList = [] := by clear Hno Hrow Hsz; first | assumption | grind
    clear Hno
    go_loopw [36] (fun i wr => ∃ k : Nat, k ≤ m ∧ (∀ j, j < k → Link l j) ∧ i = .int .i64 k ∧ Below w.heap.size w wr) (fun i _ => m - (intOf i).toNat)
    case atStart => exact ⟨0, Nat.zero_le _, fun j h => absurd h (by omega), rfl, Below.refl _ _⟩
    case round =>
      obtain ⟨k, hk, hyes, rfl, hbel⟩ := hrel
      have Hyes := Lib.hid hyes; clear hyes
      by_cases hlt : k < m
      · obtain ⟨_, _, he, _, r0, r1, r2, r3, r4⟩ := span_cells (Hrow.out.below hbel (Nat.le_refl _)) k (by omega)
        injection he with he
        injection he with he1 he2
        subst he1; subst he2
        obtain ⟨_, _, he, _, s0, _⟩ := span_cells (Hrow.out.below hbel (Nat.le_refl _)) (k + 1) (by omega)
        injection he with he
        injection he with he1 he2
        subst he1; subst he2
        have hbw : b < wr.heap.size := Nat.lt_of_lt_of_le hb hbel.size
        have hszk := Hsz.out _ (List.getElem_mem (show k < l.length by omega))
        have hlo := lt_or_ge (l[k]'(by omega)).to (l[k]'(by omega)).fr
        unfold sLt sEq at hlo
        have hw1 : IntKind.i64.wrap ((k : Int) + 1) = (k : Int) + 1 := IntWalk.i64_in _ (by omega)
        have hk1 : (0 : Int) ≤ (k : Int) + 1 := by omega
        have hk2 : ((k : Int) + 1).toNat = k + 1 := by omega
        have hk3 : (k : Int) + 1 < (m : Int) + 1 := by omega
        have hlink : Link l k → ∀ j, j < k + 1 → Link l j := fun h j hj => by
          rcases Nat.lt_succ_iff_lt_or_eq.1 hj with h1 | h1
          · exact Hyes.out j h1
          · subst h1; exact h
        have hnl : ¬ Link l k → tr (CoversOk l) = false := fun h => tr_false fun hc => h (hc.2.2.2.2 k)
        have hdef : Link l k ↔ named (l[k]'(by omega)).to = true ∧ sLt (l[k]'(by omega)).fr (l[k]'(by omega)).to = true ∧ (l[k+1]'(by omega)).fr.toList = (l[k]'(by omega)).to.toList := ⟨fun h => h (by omega), fun h _ => h⟩
        unfold sLt at hdef
        have Hlink := Lib.hid hlink; have Hnl := Lib.hid hnl; have Hdef := Lib.hid hdef; have Hlo := Lib.hid hlo
        clear hlink hnl hdef hlo
        generalize l[k]'(by omega) = s at *
        generalize l[k+1]'(by omega) = t at *
        go_upto_region 6 with fail
        obtain ⟨c0, c1, _, _, _, hlt4⟩ := span_blk (heap_alloc_new wr s.blk)
        have hb4 := hbel.trans ((al (w := wr) s.blk).mono hbel.size)
        have u0 := (al (w := wr) s.blk).cell (p := ⟨b, off + (k + 1) * 5, none⟩) hbw |>.trans s0
        have hbw4 : b < (wr.alloc s.blk).heap.size := by simp; omega
        change Code.wp _ _ _ _ (wr.alloc s.blk)
        generalize wr.alloc s.blk = wd at *
        have hnm := fun x => named_any s.to hszk (over wd x)
        cases hn1 : named s.to
        · rw [hn1] at hnm
          have Hnm := Lib.hid hnm; clear hnm
          refine wp_region_over (by kernel_rfl) (by kernel_rfl) ?_
          repeat (go_big_quiet_step ((go_at_call 47; exact calls_over (Hnm.out _))))
          refine wpQuiet_nil ?_
          intro _ hw'
          obtain ⟨nx, hw''⟩ := hw'
          subst hw''
          go_wp2
          go_ret
          exact ⟨ret_bool (Hnl.out (fun h => by have := (Hdef.out.1 h).1; rw [hn1] at this; cases this)).symm, hb4.trans ((below_over wd nx).mono hb4.size)⟩
        rw [hn1] at hnm
        have Hnm := Lib.hid hnm; clear hnm
        cases hl1 : Op.bytesLess s.to.toList s.fr.toList <;> cases hl2 : (s.to.toList == s.fr.toList)
        · have hl3 : Op.bytesLess s.fr.toList s.to.toList = true := by
            have := Hlo.out; rw [this, hl1]
            have : ¬ s.to.toList = s.fr.toList := by simpa using hl2
            simp [this]
          cases hl4 : (t.fr.toList == s.to.toList)
          · skip
            refine wp_region_over (by kernel_rfl) (by kernel_rfl) ?_
            repeat (go_big_quiet_step ((go_at_call 47; exact calls_over (Hnm.out _))))
            refine wpQuiet_nil ?_
            intro _ hw'
            obtain ⟨nx, hw''⟩ := hw'
            subst hw''
            go_wp2
            go_ret
            exact ⟨ret_bool (Hnl.out (fun h => by have := (Hdef.out.1 h).2.2; rw [this] at hl4; simp at hl4)).symm, hb4.trans ((below_over wd nx).mono hb4.size)⟩
          · skip
            refine wp_region_over (by kernel_rfl) (by kernel_rfl) ?_
            repeat (go_big_quiet_step ((go_at_call 47; exact calls_over (Hnm.out _))))
            refine wpQuiet_nil ?_
            intro _ hw'
            obtain ⟨nx, hw''⟩ := hw'
            subst hw''
            go_wp2
            go_roundw
            case rel => exact ⟨k + 1, by omega, Hlink.out (Hdef.out.2 ⟨hn1, hl3, by simpa using hl4⟩), by go_num, hb4.trans ((below_over wd nx).mono hb4.size)⟩
            case measure => simp [intOf]; omega
        all_goals
          have hl3 : ¬ Op.bytesLess s.fr.toList s.to.toList = true := by
            have := Hlo.out; rw [this, hl1]
            first
              | (simp; done)
              | (have : s.to.toList = s.fr.toList := by simpa using hl2
                 simp [this])
          refine wp_region_over (by kernel_rfl) (by kernel_rfl) ?_
          repeat (go_big_quiet_step ((go_at_call 47; exact calls_over (Hnm.out _))))
          refine wpQuiet_nil ?_
          intro _ hw'
          obtain ⟨nx, hw''⟩ := hw'
          subst hw''
          go_wp2
          go_ret
          exact ⟨ret_bool (Hnl.out (fun h => hl3 (Hdef.out.1 h).2.1)).symm, hb4.trans ((below_over wd nx).mono hb4.size)⟩
      · have hok : tr (CoversOk l) = true := tr_true ⟨by omega, by omega, hfst, by
          have : l.length - 1 = m := by omega
          simpa only [this] using hlst, fun i h => Hyes.out i (by omega) h⟩
        have Hok := Lib.hid hok; clear hok
        go_wp2
        go_ret
        exact ⟨ret_bool Hok.out.symm, hbel⟩
end Go.Proofs.Ytimondpollbdfaa
