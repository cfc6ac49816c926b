/- What is proved: whether a map is right: the document's Check, whole. -/
import Derived.Test.YtimondpollbdfaaRCheckB
import Derived.Test.YtimondpollbdfaaRCheckC
set_option linter.unusedVariables false
set_option linter.unusedSimpArgs false
namespace Go.Proofs.Ytimondpollbdfaa
open Go.RowKit

theorem rCheck_any (w : World) (A : Option Addr) (cap : Nat) (a : Atl) (h : MapIn w A cap a) :
    Calls Try.prog 39 #[a.val (.slice A a.sp.length cap)] w fun e w' => e = .returned (.bool (tr (MapOk a))) ∧ Below w.heap.size w w' := by
  by_cases hsp : SpansOk a
  case neg => exact tr_of (tr_false fun hm => hsp ⟨hm.1, hm.2.1, hm.2.2.1, hm.2.2.2.1, hm.2.2.2.2.1⟩).symm (rc_no w A cap a h hsp)
  have hm : tr (MapOk a) = tr (PlanOk a) := tr_iff ⟨fun hm => hm.2.2.2.2.2, fun hp => ⟨hsp.1, hsp.2.1, hsp.2.2.1, hsp.2.2.2.1, hsp.2.2.2.2, hp⟩⟩
  cases hz : isZ a.plan
  case true => exact tr_of (hm.trans (tr_true (.inl hz))).symm (rc_zero w A cap a h hsp hz)
  rcases idxOf_cases (hasSh a.plan.shard) a.sp with hp | ⟨k, hk, hp⟩
  · exact tr_of (hm.trans (tr_false fun h => by rw [planOk_none hp, hz] at h; cases h)).symm (rc_none w A cap a h hsp hz hp)
  have hdef := planOk_some hk hp
  rw [hz] at hdef
  have hso := hsp.2.2.2.2 k hk
  have he1 := hso.2.2.2.1
  have he2 := hso.2.2.2.2.1
  by_cases hkd : a.plan.kind < 1 ∨ 3 < a.plan.kind
  · exact tr_of (hm.trans (tr_false fun h => by
      rcases hdef.1 h with h1 | ⟨_, _, ⟨h1, _⟩ | ⟨_, _, _, ⟨h1, _⟩ | ⟨h1, _⟩⟩⟩
      · cases h1
      all_goals omega)).symm (rc_kind w A cap a k _ hz h hsp he1 he2 hk rfl hp hkd)
  by_cases hq : 1 ≤ a.plan.epoch ∧ a.plan.epoch ≤ 1099511627774
  case neg => exact tr_of (hm.trans (tr_false fun h => by
      rcases hdef.1 h with h1 | ⟨h1, h2, _⟩
      · cases h1
      · exact hq ⟨h1, h2⟩)).symm (rc_far w A cap a k _ hz h hsp he1 he2 hk rfl hp hq)
  obtain ⟨hq1, hq2⟩ := hq
  have kr1 : 1 ≤ a.plan.kind := by omega
  have kr2 : a.plan.kind ≤ 3 := by omega
  by_cases k1 : a.plan.kind = 1
  · have hd := hdef.trans (or_congr_right (planAt_move (by simp [k1])))
    exact tr_of ((eq_tr (by rw [hd]; exact ⟨fun h => .inr ⟨hq1, hq2, h⟩, fun h => by rcases h with h | h; cases h; exact h.2.2⟩)).trans hm.symm) (rc_move w A cap a k _ hz h hsp he1 he2 hk rfl hp hq1 hq2 k1)
  have hno : ¬ Fits a a.sp[k] → false = tr (MapOk a) := fun h => (hm.trans (tr_false fun hok => by
    rcases hdef.1 hok with h1 | ⟨_, _, ⟨h1, _⟩ | ⟨h1, h2, h3, _⟩⟩
    · cases h1
    · exact k1 h1
    · exact h (fits_iff.2 ⟨h1, h2, h3⟩))).symm
  by_cases f0 : a.plan.past = 0
  case neg => exact tr_of (hno fun h => f0 h.1) (rc_unfit0 w A cap a k _ hz h hsp he1 he2 hk rfl hp hq1 hq2 kr1 kr2 k1 f0)
  by_cases f1 : a.sp[k].gr = a.plan.group
  case neg => exact tr_of (hno fun h => f1 h.2.1) (rc_unfit1 w A cap a k _ hz h hsp he1 he2 hk rfl hp hq1 hq2 kr1 kr2 k1 f1 (fun h => f1 h.symm))
  have hfit : ∀ (hf : Fits a a.sp[k]), (PlanOk a ↔ PlanAt a k a.sp[k]) := fun _ => ⟨fun h => (hdef.1 h).resolve_left (by simp), fun h => hdef.2 (.inr h)⟩
  by_cases f2 : a.plan.phase = 1
  · by_cases f3 : a.sp[k].ep = a.plan.epoch
    case neg => exact tr_of (hno fun h => by rcases h.2.2 with h | h <;> omega) (rc_unfit2 w A cap a k _ hz h hsp he1 he2 hk rfl hp hq1 hq2 kr1 kr2 k1 f0 f1 f2 f3 (fun h => f3 h.symm))
    have hF : Fits a a.sp[k] := ⟨f0, f1, .inl ⟨f2, f3⟩⟩
    by_cases k2 : a.plan.kind = 2
    · have hd := (hfit hF).trans (planAt_split k2)
      by_cases o1 : a.plan.other = a.last
      case neg => exact tr_of (hm.trans (tr_false fun h => o1 (hd.1 h).2.2.2.1)).symm (rc_split00 w A cap a k _ hz h hsp he1 he2 hk rfl hp hq1 hq2 k2 f0 f1 f2 f3 o1)
      by_cases o2 : place a.sp a.last < 0
      case neg => exact tr_of (hm.trans (tr_false fun h => o2 (by rw [← o1]; exact (hd.1 h).2.2.2.2.1))).symm (rc_split01 w A cap a k _ hz h hsp he1 he2 hk rfl hp hq1 hq2 k2 f0 f1 f2 f3 o1 o2)
      cases o3 : inside a.sp[k] a.plan.key
      · exact tr_of (hm.trans (tr_false fun h => by have := (hd.1 h).2.2.2.2.2.1; rw [o3] at this; cases this)).symm (rc_split02 w A cap a k _ hz h hsp he1 he2 hk rfl hp hq1 hq2 k2 f0 f1 f2 f3 o1 o2 o3)
      · exact tr_of ((eq_tr (by rw [hd]; simp only [decide_eq_true_eq]; exact ⟨fun h => ⟨hq1, hq2, hF, o1, by rw [o1]; exact o2, o3, h⟩, fun h => h.2.2.2.2.2.2⟩)).trans hm.symm) (rc_split03 w A cap a k _ hz h hsp he1 he2 hk rfl hp hq1 hq2 k2 f0 f1 f2 f3 o1 o2 o3)
    have k3 : a.plan.kind = 3 := by omega
    have hd := (hfit hF).trans (planAt_join k3)
    by_cases o1 : a.plan.key.toList = []
    case neg => exact tr_of (hm.trans (tr_false fun h => o1 (hd.1 h).2.2.2.1)).symm (rc_join00 w A cap a k _ hz h hsp he1 he2 hk rfl hp hq1 hq2 k3 f0 f1 f2 f3 (by simpa using o1) o1)
    by_cases o2 : k + 1 < a.sp.length
    case neg => exact tr_of (hm.trans (tr_false fun h => by obtain ⟨_, _, _, _, h, _⟩ := hd.1 h; exact o2 h)).symm (rc_join01 w A cap a k _ hz h hsp he1 he2 hk rfl hp hq1 hq2 k3 f0 f1 f2 f3 o1 (by simp; omega) (by omega))
    by_cases o3 : a.sp[k+1].sh = a.plan.other
    case neg => exact tr_of (hm.trans (tr_false fun h => by obtain ⟨_, _, _, _, _, h, _⟩ := hd.1 h; exact o3 h)).symm (rc_join02 w A cap a k _ hz h hsp he1 he2 hk rfl hp hq1 hq2 k3 o2 _ rfl f0 f1 f2 f3 o1 (by simpa using o3) o3)
    by_cases o4 : a.sp[k+1].gr = a.plan.group
    case neg => exact tr_of (hm.trans (tr_false fun h => by obtain ⟨_, _, _, _, _, _, h, _⟩ := hd.1 h; exact o4 (h.trans f1))).symm (rc_join03 w A cap a k _ hz h hsp he1 he2 hk rfl hp hq1 hq2 k3 o2 _ rfl f0 f1 f2 f3 o1 o3 (by simpa using o4) o4)
    exact tr_of ((eq_tr (by rw [hd]; simp only [decide_eq_true_eq]; exact ⟨fun h => ⟨hq1, hq2, hF, o1, o2, o3, o4.trans f1.symm, h⟩, fun h => h.2.2.2.2.2.2.2⟩)).trans hm.symm) (rc_join04 w A cap a k _ hz h hsp he1 he2 hk rfl hp hq1 hq2 k3 o2 _ rfl f0 f1 f2 f3 o1 o3 o4)
  · by_cases f2' : a.plan.phase = 9
    case neg => exact tr_of (hno fun h => by rcases h.2.2 with h | h <;> omega) (rc_unfit3 w A cap a k _ hz h hsp he1 he2 hk rfl hp hq1 hq2 kr1 kr2 k1 f0 f1 f2 f2')
    by_cases f3 : a.sp[k].ep - 2 = a.plan.epoch
    case neg => exact tr_of (hno fun h => by rcases h.2.2 with h | h <;> omega) (rc_unfit4 w A cap a k _ hz h hsp he1 he2 hk rfl hp hq1 hq2 kr1 kr2 k1 f0 f1 f2 f2' f3 (fun h => f3 h.symm))
    have hF : Fits a a.sp[k] := ⟨f0, f1, .inr ⟨f2', f3⟩⟩
    by_cases k2 : a.plan.kind = 2
    · have hd := (hfit hF).trans (planAt_split k2)
      by_cases o1 : a.plan.other = a.last
      case neg => exact tr_of (hm.trans (tr_false fun h => o1 (hd.1 h).2.2.2.1)).symm (rc_split10 w A cap a k _ hz h hsp he1 he2 hk rfl hp hq1 hq2 k2 f0 f1 f2' f3 o1)
      by_cases o2 : place a.sp a.last < 0
      case neg => exact tr_of (hm.trans (tr_false fun h => o2 (by rw [← o1]; exact (hd.1 h).2.2.2.2.1))).symm (rc_split11 w A cap a k _ hz h hsp he1 he2 hk rfl hp hq1 hq2 k2 f0 f1 f2' f3 o1 o2)
      cases o3 : inside a.sp[k] a.plan.key
      · exact tr_of (hm.trans (tr_false fun h => by have := (hd.1 h).2.2.2.2.2.1; rw [o3] at this; cases this)).symm (rc_split12 w A cap a k _ hz h hsp he1 he2 hk rfl hp hq1 hq2 k2 f0 f1 f2' f3 o1 o2 o3)
      · exact tr_of ((eq_tr (by rw [hd]; simp only [decide_eq_true_eq]; exact ⟨fun h => ⟨hq1, hq2, hF, o1, by rw [o1]; exact o2, o3, h⟩, fun h => h.2.2.2.2.2.2⟩)).trans hm.symm) (rc_split13 w A cap a k _ hz h hsp he1 he2 hk rfl hp hq1 hq2 k2 f0 f1 f2' f3 o1 o2 o3)
    have k3 : a.plan.kind = 3 := by omega
    have hd := (hfit hF).trans (planAt_join k3)
    by_cases o1 : a.plan.key.toList = []
    case neg => exact tr_of (hm.trans (tr_false fun h => o1 (hd.1 h).2.2.2.1)).symm (rc_join10 w A cap a k _ hz h hsp he1 he2 hk rfl hp hq1 hq2 k3 f0 f1 f2' f3 (by simpa using o1) o1)
    by_cases o2 : k + 1 < a.sp.length
    case neg => exact tr_of (hm.trans (tr_false fun h => by obtain ⟨_, _, _, _, h, _⟩ := hd.1 h; exact o2 h)).symm (rc_join11 w A cap a k _ hz h hsp he1 he2 hk rfl hp hq1 hq2 k3 f0 f1 f2' f3 o1 (by simp; omega) (by omega))
    by_cases o3 : a.sp[k+1].sh = a.plan.other
    case neg => exact tr_of (hm.trans (tr_false fun h => by obtain ⟨_, _, _, _, _, h, _⟩ := hd.1 h; exact o3 h)).symm (rc_join12 w A cap a k _ hz h hsp he1 he2 hk rfl hp hq1 hq2 k3 o2 _ rfl f0 f1 f2' f3 o1 (by simpa using o3) o3)
    by_cases o4 : a.sp[k+1].gr = a.plan.group
    case neg => exact tr_of (hm.trans (tr_false fun h => by obtain ⟨_, _, _, _, _, _, h, _⟩ := hd.1 h; exact o4 (h.trans f1))).symm (rc_join13 w A cap a k _ hz h hsp he1 he2 hk rfl hp hq1 hq2 k3 o2 _ rfl f0 f1 f2' f3 o1 o3 (by simpa using o4) o4)
    exact tr_of ((eq_tr (by rw [hd]; simp only [decide_eq_true_eq]; exact ⟨fun h => ⟨hq1, hq2, hF, o1, o2, o3, o4.trans f1.symm, h⟩, fun h => h.2.2.2.2.2.2.2⟩)).trans hm.symm) (rc_join14 w A cap a k _ hz h hsp he1 he2 hk rfl hp hq1 hq2 k3 o2 _ rfl f0 f1 f2' f3 o1 o3 o4)
end Go.Proofs.Ytimondpollbdfaa
