/- What is proved: whether a plan fits its map: the program's planned, whole. -/
import Derived.Test.YtimondpollbdfaaPlanJoin
set_option linter.unusedVariables false
set_option linter.unusedSimpArgs false
namespace Go.Proofs.Ytimondpollbdfaa
open Go.RowKit

theorem tr_of {b : Bool} {P : Prop} {w : World} {f : FuncId} {l : Array Value} (h : b = tr P) (hc : Calls Try.prog f l w fun e w' => e = .returned (.bool b) ∧ Below w.heap.size w w') :
    Calls Try.prog f l w fun e w' => e = .returned (.bool (tr P)) ∧ Below w.heap.size w w' := by rw [← h]; exact hc

theorem planned_any (w : World) (A : Option Addr) (cap : Nat) (a : Atl) (hrow : RowAt w w.heap.size 5 A (a.sp.map Span.cells)) (hlen : a.sp.length ≤ 16) (hep : ∀ s ∈ a.sp, 1 ≤ s.ep ∧ s.ep ≤ 1099511627776) (hks : a.plan.key.size ≤ 9223372036854775807) :
    Calls Try.prog 53 #[a.val (.slice A a.sp.length cap)] w fun e w' => e = .returned (.bool (tr (PlanOk a))) ∧ Below w.heap.size w w' := by
  cases hz : isZ a.plan
  case true => exact planned_zero w _ a hz
  rcases idxOf_cases (hasSh a.plan.shard) a.sp with hp | ⟨k, hk, hp⟩
  · exact planned_none w A cap a hz hrow hlen hp
  have hdef := planOk_some hk hp
  rw [hz] at hdef
  by_cases k1 : a.plan.kind = 1
  · exact planned_move w A cap a k hz hrow hlen hep hks hk hp (by simp [k1])
  obtain ⟨he1, he2⟩ := hep _ (List.getElem_mem hk)
  by_cases hq : 1 ≤ a.plan.epoch ∧ a.plan.epoch ≤ 1099511627774
  case neg => exact planned_far w A cap a k hz hrow hlen hk hp hq
  obtain ⟨hq1, hq2⟩ := hq
  have hno : ¬ Fits a a.sp[k] → false = tr (PlanOk a) := fun h => (tr_false fun hok => by
    rcases hdef.1 hok with h1 | ⟨_, _, ⟨h1, _⟩ | ⟨h1, h2, h3, _⟩⟩
    · cases h1
    · exact k1 h1
    · exact h (fits_iff.2 ⟨h1, h2, h3⟩)).symm
  by_cases f0 : a.plan.past = 0
  case neg => exact tr_of (hno fun h => f0 h.1) (unfit0 w A cap a k _ hz hrow hlen he1 he2 hk rfl hp hq1 hq2 k1 f0)
  by_cases f1 : a.sp[k].gr = a.plan.group
  case neg => exact tr_of (hno fun h => f1 h.2.1) (unfit1 w A cap a k _ hz hrow hlen he1 he2 hk rfl hp hq1 hq2 k1 f0 f1)
  have hfit : ∀ (hf : Fits a a.sp[k]), (PlanOk a ↔ PlanAt a k a.sp[k]) := fun _ => ⟨fun h => (hdef.1 h).resolve_left (by simp), fun h => hdef.2 (.inr h)⟩
  by_cases f2 : a.plan.phase = 1
  · by_cases f3 : a.sp[k].ep = a.plan.epoch
    case neg => exact tr_of (hno fun h => by rcases h.2.2 with h | h <;> omega) (unfit2 w A cap a k _ hz hrow hlen he1 he2 hk rfl hp hq1 hq2 k1 f0 f1 f2 f3)
    have hF : Fits a a.sp[k] := ⟨f0, f1, .inl ⟨f2, f3⟩⟩
    by_cases k2 : a.plan.kind = 2
    · have hd := (hfit hF).trans (planAt_split k2)
      by_cases o1 : a.plan.other = a.last
      case neg => exact tr_of (tr_false fun h => o1 (hd.1 h).2.2.2.1).symm (split00 w A cap a k _ hz hrow hlen he1 he2 hks hk rfl hp hq1 hq2 k2 f0 f1 f2 f3 o1)
      by_cases o2 : place a.sp a.last < 0
      case neg => exact tr_of (tr_false fun h => o2 (by rw [← o1]; exact (hd.1 h).2.2.2.2.1)).symm (split01 w A cap a k _ hz hrow hlen he1 he2 hks hk rfl hp hq1 hq2 k2 f0 f1 f2 f3 o1 o2)
      cases o3 : inside a.sp[k] a.plan.key
      · exact tr_of (tr_false fun h => by have := (hd.1 h).2.2.2.2.2.1; rw [o3] at this; cases this).symm (split02 w A cap a k _ hz hrow hlen he1 he2 hks hk rfl hp hq1 hq2 k2 f0 f1 f2 f3 o1 o2 o3)
      · exact tr_of (eq_tr (by rw [hd]; simp only [decide_eq_true_eq]; exact ⟨fun h => ⟨hq1, hq2, hF, o1, by rw [o1]; exact o2, o3, h⟩, fun h => h.2.2.2.2.2.2⟩)) (split03 w A cap a k _ hz hrow hlen he1 he2 hks hk rfl hp hq1 hq2 k2 f0 f1 f2 f3 o1 o2 o3)
    by_cases k3 : a.plan.kind = 3
    · have hd := (hfit hF).trans (planAt_join k3)
      by_cases o1 : a.plan.key.toList = []
      case neg => exact tr_of (tr_false fun h => o1 (hd.1 h).2.2.2.1).symm (join00 w A cap a k _ hz hrow hlen he1 he2 hks hk rfl hp hq1 hq2 k3 f0 f1 f2 f3 (by simpa using o1) o1)
      by_cases o2 : k + 1 < a.sp.length
      case neg => exact tr_of (tr_false fun h => by obtain ⟨_, _, _, _, h, _⟩ := hd.1 h; exact o2 h).symm (join01 w A cap a k _ hz hrow hlen he1 he2 hks hk rfl hp hq1 hq2 k3 f0 f1 f2 f3 o1 (by simp; omega) (by omega))
      by_cases o3 : a.sp[k+1].sh = a.plan.other
      case neg => exact tr_of (tr_false fun h => by obtain ⟨_, _, _, _, _, h, _⟩ := hd.1 h; exact o3 h).symm (join02 w A cap a k _ hz hrow hlen he1 he2 hks hk rfl hp hq1 hq2 k3 o2 _ rfl f0 f1 f2 f3 o1 (by simpa using o3) o3)
      by_cases o4 : a.sp[k+1].gr = a.plan.group
      case neg => exact tr_of (tr_false fun h => by obtain ⟨_, _, _, _, _, _, h, _⟩ := hd.1 h; exact o4 (h.trans f1)).symm (join03 w A cap a k _ hz hrow hlen he1 he2 hks hk rfl hp hq1 hq2 k3 o2 _ rfl f0 f1 f2 f3 o1 o3 (by simpa using o4) o4)
      exact tr_of (eq_tr (by rw [hd]; simp only [decide_eq_true_eq]; exact ⟨fun h => ⟨hq1, hq2, hF, o1, o2, o3, o4.trans f1.symm, h⟩, fun h => h.2.2.2.2.2.2.2⟩)) (join04 w A cap a k _ hz hrow hlen he1 he2 hks hk rfl hp hq1 hq2 k3 o2 _ rfl f0 f1 f2 f3 o1 o3 o4)
    · exact tr_of (tr_false fun h => planAt_other k1 k2 k3 ((hfit hF).1 h)).symm (other0 w A cap a k _ hz hrow hlen he1 he2 hks hk rfl hp hq1 hq2 k1 f0 f1 f2 f3 k2 k3)
  · by_cases f2' : a.plan.phase = 9
    case neg => exact tr_of (hno fun h => by rcases h.2.2 with h | h <;> omega) (unfit3 w A cap a k _ hz hrow hlen he1 he2 hk rfl hp hq1 hq2 k1 f0 f1 f2 f2')
    by_cases f3 : a.sp[k].ep - 2 = a.plan.epoch
    case neg => exact tr_of (hno fun h => by rcases h.2.2 with h | h <;> omega) (unfit4 w A cap a k _ hz hrow hlen he1 he2 hk rfl hp hq1 hq2 k1 f0 f1 f2 f2' f3)
    have hF : Fits a a.sp[k] := ⟨f0, f1, .inr ⟨f2', f3⟩⟩
    by_cases k2 : a.plan.kind = 2
    · have hd := (hfit hF).trans (planAt_split k2)
      by_cases o1 : a.plan.other = a.last
      case neg => exact tr_of (tr_false fun h => o1 (hd.1 h).2.2.2.1).symm (split10 w A cap a k _ hz hrow hlen he1 he2 hks hk rfl hp hq1 hq2 k2 f0 f1 f2' f3 o1)
      by_cases o2 : place a.sp a.last < 0
      case neg => exact tr_of (tr_false fun h => o2 (by rw [← o1]; exact (hd.1 h).2.2.2.2.1)).symm (split11 w A cap a k _ hz hrow hlen he1 he2 hks hk rfl hp hq1 hq2 k2 f0 f1 f2' f3 o1 o2)
      cases o3 : inside a.sp[k] a.plan.key
      · exact tr_of (tr_false fun h => by have := (hd.1 h).2.2.2.2.2.1; rw [o3] at this; cases this).symm (split12 w A cap a k _ hz hrow hlen he1 he2 hks hk rfl hp hq1 hq2 k2 f0 f1 f2' f3 o1 o2 o3)
      · exact tr_of (eq_tr (by rw [hd]; simp only [decide_eq_true_eq]; exact ⟨fun h => ⟨hq1, hq2, hF, o1, by rw [o1]; exact o2, o3, h⟩, fun h => h.2.2.2.2.2.2⟩)) (split13 w A cap a k _ hz hrow hlen he1 he2 hks hk rfl hp hq1 hq2 k2 f0 f1 f2' f3 o1 o2 o3)
    by_cases k3 : a.plan.kind = 3
    · have hd := (hfit hF).trans (planAt_join k3)
      by_cases o1 : a.plan.key.toList = []
      case neg => exact tr_of (tr_false fun h => o1 (hd.1 h).2.2.2.1).symm (join10 w A cap a k _ hz hrow hlen he1 he2 hks hk rfl hp hq1 hq2 k3 f0 f1 f2' f3 (by simpa using o1) o1)
      by_cases o2 : k + 1 < a.sp.length
      case neg => exact tr_of (tr_false fun h => by obtain ⟨_, _, _, _, h, _⟩ := hd.1 h; exact o2 h).symm (join11 w A cap a k _ hz hrow hlen he1 he2 hks hk rfl hp hq1 hq2 k3 f0 f1 f2' f3 o1 (by simp; omega) (by omega))
      by_cases o3 : a.sp[k+1].sh = a.plan.other
      case neg => exact tr_of (tr_false fun h => by obtain ⟨_, _, _, _, _, h, _⟩ := hd.1 h; exact o3 h).symm (join12 w A cap a k _ hz hrow hlen he1 he2 hks hk rfl hp hq1 hq2 k3 o2 _ rfl f0 f1 f2' f3 o1 (by simpa using o3) o3)
      by_cases o4 : a.sp[k+1].gr = a.plan.group
      case neg => exact tr_of (tr_false fun h => by obtain ⟨_, _, _, _, _, _, h, _⟩ := hd.1 h; exact o4 (h.trans f1)).symm (join13 w A cap a k _ hz hrow hlen he1 he2 hks hk rfl hp hq1 hq2 k3 o2 _ rfl f0 f1 f2' f3 o1 o3 (by simpa using o4) o4)
      exact tr_of (eq_tr (by rw [hd]; simp only [decide_eq_true_eq]; exact ⟨fun h => ⟨hq1, hq2, hF, o1, o2, o3, o4.trans f1.symm, h⟩, fun h => h.2.2.2.2.2.2.2⟩)) (join14 w A cap a k _ hz hrow hlen he1 he2 hks hk rfl hp hq1 hq2 k3 o2 _ rfl f0 f1 f2' f3 o1 o3 o4)
    · exact tr_of (tr_false fun h => planAt_other k1 k2 k3 ((hfit hF).1 h)).symm (other1 w A cap a k _ hz hrow hlen he1 he2 hks hk rfl hp hq1 hq2 k1 f0 f1 f2' f3 k2 k3)
end Go.Proofs.Ytimondpollbdfaa
