/- What is proved: a cell of an owned row of spans is set: the row reads as the row with that span turned. -/
import Derived.Test.YtimondpollbdfaaBegin14
import Derived.Laws.OwnMore
set_option linter.unusedVariables false
set_option linter.unusedSimpArgs false
namespace Go.Proofs.Ytimondpollbdfaa
open Go.RowKit

theorem flat_set {size : Nat} : ∀ (cs : List (List Value)), (∀ c ∈ cs, c.length = size) → ∀ (k j : Nat) (c : List Value) (u : Value), cs[k]? = some c → j < size → cs.flatten.set (k * size + j) u = (cs.set k (c.set j u)).flatten
  | [], _, k, j, c, u, h, _ => by simp at h
  | d :: cs, hs, 0, j, c, u, h, hj => by
    have hd : d = c := by simpa using h
    subst hd
    have hl := hs d (by simp)
    simp only [Nat.zero_mul, Nat.zero_add, List.set_cons_zero, List.flatten_cons]
    rw [List.set_append_left _ _ (by omega)]
  | d :: cs, hs, k + 1, j, c, u, h, hj => by
    have hl := hs d (by simp)
    have ih := flat_set cs (fun c hc => hs c (by simp [hc])) k j c u (by simpa using h) hj
    simp only [List.set_cons_succ, List.flatten_cons]
    rw [← ih, List.set_append_right _ _ (by rw [hl, Nat.succ_mul]; omega)]
    congr 1
    rw [hl, Nat.succ_mul]
    congr 1
    omega
theorem span_set (l : List Span) (k j : Nat) (s s' : Span) (u : Value) (h : l[k]? = some s) (hj : j < 5) (hs : s.cells.set j u = s'.cells) : (l.map Span.cells).flatten.set (k * 5 + j) u = ((l.set k s').map Span.cells).flatten := by
  rw [flat_set (l.map Span.cells) (span_len l) k j s.cells u (by simp [h]) hj, hs]
  congr 1
  rw [List.map_set]
end Go.Proofs.Ytimondpollbdfaa
