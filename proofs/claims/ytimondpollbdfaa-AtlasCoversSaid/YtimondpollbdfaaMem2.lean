/- What is proved: small laws on a row that is owned: cutting it, appending within its room, clearing behind its end. No condition beyond what each law states. -/
import Derived.Test.YtimondpollbdfaaMem
import Derived.Deep.RegionLaw
set_option linter.unusedVariables false
set_option linter.unusedSimpArgs false
namespace Go.Proofs.Ytimondpollbdfaa
open Go.RowKit

theorem flat_take {size : Nat} : ∀ (cs : List (List Value)), (∀ c ∈ cs, c.length = size) → ∀ i, (cs.take i).flatten = cs.flatten.take (i * size)
  | [], _, i => by simp
  | d :: cs, hs, 0 => by simp
  | d :: cs, hs, i + 1 => by
    have hd : d.length = size := hs d (by simp)
    simp only [List.take_succ_cons, List.flatten_cons, flat_take cs (fun c hc => hs c (by simp [hc])) i]
    rw [List.take_append, List.take_of_length_le (l := d) (by rw [hd, Nat.add_mul]; omega)]
    congr 2
    rw [hd, Nat.add_mul]; omega
theorem flat_drop {size : Nat} : ∀ (cs : List (List Value)), (∀ c ∈ cs, c.length = size) → ∀ i, (cs.drop i).flatten = cs.flatten.drop (i * size)
  | [], _, i => by simp
  | d :: cs, hs, 0 => by simp
  | d :: cs, hs, i + 1 => by
    have hd : d.length = size := hs d (by simp)
    simp only [List.drop_succ_cons, List.flatten_cons, flat_drop cs (fun c hc => hs c (by simp [hc])) i]
    rw [List.drop_append, List.drop_of_length_le (l := d) (by rw [hd, Nat.add_mul]; omega), List.nil_append]
    congr 1
    rw [hd, Nat.add_mul]; omega
theorem flat_erase {size : Nat} (cs : List (List Value)) (hs : ∀ c ∈ cs, c.length = size) (i : Nat) : (cs.eraseIdx i).flatten = cs.flatten.take (i * size) ++ cs.flatten.drop ((i + 1) * size) := by
  rw [List.eraseIdx_eq_take_drop_succ, List.flatten_append, flat_take cs hs, flat_drop cs hs]

section
variable {P : Program} {w : World} {base : Nat} {e : TypeId} {size : Nat} {n cap g : Nat} {xs : List Value}
theorem own_take (h : w.ownsRow base e size (.slice (some ⟨g, 0, none⟩) n cap) n xs) {i : Nat} (hi : i ≤ n) : w.ownsRow base e size (.slice (some ⟨g, 0, none⟩) i cap) i (xs.take (i * size)) := by
  have hm : i * size ≤ n * size := Nat.mul_le_mul_right _ hi
  refine ⟨by rw [List.length_take, h.1]; omega, ?_⟩
  rcases h.2 with ⟨h2, _⟩ | ⟨g', cap', cur, hv, hb, hg, hc, hmx, hsz, htk⟩
  · cases h2
  · injection hv with h3 h4 h5
    subst h5
    injection h3 with h3
    injection h3 with h3
    subst h3
    refine .inr ⟨g, cap, cur, rfl, hb, hg, by omega, hmx, hsz, ?_⟩
    rw [← htk, List.take_take, Nat.min_eq_left hm]
theorem own_cell (h : w.ownsRow base e size (.slice (some ⟨g, 0, none⟩) n cap) n xs) {k : Nat} : ∀ j u, (xs.drop k)[j]? = some u → w.cell? ((⟨g, k, none⟩ : Addr).add j) = some u := by
  intro j u hu
  rw [List.getElem?_drop] at hu
  have := h.cells (g := g) rfl (k + j) u hu
  rw [addr_add] at this ⊢
  rwa [Nat.zero_add] at this
theorem step_fits {ops : Array Oper} {o : Oper} {a : Act} {K : Act → World → Prop} {Q : Exit → Act → World → Prop} {E : Prop} (hgd : o.guard = none) (s x : Operand) (t : TypeId)
    (ho : o.op = .call { callee := .builtin .append, args := #[s, x], argTypes := #[t, t] }) (i : TypeInfo) (ht : P.underlying t = some (.slice e)) (hi : P.info? e = some i) (hsize : i.size = size)
    (hv : a.eval s = .slice (some ⟨g, 0, none⟩) n cap) (hown : w.ownsRow base e size (.slice (some ⟨g, 0, none⟩) n cap) n xs)
    (ad : Addr) (m c : Nat) (news : List Value) (hx : a.eval x = .slice (some ad) m c) (hl : news.length = m * size) (hnews : ∀ j u, news[j]? = some u → w.cell? (ad.add j) = some u) (h1 : ∀ u ∈ news, u.oneCell' = true)
    (hroom : n + m ≤ cap)
    (h : ∀ w', w'.ownsRow base e size (.slice (some ⟨g, 0, none⟩) (n + m) cap) (n + m) (xs ++ news) → w.grownBy w' (some g) → K (a.put o.dst (.slice (some ⟨g, 0, none⟩) (n + m) cap)) w') :
    if Region.wanted o (yielded ops a.tmps) = true then Oper.wp P o a w K Q else E := by
  have hw : Region.wanted o (yielded ops a.tmps) = true := by simp [Region.wanted, hgd]
  rw [if_pos hw]
  obtain ⟨w', hrun, h2, h3⟩ := run_append_fits (P := P) w base t o.type e i size ht hi hsize g n cap xs hown ad m c news hl hnews h1 hroom
  unfold Oper.wp execOp
  simp only [ho, resolve, invoke, builtin, Sem.run_bind, Sem.run_pure, Result.andThen_ok, List.map_toArray, List.map_cons, List.map_nil, hv, hx, hrun]
  exact h w' h2 h3
theorem wpList_fits {ops : Array Oper} {rest : List Oper} {o : Oper} {a : Act} {Q : Exit → Act → World → Prop} (hgd : o.guard = none) (s x : Operand) (t : TypeId)
    (ho : o.op = .call { callee := .builtin .append, args := #[s, x], argTypes := #[t, t] }) (i : TypeInfo) (ht : P.underlying t = some (.slice e)) (hi : P.info? e = some i) (hsize : i.size = size)
    (hv : a.eval s = .slice (some ⟨g, 0, none⟩) n cap) (hown : w.ownsRow base e size (.slice (some ⟨g, 0, none⟩) n cap) n xs)
    (ad : Addr) (m c : Nat) (news : List Value) (hx : a.eval x = .slice (some ad) m c) (hl : news.length = m * size) (hnews : ∀ j u, news[j]? = some u → w.cell? (ad.add j) = some u) (h1 : ∀ u ∈ news, u.oneCell' = true)
    (hroom : n + m ≤ cap)
    (h : ∀ w', w'.ownsRow base e size (.slice (some ⟨g, 0, none⟩) (n + m) cap) (n + m) (xs ++ news) → w.grownBy w' (some g) → wpList P ops Q rest (a.put o.dst (.slice (some ⟨g, 0, none⟩) (n + m) cap)) w') : wpList P ops Q (o :: rest) a w := by
  refine wpList_plain hgd fun K hK => ?_
  obtain ⟨w', hrun, h2, h3⟩ := run_append_fits (P := P) w base t o.type e i size ht hi hsize g n cap xs hown ad m c news hl hnews h1 hroom
  unfold Oper.wp execOp
  simp only [ho, resolve, invoke, builtin, Sem.run_bind, Sem.run_pure, Result.andThen_ok, List.map_toArray, List.map_cons, List.map_nil, hv, hx, hrun]
  exact hK _ _ (h w' h2 h3)
theorem run_clear_behind (t ty : TypeId) (z : Value) (ht : P.underlying t = some (.slice e)) (hz : ∀ w, (zeroValue e).run P w = .ok z w) (hzs : z.cells.size = size) (hz1 : ∀ u ∈ z.cells.toList, u.oneCell' = true) (hsz : 0 < size)
    (hown : w.ownsRow base e size (.slice (some ⟨g, 0, none⟩) n cap) n xs) (k c : Nat) (hk : n + k ≤ cap) (hk0 : 0 < k) :
    ∃ w', (Builtin.clear_ #[t] ty #[.slice (some ⟨g, n * size, none⟩) k c]).run P w = .ok (.tuple #[]) w' ∧ w'.ownsRow base e size (.slice (some ⟨g, 0, none⟩) n cap) n xs ∧ w.grownBy w' (some g) := by
  rcases hown.2 with ⟨h2, _⟩ | ⟨g', cap', cur, hv, hb, hg, hc, hmx, hcs, htk⟩
  · cases h2
  · injection hv with h3 h4 h5
    subst h5
    injection h3 with h3
    injection h3 with h3
    subst h3
    have hzl : (Builtin.zeroCells z.cells k).toList.length = k * size := by rw [Array.length_toList, size_zeroCells, hzs]
    have hfit : n * size + 0 + (Builtin.zeroCells z.cells k).toList.length ≤ cur.size := by
      rw [hzl, hcs, Nat.add_zero, ← Nat.add_mul]; exact Nat.mul_le_mul_right _ hk
    have hone : ∀ u ∈ (Builtin.zeroCells z.cells k).toList, u.oneCell' = true := by
      intro u hu
      simp only [Builtin.zeroCells, Array.toList_map, List.mem_map, Array.mem_toList_iff, Array.mem_range] at hu
      obtain ⟨i, _, rfl⟩ := hu
      have hi : i % z.cells.size < z.cells.size := Nat.mod_lt _ (by omega)
      rw [getElem!_pos z.cells _ hi]
      exact hz1 _ (by simp)
    have hst := run_storeCells_at P g (n * size) e (Builtin.zeroCells z.cells k).toList 0 cur w hg hfit hone
    refine ⟨w.setRow g (cur.toList.take (n * size + 0) ++ (Builtin.zeroCells z.cells k).toList ++ cur.toList.drop (n * size + 0 + (Builtin.zeroCells z.cells k).toList.length)).toArray, ?_, ⟨hown.1, .inr ⟨g, cap, _, rfl, hb, setRow_heap w g cur _ e _ hg, hc, hmx, ?_, ?_⟩⟩, ⟨rfl, rfl, rfl, by simp, fun j _ hj => setRow_other w g j _ (fun e => hj (by simp [e]))⟩⟩
    · obtain ⟨k', rfl⟩ : ∃ k', k = k' + 1 := ⟨k - 1, by omega⟩
      simp [Builtin.clear_, run_underlying ht, hz, hst]
    · simp only [List.size_toArray, List.length_append, List.length_take, List.length_drop, Array.length_toList] at hfit ⊢
      omega
    · simp only [Nat.add_zero, List.append_assoc]
      rw [List.take_append_of_le_length (by simp only [List.length_take, Array.length_toList]; simp only [Array.length_toList] at hfit; omega), List.take_take, Nat.min_self]
      exact htk
theorem wpList_clear {ops : Array Oper} {rest : List Oper} {o : Oper} {a : Act} {Q : Exit → Act → World → Prop} (hgd : o.guard = none) (x : Operand) (t : TypeId)
    (ho : o.op = .call { callee := .builtin .clear, args := #[x], argTypes := #[t] })
    (z : Value) (ht : P.underlying t = some (.slice e)) (hz : ∀ w, (zeroValue e).run P w = .ok z w) (hzs : z.cells.size = size) (hz1 : ∀ u ∈ z.cells.toList, u.oneCell' = true) (hsz : 0 < size)
    (hown : w.ownsRow base e size (.slice (some ⟨g, 0, none⟩) n cap) n xs) (k c : Nat) (hx : a.eval x = .slice (some ⟨g, n * size, none⟩) k c) (hk : n + k ≤ cap) (hk0 : 0 < k)
    (h : ∀ w', w'.ownsRow base e size (.slice (some ⟨g, 0, none⟩) n cap) n xs → w.grownBy w' (some g) → wpList P ops Q rest (a.put o.dst (.tuple #[])) w') : wpList P ops Q (o :: rest) a w :=
  wpList_plain hgd fun K hK => by
    obtain ⟨w', hrun, h2, h3⟩ := run_clear_behind (P := P) t o.type z ht hz hzs hz1 hsz hown k c hk hk0
    unfold Oper.wp execOp
    simp only [ho, resolve, invoke, builtin, Sem.run_bind, Sem.run_pure, Result.andThen_ok, List.map_toArray, List.map_cons, List.map_nil, hx, hrun]
    exact hK _ _ (h w' h2 h3)
end
end Go.Proofs.Ytimondpollbdfaa
