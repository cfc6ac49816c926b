/- What is proved: appending to a row of one's own leaves its old cells readable where they lay. No condition beyond what each law states. -/
import Derived.Test.YtbgobcjnckoekaaMem2
import Derived.ArgAppend
namespace Go.Proofs.Ytbgobcjnckoekaa
open Go.RowKit

theorem run_app_keep {P : Program} (w : World) (t ty e : TypeId) (i : TypeInfo) (z : Value) (base size bytes : Nat) (ht : P.underlying t = some (.slice e)) (hi : P.info? e = some i) (hz : i.zero = some z)
    (hsize : i.size = size) (hby : i.bytes = bytes) (hzs : z.cells.size = size) (hsz : 0 < size)
    (g n cap : Nat) (xs : List Value) (hown : w.ownsRow base e size (.slice (some ⟨g, 0, none⟩) n cap) n xs)
    (B : Nat) (ad : Addr) (m c : Nat) (cs : List (List Value)) (hr : RowAt w B size (some ad) cs) (hs : ∀ c ∈ cs, c.length = size) (hm : cs.length = m) (h1 : ∀ u ∈ cs.flatten, u.oneCell' = true)
    (h63 : n + m ≤ maxLen) (hbytes : (n + m) * bytes ≤ 140737488355328) (hbase : base ≤ w.heap.size) :
    ∃ v' w', (Builtin.append_ #[t, t] ty #[.slice (some ⟨g, 0, none⟩) n cap, .slice (some ad) m c]).run P w = .ok v' w' ∧ w'.ownsRow base e size v' (n + m) (xs ++ cs.flatten) ∧ w.grownBy w' (some g) ∧
      (v'.ownBlock = some g ∨ v'.ownBlock = some w.heap.size) ∧ ∀ j u, xs[j]? = some u → w'.cell? ⟨g, j, none⟩ = some u := by
  obtain ⟨v', w', hrun, h2, h3, h4⟩ := run_app (P := P) w t ty e i z base size bytes ht hi hz hsize hby hzs hsz _ n xs hown B (some ad) m c cs hr hs hm h1 h63 hbytes hbase
  refine ⟨v', w', hrun, h2, h3, h4, fun j u hu => ?_⟩
  have hglt : g < w.heap.size := (hown.lt g rfl).2
  have hold : ∀ j u, xs[j]? = some u → w.cell? ((⟨g, 0, none⟩ : Addr).add j) = some u := fun j u hu => hown.cells (g := g) rfl j u hu
  have hjl : j < xs.length := (List.getElem?_eq_some_iff.1 hu).1
  rcases Nat.lt_or_ge cap (n + m) with hlt | hge
  · obtain ⟨v2, w2, hrun2, _, hg2⟩ := run_append_arg_grows (P := P) w t ty e i z size bytes ht hi hz hsize hby hzs hsz ⟨g, 0, none⟩ n cap xs hown.1 hold ad m c cs.flatten (by rw [flat_len cs hs, hm]) (hr.flat hs) hlt h63 hbytes
    rw [hrun] at hrun2
    injection hrun2 with hv hw
    subst hw
    rw [World.cell?_of_block (w := w) (a := ⟨g, j, none⟩) (hg2.block g hglt (by simp))]
    have := hold j u hu
    rwa [addr_add, Nat.zero_add] at this
  · obtain ⟨w2, hrun2, ho2, hg2⟩ := run_append_fits (P := P) w base t ty e i size ht hi hsize g n cap xs hown ad m c cs.flatten (by rw [flat_len cs hs, hm]) (hr.flat hs) h1 hge
    rw [hrun] at hrun2
    injection hrun2 with hv hw
    subst hw
    have := ho2.cells (g := g) rfl j u (by rw [List.getElem?_append_left hjl]; exact hu)
    rwa [addr_add, Nat.zero_add] at this
/-- At a step of a region that draws its order. -/
theorem step_app_keep {P : Program} (w : World) {ops : Array Oper} {o : Oper} {a : Act} {K : Act → World → Prop} {Q : Exit → Act → World → Prop} {E : Prop} (hgd : o.guard = none) (s x : Operand) (t : TypeId)
    (ho : o.op = .call { callee := .builtin .append, args := #[s, x], argTypes := #[t, t] })
    (e : TypeId) (i : TypeInfo) (z : Value) (base size bytes : Nat) (ht : P.underlying t = some (.slice e)) (hi : P.info? e = some i) (hz : i.zero = some z)
    (hsize : i.size = size) (hby : i.bytes = bytes) (hzs : z.cells.size = size) (hsz : 0 < size)
    (v : Value) (n : Nat) (xs : List Value) (hv : a.eval s = v) (hown : w.ownsRow base e size v n xs)
    (B : Nat) (ad : Addr) (m c : Nat) (cs : List (List Value)) (hx : a.eval x = .slice (some ad) m c) (hr : RowAt w B size (some ad) cs) (hs : ∀ c ∈ cs, c.length = size) (hm : cs.length = m) (h1 : ∀ u ∈ cs.flatten, u.oneCell' = true)
    (h63 : n + m ≤ maxLen) (hbytes : (n + m) * bytes ≤ 140737488355328) (hbase : base ≤ w.heap.size)
    (h : ∀ A' c' w', w'.ownsRow base e size (.slice A' (n + m) c') (n + m) (xs ++ cs.flatten) → w.grownBy w' v.ownBlock → ((Value.slice A' (n + m) c').ownBlock = v.ownBlock ∨ (Value.slice A' (n + m) c').ownBlock = some w.heap.size) → (∀ g, v.ownBlock = some g → ∀ j u, xs[j]? = some u → w'.cell? ⟨g, j, none⟩ = some u) → K (a.put o.dst (.slice A' (n + m) c')) w') :
    if Region.wanted o (yielded ops a.tmps) = true then Oper.wp P o a w K Q else E := by
  have hw : Region.wanted o (yielded ops a.tmps) = true := by simp [Region.wanted, hgd]
  rw [if_pos hw]
  rcases hown.2 with ⟨rfl, rfl⟩ | ⟨g, cap, cur, rfl, _⟩
  · exact wp_app w s x t ho e i z base size bytes ht hi hz hsize hby hzs hsz _ 0 xs hv hown B (some ad) m c cs hx hr hs hm h1 h63 hbytes hbase fun A' c' w' h1 h2 h3 => h A' c' w' h1 h2 h3 fun g hg => by simp [Value.ownBlock] at hg
  · obtain ⟨v', w', hrun, h2, h3, h4, h5⟩ := run_app_keep (P := P) w t o.type e i z base size bytes ht hi hz hsize hby hzs hsz g n cap xs hown B ad m c cs hr hs hm h1 h63 hbytes hbase
    unfold Oper.wp execOp
    simp only [ho, resolve, invoke, builtin, Sem.run_bind, Sem.run_pure, Result.andThen_ok, List.map_toArray, List.map_cons, List.map_nil, hv, hx, hrun]
    obtain ⟨A', c', rfl, _, _⟩ := own_shape h2
    exact h A' c' w' h2 h3 h4 fun g' hg' j u hu => by
      have : g = g' := Option.some.inj hg'
      subst this
      exact h5 j u hu
end Go.Proofs.Ytbgobcjnckoekaa
