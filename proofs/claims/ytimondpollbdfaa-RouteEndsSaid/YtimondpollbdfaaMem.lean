/- What is proved: small laws on worlds: a world with more memory above it; a world of which only some blocks have turned; rows of elements of several cells. No condition beyond what each law states. -/
import Derived.Test.YtimondpollbdfaaProg
import Derived.WalkKit
import Derived.WalkSpells
import Derived.WalkLawsBesides
import Derived.Lib.Hide
import Derived.Deep.Quiet
import Derived.Deep.QuietTactic
import Derived.BigQuiet
import Derived.Deep.AppendLies
import Derived.Lib.SliceRun
set_option linter.unusedVariables false
set_option linter.unusedSimpArgs false
namespace Go.Proofs.Ytimondpollbdfaa
open Go.RowKit

/-! ### more memory above -/
structure More where
  objs : Array Obj
  drawn : Nat
instance : Nonempty More := ⟨⟨#[], 0⟩⟩
def over (w : World) (x : More) : World := { w with heap := w.heap ++ x.objs, drawn := x.drawn }
theorem heap_over (w : World) (x : More) (k : Nat) (h : k < w.heap.size) : (over w x).heap[k]? = w.heap[k]? := by
  simp only [over, Array.getElem?_append, h, if_true]
theorem size_over (w : World) (x : More) : w.heap.size ≤ (over w x).heap.size := by simp [over]
theorem below_over (w : World) (x : More) : Below w.heap.size w (over w x) := ⟨rfl, rfl, rfl, size_over w x, fun k h => heap_over w x k h⟩
theorem cell_over {w : World} {x : More} {a : Addr} (h : a.block < w.heap.size) : (over w x).cell? a = w.cell? a := (below_over w x).cell h
theorem frozen_over {w : World} {x : More} {a : Addr} (h : a.block < w.heap.size) : (over w x).frozen? a = w.frozen? a := (below_over w x).frozen h
theorem over_of_below {w w' : World} (h : Below w.heap.size w w') : ∃ x, w' = over w x := by
  refine ⟨⟨w'.heap.extract w.heap.size w'.heap.size, w'.drawn⟩, ?_⟩
  have hh : w'.heap = w.heap ++ w'.heap.extract w.heap.size w'.heap.size := by
    apply Array.ext_getElem?
    intro i
    rw [Array.getElem?_append]
    split
    · rename_i hi; exact h.block i hi
    · rename_i hi
      rw [Array.getElem?_extract]
      have := h.size
      by_cases h2 : i < w'.heap.size
      · rw [if_pos (by omega)]; congr 1; omega
      · rw [if_neg (by omega), Array.getElem?_eq_none (by omega)]
  obtain ⟨heap, tape, drawn, os, output⟩ := w
  obtain ⟨heap', tape', drawn', os', output'⟩ := w'
  have h1 := h.os; have h2 := h.tape; have h3 := h.output
  simp only at h1 h2 h3 hh
  subst h1; subst h2; subst h3
  simp only [over]
  rw [← hh]
theorem over_over (w : World) (x y : More) : over (over w x) y = over w ⟨x.objs ++ y.objs, y.drawn⟩ := by simp [over]
theorem over_drew (w : World) : ∃ x, w.drew = over w x := over_of_below ((Below.refl _ _).drew)

theorem wp_region_over {P : Program} {id : Nat} {Q : Exit → Act → World → Prop} {a : Act} {w : World} {l : List Oper} (hm : P.follows .mixedOrders = true) (hB : Region.lexB .any l.toArray = true)
    (h : wpQuiet P l.toArray (fun w' => ∃ x, w' = over w x) (fun a' => ∀ w', (∃ x, w' = over w x) → Q .normal a' w') l a) : (Code.region id l.toArray true).wp P Q a w :=
  wp_region_quiet (C := fun w' => ∃ x, w' = over w x) hm hB (over_drew w) (by simpa using h)

theorem calls_over {P : Program} {f : FuncId} {args : Array Value} {w : World} {x : More} {v : Value}
    (h : Calls P f args (over w x) fun e w' => e = .returned v ∧ Below (over w x).heap.size (over w x) w') : Calls P f args (over w x) fun e w'' => e = .returned v ∧ ∃ y, w'' = over w y :=
  h.mono fun _ _ ⟨he, hb⟩ => ⟨he, by obtain ⟨y, rfl⟩ := over_of_below hb; exact ⟨_, over_over w x y⟩⟩

/-! ### only some blocks have turned -/
structure Only (F : Nat → Prop) (w w' : World) : Prop where
  os : w'.os = w.os
  tape : w'.tape = w.tape
  output : w'.output = w.output
  size : w.heap.size ≤ w'.heap.size
  block : ∀ k, k < w.heap.size → ¬ F k → w'.heap[k]? = w.heap[k]?
theorem Only.refl (F : Nat → Prop) (w : World) : Only F w w := ⟨rfl, rfl, rfl, Nat.le_refl _, fun _ _ _ => rfl⟩
theorem Only.trans {F G : Nat → Prop} {a b c : World} (h : Only F a b) (k : Only G b c) (hG : ∀ i, i < a.heap.size → G i → F i) : Only F a c :=
  ⟨k.os.trans h.os, k.tape.trans h.tape, k.output.trans h.output, Nat.le_trans h.size k.size, fun i hi hF => (k.block i (Nat.lt_of_lt_of_le hi h.size) (fun hg => hF (hG i hi hg))).trans (h.block i hi hF)⟩
theorem Only.mono {F G : Nat → Prop} {a b : World} (h : Only F a b) (hFG : ∀ i, F i → G i) : Only G a b :=
  ⟨h.os, h.tape, h.output, h.size, fun i hi hG => h.block i hi (fun hF => hG (hFG i hF))⟩
theorem Only.of_below {F : Nat → Prop} {a b : World} (h : Below a.heap.size a b) : Only F a b := ⟨h.os, h.tape, h.output, h.size, fun i hi _ => h.block i hi⟩
theorem Only.of_grown {F : Nat → Prop} {a b : World} {row : Option Nat} (h : a.grownBy b row) (hr : ∀ k, row = some k → k < a.heap.size → F k) : Only F a b :=
  ⟨h.os, h.tape, h.output, h.size, fun i hi hF => h.block i hi (fun e => hF (hr i e.symm hi))⟩
theorem Only.below {F : Nat → Prop} {B : Nat} {a b c : World} (h : Below B a b) (k : Only F b c) (hF : ∀ i, F i → B ≤ i) (hB : B ≤ b.heap.size) : Below B a c :=
  h.trans ⟨k.os, k.tape, k.output, k.size, fun i hi => k.block i (by omega) (fun hf => by have := hF i hf; omega)⟩
theorem Only.cell {F : Nat → Prop} {a b : World} (h : Only F a b) {p : Addr} (hp : p.block < a.heap.size) (hF : ¬ F p.block) : b.cell? p = a.cell? p := World.cell?_of_block (w := a) (h.block _ hp hF)

theorem only_setCell (w : World) (p : Addr) (u : Value) : Only (· = p.block) w (w.setCell p u) :=
  ⟨rfl, rfl, rfl, by simp [World.setCell], fun k _ hk => Below.heap_setCell w p u k hk⟩
theorem only_alloc (F : Nat → Prop) (w : World) (o : Obj) : Only F w (w.alloc o) := Only.of_below ((Below.refl _ _).alloc (Nat.le_refl _) o)
theorem heap_setCell_at {w : World} {g i : Nat} {c : Array Value} {t : TypeId} {fr : Nat × Nat} (h : w.heap[g]? = some (.cells c t fr)) (u : Value) : (w.setCell ⟨g, i, none⟩ u).heap[g]? = some (.cells (c.setIfInBounds i u) t fr) := by
  simp [World.setCell, Array.getElem?_modify, h]
theorem own_only {w w' : World} {base : Nat} {e : TypeId} {size : Nat} {v : Value} {n : Nat} {xs : List Value} {F : Nat → Prop} (h : w.ownsRow base e size v n xs) (hb : Only F w w') (hF : ∀ k, v.ownBlock = some k → ¬ F k) : w'.ownsRow base e size v n xs := by
  refine ⟨h.1, ?_⟩
  rcases h.2 with h2 | ⟨g, cap, cur, hv, hbs, hg, r⟩
  · exact .inl h2
  · have hlt := (h.lt g (by rw [hv]; rfl)).2
    exact .inr ⟨g, cap, cur, hv, hbs, (hb.block g hlt (hF g (by rw [hv]; rfl))).trans hg, r⟩

theorem own_base {w : World} {base base' : Nat} {e : TypeId} {size : Nat} {v : Value} {n : Nat} {xs : List Value} (h : w.ownsRow base e size v n xs) (hb : base' ≤ base) : w.ownsRow base' e size v n xs := by
  refine ⟨h.1, ?_⟩
  rcases h.2 with h2 | ⟨g, cap, cur, hv, hbs, hg, r⟩
  · exact .inl h2
  · exact .inr ⟨g, cap, cur, hv, Nat.le_trans hb hbs, hg, r⟩

/-! ### a row of elements, each of several cells -/
def RowAt (w : World) (B size : Nat) (A : Option Addr) (cs : List (List Value)) : Prop :=
  ∀ i c, cs[i]? = some c → ∃ b off, A = some ⟨b, off, none⟩ ∧ b < B ∧ ∀ j u, c[j]? = some u → w.cell? ⟨b, off + i * size + j, none⟩ = some u
theorem RowAt.keep {w w' : World} {B size : Nat} {A : Option Addr} {cs : List (List Value)} (h : RowAt w B size A cs) (hk : ∀ p : Addr, p.block < B → w'.cell? p = w.cell? p) : RowAt w' B size A cs :=
  fun i c hc => by
    obtain ⟨b, off, hA, hb, hcell⟩ := h i c hc
    exact ⟨b, off, hA, hb, fun j u hu => (hk _ hb).trans (hcell j u hu)⟩
theorem RowAt.below {w w' : World} {B B' size : Nat} {A : Option Addr} {cs : List (List Value)} (h : RowAt w B size A cs) (hb : Below B' w w') (hB : B ≤ B') : RowAt w' B size A cs :=
  h.keep fun p hp => hb.cell (by omega)
theorem RowAt.more {w : World} {B B' size : Nat} {A : Option Addr} {cs : List (List Value)} (h : RowAt w B size A cs) (hB : B ≤ B') : RowAt w B' size A cs :=
  fun i c hc => by
    obtain ⟨b, off, hA, hb, hcell⟩ := h i c hc
    exact ⟨b, off, hA, by omega, hcell⟩
theorem rowAt_nil (w : World) (B size : Nat) (A : Option Addr) : RowAt w B size A [] := fun i c h => by simp at h

theorem flat_get {size : Nat} : ∀ (cs : List (List Value)), (∀ c ∈ cs, c.length = size) → ∀ (i j : Nat) (c : List Value) (u : Value), cs[i]? = some c → c[j]? = some u → cs.flatten[i * size + j]? = some u
  | [], _, i, j, c, u, h, _ => by simp at h
  | d :: cs, hs, 0, j, c, u, h, hu => by
    simp at h; subst h
    have hj := (List.getElem?_eq_some_iff.1 hu).1
    simp only [List.flatten_cons, Nat.zero_mul, Nat.zero_add]
    rw [List.getElem?_append_left hj]; exact hu
  | d :: cs, hs, i + 1, j, c, u, h, hu => by
    have hd : d.length = size := hs d (by simp)
    simp only [List.flatten_cons]
    rw [List.getElem?_append_right (by rw [hd, Nat.add_mul]; omega)]
    have := flat_get cs (fun c hc => hs c (by simp [hc])) i j c u (by simpa using h) hu
    rw [← this]; congr 1
    rw [hd, Nat.add_mul]; omega

/-- A row that is owned reads as a row. -/
theorem rowAt_of_own {w : World} {base : Nat} {e : TypeId} {size : Nat} {v : Value} {A : Option Addr} {n cap : Nat} {cs : List (List Value)} (h : w.ownsRow base e size v n cs.flatten) (hv : v = .slice A n cap) (hs : ∀ c ∈ cs, c.length = size) (hl : cs.length = n) :
    RowAt w w.heap.size size A cs := by
  intro i c hc
  have hi : i < cs.length := (List.getElem?_eq_some_iff.1 hc).1
  obtain ⟨g, cap', hv', _, hlt⟩ := h.form (by omega)
  have hA : A = some ⟨g, 0, none⟩ := by
    rw [hv'] at hv; injection hv with h1; exact h1.symm
  subst hv'
  refine ⟨g, 0, hA, hlt, fun j u hu => ?_⟩
  have h2 := h.cells (g := g) rfl (i * size + j) u (flat_get cs hs i j c u hc hu)
  have hadd : (⟨g, 0, none⟩ : Addr).add (i * size + j) = ⟨g, 0 + i * size + j, none⟩ := by
    unfold Addr.add
    split
    · rename_i h0; rw [Nat.zero_add, h0]
    · simp
  rw [hadd] at h2
  exact h2

theorem flat_inv {size : Nat} : ∀ (cs : List (List Value)), (∀ c ∈ cs, c.length = size) → ∀ (j : Nat) (u : Value), cs.flatten[j]? = some u → ∃ i r c, j = i * size + r ∧ cs[i]? = some c ∧ c[r]? = some u
  | [], _, j, u, h => by simp at h
  | d :: cs, hs, j, u, h => by
    have hd : d.length = size := hs d (by simp)
    simp only [List.flatten_cons] at h
    rcases Nat.lt_or_ge j d.length with hj | hj
    · rw [List.getElem?_append_left hj] at h
      exact ⟨0, j, d, by omega, rfl, h⟩
    · rw [List.getElem?_append_right hj] at h
      obtain ⟨i, r, c, h1, h2, h3⟩ := flat_inv cs (fun c hc => hs c (by simp [hc])) _ u h
      exact ⟨i + 1, r, c, by rw [Nat.add_mul]; omega, by simpa using h2, h3⟩
theorem flat_len {size : Nat} : ∀ (cs : List (List Value)), (∀ c ∈ cs, c.length = size) → cs.flatten.length = cs.length * size
  | [], _ => by simp
  | d :: cs, hs => by
    have hd : d.length = size := hs d (by simp)
    simp only [List.flatten_cons, List.length_append, List.length_cons, flat_len cs (fun c hc => hs c (by simp [hc])), hd, Nat.add_mul]
    omega
theorem addr_add (b off n : Nat) : (⟨b, off, none⟩ : Addr).add n = ⟨b, off + n, none⟩ := by
  unfold Addr.add; split
  · rename_i h; subst h; rfl
  · rfl
/-- A row's cells, one behind the other. -/
theorem RowAt.flat {w : World} {B size : Nat} {ad : Addr} {cs : List (List Value)} (h : RowAt w B size (some ad) cs) (hs : ∀ c ∈ cs, c.length = size) : ∀ j u, cs.flatten[j]? = some u → w.cell? (ad.add j) = some u := by
  intro j u hu
  obtain ⟨i, r, c, rfl, hc, hr⟩ := flat_inv cs hs j u hu
  obtain ⟨b, off, hA, _, hcell⟩ := h i c hc
  have hA := Option.some.inj hA
  subst hA
  rw [addr_add, ← Nat.add_assoc]
  exact hcell r u hr
theorem own_shape {w : World} {base : Nat} {e : TypeId} {size : Nat} {v : Value} {n : Nat} {xs : List Value} (h : w.ownsRow base e size v n xs) : ∃ A cap, v = .slice A n cap ∧ n ≤ cap ∧ n ≤ maxLen := by
  rcases h.2 with ⟨hv, hn⟩ | ⟨g, cap, cur, hv, _, _, hc, hm, _⟩
  · subst hn; exact ⟨none, 0, hv, Nat.le_refl _, Nat.zero_le _⟩
  · exact ⟨_, _, hv, hc, Nat.le_trans hc hm⟩

/-- Appending a row (nil let in) to a row of one's own. -/
theorem run_app {P : Program} (w : World) (t ty e : TypeId) (i : TypeInfo) (z : Value) (base size bytes : Nat) (ht : P.underlying t = some (.slice e)) (hi : P.info? e = some i) (hz : i.zero = some z)
    (hsize : i.size = size) (hby : i.bytes = bytes) (hzs : z.cells.size = size) (hsz : 0 < size)
    (v : Value) (n : Nat) (xs : List Value) (hown : w.ownsRow base e size v n xs)
    (B : Nat) (A : Option Addr) (m c : Nat) (cs : List (List Value)) (hr : RowAt w B size A cs) (hs : ∀ c ∈ cs, c.length = size) (hm : cs.length = m) (h1 : ∀ u ∈ cs.flatten, u.oneCell' = true)
    (h63 : n + m ≤ maxLen) (hbytes : (n + m) * bytes ≤ 140737488355328) (hbase : base ≤ w.heap.size) :
    ∃ v' w', (Builtin.append_ #[t, t] ty #[v, .slice A m c]).run P w = .ok v' w' ∧ w'.ownsRow base e size v' (n + m) (xs ++ cs.flatten) ∧ w.grownBy w' v.ownBlock ∧
      (v'.ownBlock = v.ownBlock ∨ v'.ownBlock = some w.heap.size) := by
  cases A with
  | some ad =>
    obtain ⟨v', w', hrun, h2, h3, _, h5⟩ := run_append_own_at (P := P) w base t ty e i z size bytes ht hi hz hsize hby hzs hsz v n xs hown ad m c cs.flatten (by rw [flat_len cs hs, hm]) (hr.flat hs) h1 h63 hbytes hbase
    exact ⟨v', w', hrun, h2, h3, h5⟩
  | none =>
    have h0 : cs = [] := by
      cases cs with
      | nil => rfl
      | cons d cs => obtain ⟨b, off, hA, _⟩ := hr 0 d rfl; cases hA
    subst h0
    simp at hm; subst hm
    refine ⟨v, w, ?_, by simpa using hown, World.grownBy.refl w _, .inl rfl⟩
    rcases hown.2 with ⟨rfl, rfl⟩ | ⟨g, cap, cur, rfl, _, _, hnc, _⟩
    · simp [Builtin.append_, run_underlying ht, sizeOf, typeInfo, hi, Builtin.lenOf, Builtin.firstCells]
    · simp [Builtin.append_, run_underlying ht, sizeOf, typeInfo, hi, Builtin.lenOf, Builtin.firstCells, hnc, storeCells]
theorem wp_app {P : Program} (w : World) {o : Oper} {a : Act} {K : Act → World → Prop} {Q : Exit → Act → World → Prop} (s x : Operand) (t : TypeId)
    (ho : o.op = .call { callee := .builtin .append, args := #[s, x], argTypes := #[t, t] })
    (e : TypeId) (i : TypeInfo) (z : Value) (base size bytes : Nat) (ht : P.underlying t = some (.slice e)) (hi : P.info? e = some i) (hz : i.zero = some z)
    (hsize : i.size = size) (hby : i.bytes = bytes) (hzs : z.cells.size = size) (hsz : 0 < size)
    (v : Value) (n : Nat) (xs : List Value) (hv : a.eval s = v) (hown : w.ownsRow base e size v n xs)
    (B : Nat) (A : Option Addr) (m c : Nat) (cs : List (List Value)) (hx : a.eval x = .slice A m c) (hr : RowAt w B size A cs) (hs : ∀ c ∈ cs, c.length = size) (hm : cs.length = m) (h1 : ∀ u ∈ cs.flatten, u.oneCell' = true)
    (h63 : n + m ≤ maxLen) (hbytes : (n + m) * bytes ≤ 140737488355328) (hbase : base ≤ w.heap.size)
    (h : ∀ A' c' w', w'.ownsRow base e size (.slice A' (n + m) c') (n + m) (xs ++ cs.flatten) → w.grownBy w' v.ownBlock → ((Value.slice A' (n + m) c').ownBlock = v.ownBlock ∨ (Value.slice A' (n + m) c').ownBlock = some w.heap.size) → K (a.put o.dst (.slice A' (n + m) c')) w') : o.wp P a w K Q := by
  obtain ⟨v', w', hrun, h2, h3, h4⟩ := run_app (P := P) w t o.type e i z base size bytes ht hi hz hsize hby hzs hsz v n xs hown B A m c cs hr hs hm h1 h63 hbytes hbase
  unfold Oper.wp execOp
  simp only [ho, resolve, invoke, builtin, Sem.run_bind, Sem.run_pure, Result.andThen_ok, List.map_toArray, List.map_cons, List.map_nil, hv, hx, hrun]
  obtain ⟨A', c', rfl, _, _⟩ := own_shape h2
  exact h A' c' w' h2 h3 h4
theorem wpList_app {P : Program} (w : World) {ops : Array Oper} {rest : List Oper} {o : Oper} {a : Act} {Q : Exit → Act → World → Prop} (hgd : o.guard = none) (s x : Operand) (t : TypeId)
    (ho : o.op = .call { callee := .builtin .append, args := #[s, x], argTypes := #[t, t] })
    (e : TypeId) (i : TypeInfo) (z : Value) (base size bytes : Nat) (ht : P.underlying t = some (.slice e)) (hi : P.info? e = some i) (hz : i.zero = some z)
    (hsize : i.size = size) (hby : i.bytes = bytes) (hzs : z.cells.size = size) (hsz : 0 < size)
    (v : Value) (n : Nat) (xs : List Value) (hv : a.eval s = v) (hown : w.ownsRow base e size v n xs)
    (B : Nat) (A : Option Addr) (m c : Nat) (cs : List (List Value)) (hx : a.eval x = .slice A m c) (hr : RowAt w B size A cs) (hs : ∀ c ∈ cs, c.length = size) (hm : cs.length = m) (h1 : ∀ u ∈ cs.flatten, u.oneCell' = true)
    (h63 : n + m ≤ maxLen) (hbytes : (n + m) * bytes ≤ 140737488355328) (hbase : base ≤ w.heap.size)
    (h : ∀ A' c' w', w'.ownsRow base e size (.slice A' (n + m) c') (n + m) (xs ++ cs.flatten) → w.grownBy w' v.ownBlock → ((Value.slice A' (n + m) c').ownBlock = v.ownBlock ∨ (Value.slice A' (n + m) c').ownBlock = some w.heap.size) → wpList P ops Q rest (a.put o.dst (.slice A' (n + m) c')) w') : wpList P ops Q (o :: rest) a w :=
  wpList_plain hgd fun _ hK => wp_app w s x t ho e i z base size bytes ht hi hz hsize hby hzs hsz v n xs hv hown B A m c cs hx hr hs hm h1 h63 hbytes hbase fun A' c' w' h2 h3 h4 => hK _ _ (h A' c' w' h2 h3 h4)
/-- The same at a step of a region that draws its order. -/
theorem step_app {P : Program} (w : World) {ops : Array Oper} {o : Oper} {a : Act} {K : Act → World → Prop} {Q : Exit → Act → World → Prop} {E : Prop} (hgd : o.guard = none) (s x : Operand) (t : TypeId)
    (ho : o.op = .call { callee := .builtin .append, args := #[s, x], argTypes := #[t, t] })
    (e : TypeId) (i : TypeInfo) (z : Value) (base size bytes : Nat) (ht : P.underlying t = some (.slice e)) (hi : P.info? e = some i) (hz : i.zero = some z)
    (hsize : i.size = size) (hby : i.bytes = bytes) (hzs : z.cells.size = size) (hsz : 0 < size)
    (v : Value) (n : Nat) (xs : List Value) (hv : a.eval s = v) (hown : w.ownsRow base e size v n xs)
    (B : Nat) (A : Option Addr) (m c : Nat) (cs : List (List Value)) (hx : a.eval x = .slice A m c) (hr : RowAt w B size A cs) (hs : ∀ c ∈ cs, c.length = size) (hm : cs.length = m) (h1 : ∀ u ∈ cs.flatten, u.oneCell' = true)
    (h63 : n + m ≤ maxLen) (hbytes : (n + m) * bytes ≤ 140737488355328) (hbase : base ≤ w.heap.size)
    (h : ∀ A' c' w', w'.ownsRow base e size (.slice A' (n + m) c') (n + m) (xs ++ cs.flatten) → w.grownBy w' v.ownBlock → ((Value.slice A' (n + m) c').ownBlock = v.ownBlock ∨ (Value.slice A' (n + m) c').ownBlock = some w.heap.size) → K (a.put o.dst (.slice A' (n + m) c')) w') :
    if Region.wanted o (yielded ops a.tmps) = true then Oper.wp P o a w K Q else E := by
  have hw : Region.wanted o (yielded ops a.tmps) = true := by simp [Region.wanted, hgd]
  rw [if_pos hw]
  exact wp_app w s x t ho e i z base size bytes ht hi hz hsize hby hzs hsz v n xs hv hown B A m c cs hx hr hs hm h1 h63 hbytes hbase h
/-- One new block as a row of one element. -/
theorem rowAt_one {w : World} {B g t size : Nat} {fr : Nat × Nat} {l : List Value} (hb : w.heap[g]? = some (.cells l.toArray t fr)) (hB : g < B) : RowAt w B size (some ⟨g, 0, none⟩) [l] := by
  intro i c hc
  cases i with
  | zero =>
    simp at hc; subst hc
    refine ⟨g, 0, rfl, hB, fun j u hu => ?_⟩
    rw [show 0 + 0 * size + j = j from by omega, cell_of_row w g j _ t fr hb]
    simpa using hu
  | succ i => simp at hc

/-- The place of the first element of which q says yes; -1: there is none. -/
def idxOf {α : Type} (q : α → Bool) (l : List α) : Int := match l.findIdx? q with | some i => (i : Int) | none => -1
theorem idxOf_found {α : Type} {q : α → Bool} {l : List α} {k : Nat} (h : k < l.length) (hno : ∀ j (_ : j < k) (h' : j < l.length), q l[j] = false) (he : q l[k] = true) : idxOf q l = (k : Int) := by
  have : l.findIdx? q = some k := by
    rw [List.findIdx?_eq_some_iff_getElem]
    exact ⟨h, he, fun j hj => by simp [hno j hj (by omega)]⟩
  simp [idxOf, this]
theorem idxOf_none {α : Type} {q : α → Bool} {l : List α} (hno : ∀ j (h' : j < l.length), q l[j] = false) : idxOf q l = -1 := by
  have : l.findIdx? q = none := by
    rw [List.findIdx?_eq_none_iff]
    intro x hx
    obtain ⟨i, hi, rfl⟩ := List.getElem_of_mem hx
    exact hno i hi
  simp [idxOf, this]

theorem idxOf_first {α : Type} {q : α → Bool} {l : List α} {k : Nat} (h : idxOf q l = (k : Int)) : ∃ hk : k < l.length, q l[k] = true ∧ ∀ j (hj : j < k), q (l[j]'(by omega)) = false := by
  unfold idxOf at h
  cases hf : l.findIdx? q with
  | none => rw [hf] at h; simp only [] at h; omega
  | some i =>
    rw [hf] at h
    have : i = k := by simp only [] at h; omega
    subst this
    obtain ⟨h1, h2, h3⟩ := List.findIdx?_eq_some_iff_getElem.1 hf
    exact ⟨h1, h2, fun j hj => by simpa using h3 j hj⟩
theorem idxOf_no {α : Type} {q : α → Bool} {l : List α} (h : idxOf q l = -1) : ∀ j (hj : j < l.length), q l[j] = false := by
  unfold idxOf at h
  cases hf : l.findIdx? q with
  | none =>
    intro j hj
    rw [List.findIdx?_eq_none_iff] at hf
    exact hf _ (List.getElem_mem hj)
  | some i => rw [hf] at h; simp only [] at h; omega

theorem ret_int {k : IntKind} {a b : Int} (h : a = b) : Ending.returned (.int k a) = .returned (.int k b) := by rw [h]
theorem ret_bool {a b : Bool} (h : a = b) : Ending.returned (.bool a) = .returned (.bool b) := by rw [h]

end Go.Proofs.Ytimondpollbdfaa
