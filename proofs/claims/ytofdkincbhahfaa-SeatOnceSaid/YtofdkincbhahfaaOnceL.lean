/- What is proved: plain laws for SeatOnce: what a book, the last numbers and what was done say of each other; and how they lie in memory. -/
import Derived.Test.YtofdkincbhahfaaPutF
set_option linter.unusedVariables false
set_option linter.unusedSimpArgs false
namespace Go.Proofs.Ytofdkincbhahfaa
open Go.RowKit

/-- What the book d, the last numbers la and the list of what was done say of each other. -/
structure OInv (d : List Dat) (la : List Int) (dn : List Seen) : Prop where
  ok : OkD d
  len : la.length = 65
  no : ∀ c : Nat, c < 65 → getD d c = none → la[c]? = some 0
  yes : ∀ (c : Nat) (x : Dat), c < 65 → getD d c = some x → la[c]? = some x.2.1 ∧ ∃ t ∈ dn, t.dat = x
  uniq : ∀ x ∈ d, ∀ t ∈ dn, t.client = x.1 → t.seq = x.2.1 → t.dat = x
  old : ∀ t ∈ dn, ∀ c : Nat, t.client = c → ∀ v, la[c]? = some v → t.seq ≤ v
theorem oInv_nil : OInv [] (List.replicate 65 0) [] :=
  ⟨okD_nil, rfl, fun c hc _ => by rw [List.getElem?_replicate, if_pos hc], (fun c x _ h => by cases h), fun x hx => (List.not_mem_nil hx).elim, fun t ht => (List.not_mem_nil ht).elim⟩
theorem OInv.step {d : List Dat} {la : List Int} {dn : List Seen} (h : OInv d la dn) {s : Seen} {c : Nat} (hc : s.client = c) (hc1 : c < 65) (hr : rightB s.client s.seq = true) (hf : ∀ x, getD d s.client = some x → x.2.1 < s.seq) :
    OInv (mergeD d [s.dat]) (la.set c s.seq) (dn ++ [s]) := by
  have hs1 : (1 : Int) ≤ s.seq := by unfold rightB at hr; simp at hr; omega
  have hlc : c < la.length := by rw [h.len]; exact hc1
  have hdc : s.dat.1 = (c : Int) := hc
  have hlt : ∀ v, la[c]? = some v → v < s.seq := fun v hv => by
    cases hg : getD d s.client with
    | none => rw [hc] at hg; rw [h.no c hc1 hg] at hv; injection hv with hv; omega
    | some x =>
      have h1 := hf x hg
      rw [hc] at hg
      rw [(h.yes c x hc1 hg).1] at hv
      injection hv with hv
      omega
  refine ⟨mergeD_ok h.ok (okD_one hr), by rw [List.length_set]; exact h.len, fun c' hc' hg => ?_, fun c' x hc' hg => ?_, fun x hx t ht e1 e2 => ?_, fun t ht c' e1 v hv => ?_⟩
  · rw [getD_merge _ h.ok.2, hdc] at hg
    by_cases he : (c' : Int) = (c : Int)
    · rw [if_pos he] at hg; cases hg
    · rw [if_neg he] at hg
      rw [List.getElem?_set_ne (by omega)]
      exact h.no c' hc' hg
  · rw [getD_merge _ h.ok.2, hdc] at hg
    by_cases he : (c' : Int) = (c : Int)
    · have hcc : c' = c := by omega
      subst hcc
      rw [if_pos rfl] at hg
      have hx : x = s.dat := by
        injection hg with hg
        rw [← hg]
        cases hg2 : getD d (c' : Int) with
        | none => rfl
        | some y => exact pick_lt (hf y (by rw [hc]; exact hg2))
      subst hx
      refine ⟨by rw [List.getElem?_set_self hlc]; rfl, s, by simp, rfl⟩
    · rw [if_neg he] at hg
      obtain ⟨h1, t, ht, h2⟩ := h.yes c' x hc' hg
      exact ⟨by rw [List.getElem?_set_ne (by omega)]; exact h1, t, by simp [ht], h2⟩
  · rcases List.mem_append.1 ht with ht | ht
    · rcases mergeD_mem _ _ _ (Nat.le_refl _) x hx with hx | hx
      · exact h.uniq x hx t ht e1 e2
      · obtain rfl : x = s.dat := by simpa using hx
        have h1 : t.client = (c : Int) := e1.trans hdc
        have h2 := h.old t ht c h1 la[c] (List.getElem?_eq_getElem hlc)
        have h3 := hlt la[c] (List.getElem?_eq_getElem hlc)
        have h4 : t.seq = s.seq := e2
        omega
    · obtain rfl : t = s := by simpa using ht
      rcases mergeD_mem _ _ _ (Nat.le_refl _) x hx with hx | hx
      · have hg : getD d t.client = some x := getD_at h.ok.2 hx e1.symm
        have := hf x hg
        omega
      · exact (by simpa using hx : x = t.dat).symm
  · rcases List.mem_append.1 ht with ht | ht
    · by_cases he : c' = c
      · subst he
        rw [List.getElem?_set_self hlc] at hv
        injection hv with hv
        have h2 := h.old t ht c' e1 la[c'] (List.getElem?_eq_getElem hlc)
        have h3 := hlt la[c'] (List.getElem?_eq_getElem hlc)
        omega
      · rw [List.getElem?_set_ne (by omega)] at hv
        exact h.old t ht c' e1 v hv
    · obtain rfl : t = s := by simpa using ht
      obtain rfl : c' = c := by omega
      rw [List.getElem?_set_self hlc] at hv
      injection hv with hv
      omega
/-- What a look says of a session, and what is known then. -/
inductive OWay (d : List Dat) (la : List Int) (dn : List Seen) (s : Seen) : Prop
  | arg (h : lookD d s.client s.seq = noAns 1)
  | new (c : Nat) (v : Int) (hc : s.client = c) (hc0 : 1 ≤ c) (hc1 : c ≤ 64) (h : lookD d s.client s.seq = noAns 60) (hv : la[c]? = some v) (hlt : v < s.seq) (hp : (putD d s.dat).2 = 0) (hr : rightB s.client s.seq = true) (hf : ∀ x, getD d s.client = some x → x.2.1 < s.seq)
  | again (c : Nat) (t : Seen) (hc : s.client = c) (hc0 : 1 ≤ c) (hc1 : c ≤ 64) (ht : t ∈ dn) (h1 : t.client = s.client) (h2 : t.seq = s.seq) (h : lookD d s.client s.seq = ⟨t.err, t.time, t.jobs, 0⟩) (hv : la[c]? = some s.seq) (hu : ∀ u ∈ dn, u.client = s.client → u.seq = s.seq → u.dat = t.dat)
  | stale (c : Nat) (v : Int) (hc : s.client = c) (hc0 : 1 ≤ c) (hc1 : c ≤ 64) (h : lookD d s.client s.seq = noAns 160) (hv : la[c]? = some v) (hlt : s.seq < v)
theorem OInv.way {d : List Dat} {la : List Int} {dn : List Seen} (h : OInv d la dn) (s : Seen) : OWay d la dn s := by
  have hok := tr_true h.ok
  have hn : ¬ tr (OkD d) = false := by rw [hok]; decide
  cases hr : rightB s.client s.seq
  · exact .arg (by unfold lookD; rw [if_neg hn, if_pos hr])
  have hr2 : ¬ rightB s.client s.seq = false := by rw [hr]; decide
  have hb := hr
  unfold rightB at hb
  simp at hb
  obtain ⟨c, hc⟩ : ∃ c : Nat, s.client = (c : Int) := ⟨s.client.toNat, by omega⟩
  have hc0 : 1 ≤ c := by omega
  have hc1 : c ≤ 64 := by omega
  cases hg : getD d s.client with
  | none =>
    have hf : ∀ x, getD d s.client = some x → x.2.1 < s.seq := fun x hx => by rw [hg] at hx; cases hx
    refine .new c 0 hc hc0 hc1 (by unfold lookD; rw [if_neg hn, if_neg hr2, hg]) (h.no c (by omega) (by rw [← hc]; exact hg)) (by omega) ?_ hr hf
    rw [putD_ok hok hr hf]
  | some x =>
    obtain ⟨h1, t, ht, h2⟩ := h.yes c x (by omega) (by rw [← hc]; exact hg)
    obtain ⟨hx, hxc⟩ := getD_some hg
    rcases Int.lt_trichotomy x.2.1 s.seq with h3 | h3 | h3
    · have hf : ∀ y, getD d s.client = some y → y.2.1 < s.seq := fun y hy => by rw [hg] at hy; injection hy with hy; rw [← hy]; exact h3
      refine .new c x.2.1 hc hc0 hc1 (by unfold lookD; rw [if_neg hn, if_neg hr2, hg]; simp only; rw [if_pos h3]) h1 h3 ?_ hr hf
      rw [putD_ok hok hr hf]
    · subst h2
      refine .again c t hc hc0 hc1 ht hxc h3 (by unfold lookD; rw [if_neg hn, if_neg hr2, hg]; simp only; rw [if_neg (by omega), if_neg (by omega)]; rfl) (by rw [h1, h3]) (fun u hu e1 e2 => h.uniq _ hx u hu (e1.trans hxc.symm) (e2.trans h3.symm))
    · exact .stale c x.2.1 hc hc0 hc1 (by unfold lookD; rw [if_neg hn, if_neg hr2, hg]; simp only; rw [if_neg (by omega), if_pos h3]) h1 h3
/-- How the book, the last numbers and what was done lie in memory. -/
structure OSt (w : World) (g : Nat) (wr : World) (M : Option Addr) (mc : Nat) (m : List Seen) (la : List Int) (D : Option Addr) (dc : Nat) (dn : List Seen) : Prop where
  book : BookIn wr M mc m
  off : OffB g M m
  offd : ∀ q, (Value.slice D dn.length dc).ownBlock = some q → OffB q M m
  last : wr.ownsRow w.heap.size 2 1 (.slice (some ⟨g, 0, none⟩) 65 65) 65 (la.map (fun n => Value.int .i64 n))
  done : wr.ownsRow w.heap.size 28 5 (.slice D dn.length dc) dn.length (dn.map Seen.cells).flatten
  bel : Below w.heap.size w wr
section
variable {w wr : World} {g : Nat} {M : Option Addr} {mc : Nat} {m : List Seen} {la : List Int} {D : Option Addr} {dc : Nat} {dn : List Seen}
theorem OSt.below (h : OSt w g wr M mc m la D dc dn) {w' : World} (hb : Below wr.heap.size wr w') : OSt w g w' M mc m la D dc dn :=
  ⟨h.book.below hb, h.off, h.offd, own_only h.last (Only.of_below (F := fun _ => False) hb) (fun _ _ h => h), own_only h.done (Only.of_below (F := fun _ => False) hb) (fun _ _ h => h), h.bel.trans (hb.mono h.bel.size)⟩
theorem OSt.apart (h : OSt w g wr M mc m la D dc dn) {q : Nat} (hq : (Value.slice D dn.length dc).ownBlock = some q) : q ≠ g := by
  rintro rfl
  rcases h.last.2 with ⟨h1, _⟩ | ⟨q1, cap1, cur1, h1, _, hg1, _⟩
  · injection h1 with h1; cases h1
  · rcases h.done.2 with ⟨h2, _⟩ | ⟨q2, cap2, cur2, h2, _, hg2, _⟩
    · rw [h2] at hq; cases hq
    · injection h1 with h1
      injection h1 with h1
      injection h1 with h1
      rw [h2] at hq
      injection hq with hq
      subst h1
      have hq : q2 = _ := hq
      rw [hq] at hg2
      rw [hg1] at hg2
      injection hg2 with hg2
      injection hg2 with _ hg3
      cases hg3
theorem OSt.put (h : OSt w g wr M mc m la D dc dn) {w' : World} {M' : Option Addr} {mc' : Nat} {m' : List Seen} (hI : BookIn w' M' mc' m') (hN : ∀ q, q < wr.heap.size → OffB q M' m') (hb : Below wr.heap.size wr w') : OSt w g w' M' mc' m' la D dc dn := by
  have h1 := h.below hb
  exact ⟨hI, hN g (h.last.lt g rfl).2, fun q hq => hN q (h.done.lt q hq).2, h1.last, h1.done, h1.bel⟩
theorem OSt.store (h : OSt w g wr M mc m la D dc dn) (c : Nat) (q : Int) : OSt w g (wr.setCell ⟨g, c, none⟩ (.int .i64 q)) M mc m (la.set c q) D dc dn := by
  have ho := only_setCell wr ⟨g, c, none⟩ (.int .i64 q)
  refine ⟨h.book.only ho (fun k hk => by have hk : k = g := hk; subst hk; exact h.off), h.off, h.offd, ?_, own_only h.done ho (fun k hk he => h.apart hk he), ho.below h.bel (fun k hk => by have hk : k = g := hk; have := (h.last.lt g rfl).1; omega) h.bel.size⟩
  have := (h.last.stored c (.int .i64 q)).1
  rw [List.map_set]
  exact this
theorem OSt.app (h : OSt w g wr M mc m la D dc dn) {w' : World} {D' : Option Addr} {dc' : Nat} (s : Seen) (hO : w'.ownsRow w.heap.size 28 5 (.slice D' (dn.length + 1) dc') (dn.length + 1) ((dn.map Seen.cells).flatten ++ [s.cells].flatten)) (hg : wr.grownBy w' (Value.slice D dn.length dc).ownBlock)
    (hat : (Value.slice D' (dn.length + 1) dc').ownBlock = (Value.slice D dn.length dc).ownBlock ∨ (Value.slice D' (dn.length + 1) dc').ownBlock = some wr.heap.size) : OSt w g w' M mc m la D' dc' (dn ++ [s]) := by
  have ho : Only (fun k => (Value.slice D dn.length dc).ownBlock = some k) wr w' := Only.of_grown hg (fun k hk _ => hk)
  have hl : (dn ++ [s]).length = dn.length + 1 := by simp
  refine ⟨h.book.only ho h.offd, h.off, fun q hq => ?_, own_only h.last ho (fun k hk he => ?_), ?_, ho.below h.bel (fun k hk => (h.done.lt k hk).1) h.bel.size⟩
  · rw [hl] at hq
    rcases hat with h1 | h1
    · exact h.offd q (by rw [← h1]; exact hq)
    · rw [h1] at hq
      injection hq with hq
      exact offB_new h.book (by omega)
  · have hk : g = k := by simpa [Value.ownBlock] using hk
    exact h.apart he hk.symm
  · rw [hl, List.map_append, List.flatten_append]
    exact hO
theorem OSt.cell (h : OSt w g wr M mc m la D dc dn) {c : Nat} {v : Int} (hv : la[c]? = some v) : wr.cell? ⟨g, c, none⟩ = some (.int .i64 v) := by
  have := h.last.cells (g := g) rfl c (.int .i64 v) (by simp [hv])
  rw [addr_add, Nat.zero_add] at this
  exact this
end
/-- Whether one of the first j that were done is of this client and number. -/
def fnd (dn : List Seen) (s : Seen) (j : Nat) : Bool := (dn.take j).any (fun t => t.client == s.client && t.seq == s.seq)
theorem fnd_succ {dn : List Seen} {s : Seen} {j : Nat} (h : j < dn.length) : fnd dn s (j + 1) = (fnd dn s j || (dn[j].client == s.client && dn[j].seq == s.seq)) := by
  unfold fnd
  rw [List.take_succ_eq_append_getElem h, List.any_append]
  simp
theorem fnd_all {dn : List Seen} {s t : Seen} (ht : t ∈ dn) (h1 : t.client = s.client) (h2 : t.seq = s.seq) : fnd dn s dn.length = true := by
  unfold fnd
  rw [List.take_length, List.any_eq_true]
  exact ⟨t, ht, by simp [h1, h2]⟩
theorem info2 : (Try.prog.info? 2).map (fun i => (i.zero, i.size, i.bytes)) = some (some (.int .i64 0), 1, 8) := by kernel_rfl
theorem made65 : (madeCells (Value.int .i64 0).cells (65 * 1)).toList = (List.replicate 65 (0 : Int)).map (fun n => Value.int .i64 n) := by kernel_rfl
end Go.Proofs.Ytofdkincbhahfaa
