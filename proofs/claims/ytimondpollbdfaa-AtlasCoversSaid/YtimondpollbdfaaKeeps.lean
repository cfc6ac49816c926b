/- What is proved: a right map, in plain words on lists of spans; what keeps it right. -/
import Derived.Test.YtimondpollbdfaaBegin14
import Derived.Test.YtimondpollbdfaaAdv17C
import Derived.Test.YtimondpollbdfaaAbort
import Derived.Test.YtimondpollbdfaaAwakeA
set_option linter.unusedVariables false
set_option linter.unusedSimpArgs false
namespace Go.Proofs.Ytimondpollbdfaa
open Go.RowKit

theorem noMap_at (w : World) {m : Atl} (h : m.sp = []) (hk : m.plan.key = ⟨#[]⟩) : MapIn w none 0 m := by
  refine ⟨?_, ?_, by decide, fun s hs => ?_, ?_⟩
  · rw [h]; exact rowAt_nil _ _ _ _
  · rw [h]; exact Nat.zero_le _
  · rw [h] at hs; cases hs
  · rw [hk]; decide
theorem key0 : (⟨#[]⟩ : ByteArray).size ≤ 9223372036854775807 := by decide
/-- A row of spans does not lie in a map's own block: so a store of a whole map leaves it. -/
theorem MapIn.setMap {w w' : World} {A : Option Addr} {cap b : Nat} {R m : Atl} {v : Value} (h : MapIn w A cap R) (hb : w.heap[b]? = some (m.blk v)) (ho : Only (· = b) w w') : MapIn w' A cap R := by
  refine ⟨?_, h.ncap, h.cmax, h.sz, h.key⟩
  intro i c hi
  obtain ⟨b', off, hA, hlt, hc⟩ := h.row i c hi
  have hne : b' ≠ b := by
    intro he
    subst he
    rw [List.getElem?_map] at hi
    obtain ⟨s, _, hs⟩ := Option.map_eq_some_iff.1 hi
    subst hs
    have h0 := hc 0 (.string s.fr) rfl
    have h1 := hc 1 (.string s.to) rfl
    simp only [World.cell?, hb, Atl.blk] at h0 h1
    generalize off + i * 5 + 0 = n at h0 h1
    match n, h0, h1 with
    | 0, h0, _ => simp at h0
    | 1, h0, _ => simp at h0
    | 2, h0, h1 => simp at h1
    | 3, h0, _ => simp at h0
    | 4, h0, _ => simp at h0
    | 5, h0, _ => simp at h0
    | 6, h0, _ => simp at h0
    | 7, h0, _ => simp at h0
    | 8, h0, _ => simp at h0
    | 9, h0, _ => simp at h0
    | 10, _, h1 => simp at h1
    | n + 11, h0, _ => simp at h0
  exact ⟨b', off, hA, Nat.lt_of_lt_of_le hlt ho.size, fun j u hu => (ho.cell (p := ⟨b', off + i * 5 + j, none⟩) hlt hne).trans (hc j u hu)⟩
/-- What such a function hands back: a map that lies somewhere, and a number. -/
def GivesMap (f : FuncId) (args : Value → Array Value) (A : Option Addr) (cap : Nat) (a : Atl) (R : Atl) (n : Int) : Prop :=
  ∀ w, MapIn w A cap a → Calls Try.prog f (args (a.val (.slice A a.sp.length cap))) w fun e w' => ∃ A' cap', e = .returned (.tuple #[R.val (.slice A' R.sp.length cap'), .int .i64 n]) ∧ MapIn w' A' cap' R ∧ Below w.heap.size w w'
theorem place_ex (l : List Span) (x : Int) : place l x = -1 ∨ ∃ k : Nat, ∃ hk : k < l.length, place l x = (k : Int) ∧ l[k].sh = x := by
  unfold place
  cases h : l.findIdx? (hasSh x) with
  | none => exact .inl (by simp [idxOf, h])
  | some k =>
    have he : idxOf (hasSh x) l = (k : Int) := by simp [idxOf, h]
    obtain ⟨hk, hq, _⟩ := idxOf_first he
    exact .inr ⟨k, hk, he, by unfold hasSh at hq; simpa using hq⟩
/-- A right map with a plan: where its shard lies. -/
theorem plan_place {a : Atl} (hok : MapOk a) (h : (a.plan.kind == 0) = false) : ∃ k : Nat, ∃ hk : k < a.sp.length, place a.sp a.plan.shard = (k : Int) ∧ PlanAt a k a.sp[k] := by
  rcases hok.2.2.2.2.2 with hz | ⟨k, hk, hp, hpl⟩
  · exfalso
    unfold isZ eqP at hz
    simp only [Bool.and_eq_true] at hz
    have : (a.plan.kind == 0) = true := hz.1.1.1.1.1.1.1
    rw [this] at h; cases h
  · exact ⟨k, hk, hp, hpl⟩
theorem ba_ext {a b : ByteArray} (h : a.toList = b.toList) : a = b := by
  rw [ByteArray.toList_eq, ByteArray.toList_eq] at h
  obtain ⟨⟨a⟩⟩ := a
  obtain ⟨⟨b⟩⟩ := b
  have h : a = b := h
  rw [h]
theorem place_neg {l : List Span} {x : Int} (h : place l x < 0) : ∀ s ∈ l, ¬ s.sh = x := by
  intro s hs he
  unfold place idxOf at h
  cases hf : l.findIdx? (hasSh x) with
  | none =>
    have := List.findIdx?_eq_none_iff.1 hf s hs
    unfold hasSh at this
    simp [he] at this
  | some k => rw [hf] at h; simp at h; omega
theorem place_no {l : List Span} {x : Int} (h : ∀ s ∈ l, ¬ s.sh = x) : place l x = -1 := by
  rcases place_ex l x with h1 | ⟨k, hk, _, he⟩
  · exact h1
  · exact absurd he (h _ (List.getElem_mem hk))
theorem nodup_of {l : List Span} (h : ∀ i (h : i < l.length), place l l[i].sh = (i : Int)) : (l.map Span.sh).Nodup := by
  unfold List.Nodup
  rw [List.pairwise_iff_getElem]
  intro i j hi hj hij he
  simp only [List.length_map] at hi hj
  simp only [List.getElem_map] at he
  have h1 := h i hi
  have h2 := h j hj
  rw [he, h2] at h1
  omega
theorem place_at {l : List Span} (hd : (l.map Span.sh).Nodup) (k : Nat) (hk : k < l.length) : place l l[k].sh = (k : Int) := by
  refine idxOf_found hk (fun j hj hj' => ?_) (by unfold hasSh; simp)
  unfold List.Nodup at hd
  rw [List.pairwise_iff_getElem] at hd
  have := hd j k (by simpa using hj') (by simpa using hk) hj
  simp only [List.getElem_map] at this
  unfold hasSh
  simpa using this
def Fine (groups last : Int) (s : Span) : Prop := 1 ≤ s.sh ∧ s.sh ≤ last ∧ 1 ≤ s.ep ∧ s.ep ≤ 1099511627776 ∧ 1 ≤ s.gr ∧ s.gr ≤ groups
/-- Spans lie one behind the other, from f on to the end. -/
def Cov : List UInt8 → List Span → Prop
  | _, [] => False
  | f, s :: r => s.fr.toList = f ∧ ((r = [] ∧ s.to.toList = []) ∨ (r ≠ [] ∧ named s.to = true ∧ sLt s.fr s.to = true ∧ Cov s.to.toList r))
theorem cov_iff : ∀ (l : List Span) (f : List UInt8), Cov f l ↔ ∃ h : 0 < l.length, l[0].fr.toList = f ∧ (l[l.length - 1]'(by omega)).to.toList = [] ∧ ∀ i, Link l i
  | [], f => ⟨fun h => h.elim, fun ⟨h, _⟩ => absurd h (by simp)⟩
  | [s], f => by
    constructor
    · rintro ⟨h1, ⟨_, h2⟩ | ⟨h2, _⟩⟩
      · exact ⟨by simp, h1, h2, fun i hi => absurd hi (by simp)⟩
      · exact absurd rfl h2
    · rintro ⟨_, h1, h2, _⟩
      exact ⟨h1, .inl ⟨rfl, h2⟩⟩
  | s :: t :: r, f => by
    have ih := cov_iff (t :: r) s.to.toList
    constructor
    · rintro ⟨h1, ⟨h2, _⟩ | ⟨_, h2, h3, h4⟩⟩
      · cases h2
      · obtain ⟨_, e1, e2, e3⟩ := ih.1 h4
        refine ⟨by simp, h1, ?_, fun i => ?_⟩
        · simpa using e2
        · cases i with
          | zero => exact fun _ => ⟨h2, h3, e1⟩
          | succ i => exact fun hi => e3 i (by simpa using hi)
    · rintro ⟨_, h1, h2, h3⟩
      have h0 := h3 0 (by simp)
      refine ⟨h1, .inr ⟨by simp, h0.1, h0.2.1, ih.2 ⟨by simp, h0.2.2, by simpa using h2, fun i hi => h3 (i + 1) (by simpa using hi)⟩⟩⟩
theorem covers_iff {l : List Span} : CoversOk l ↔ l.length ≤ 16 ∧ Cov [] l := by
  unfold CoversOk
  rw [cov_iff]
theorem cov_swap {X Y : List Span} (hX : X ≠ []) (hY : Y ≠ []) (h : ∀ g, Cov g X → Cov g Y) : ∀ (p : List Span) (f : List UInt8), Cov f (p ++ X) → Cov f (p ++ Y)
  | [], f => h f
  | s :: p, f => by
    rintro ⟨h1, ⟨h2, _⟩ | ⟨_, h2, h3, h4⟩⟩
    · simp [hX] at h2
    · exact ⟨h1, .inr ⟨by simp [hY], h2, h3, cov_swap hX hY h p _ h4⟩⟩
theorem cov_same {s s' : Span} {r : List Span} (h1 : s'.fr = s.fr) (h2 : s'.to = s.to) (g : List UInt8) : Cov g (s :: r) → Cov g (s' :: r) := by
  unfold Cov
  rw [h1, h2]
  exact id
theorem named_isE {x : ByteArray} (h : named x = true) : isE x = false := by
  unfold named at h
  simp only [Bool.and_eq_true] at h
  have h1 : 1 ≤ x.size := by simpa using h.1.2
  unfold isE
  have : ¬ x.toList = [] := by
    intro he
    rw [ByteArray.toList_eq] at he
    have h2 : x.data.size = 0 := by rw [Array.toList_eq_nil_iff] at he; rw [he]; rfl
    have : x.size = x.data.size := rfl
    omega
  simpa using this
theorem cov_split {s : Span} {r : List Span} {key : ByteArray} {o e1 e2 g1 g2 : Int} (hi : inside s key = true) (g : List UInt8) (h : Cov g (s :: r)) : Cov g ((⟨s.fr, key, s.sh, e1, g1⟩ : Span) :: (⟨key, s.to, o, e2, g2⟩ : Span) :: r) := by
  unfold inside at hi
  simp only [Bool.and_eq_true, Bool.or_eq_true] at hi
  obtain ⟨⟨hn, hlt⟩, hto⟩ := hi
  obtain ⟨h1, h2⟩ := h
  refine ⟨h1, .inr ⟨by simp, hn, hlt, rfl, ?_⟩⟩
  rcases h2 with ⟨h2, h3⟩ | ⟨h2, h3, h4, h5⟩
  · exact .inl ⟨h2, h3⟩
  · refine .inr ⟨h2, h3, ?_, h5⟩
    rcases hto with h | h
    · rw [named_isE h3] at h; cases h
    · exact h
theorem cov_join {s u : Span} {r : List Span} {e g1 : Int} (g : List UInt8) (h : Cov g (s :: u :: r)) : Cov g ((⟨s.fr, u.to, s.sh, e, g1⟩ : Span) :: r) := by
  obtain ⟨h1, ⟨h2, _⟩ | ⟨_, h2, h3, h4, h5⟩⟩ := h
  · cases h2
  refine ⟨h1, ?_⟩
  rcases h5 with ⟨h5, h6⟩ | ⟨h5, h6, h7, h8⟩
  · exact .inl ⟨h5, h6⟩
  · refine .inr ⟨h5, h6, ?_, h8⟩
    rw [← ba_ext h4] at h3
    exact sLt_trans h3 h7
/-- A right map. -/
theorem mapOk_iff {a : Atl} : MapOk a ↔ (1 ≤ a.groups ∧ a.groups ≤ 8 ∧ a.last ≤ 1099511627776) ∧ (a.sp.length ≤ 16 ∧ Cov [] a.sp) ∧ ((a.sp.map Span.sh).Nodup ∧ ∀ s ∈ a.sp, Fine a.groups a.last s) ∧ PlanOk a := by
  unfold MapOk
  rw [covers_iff]
  constructor
  · rintro ⟨h1, h2, h3, h4, h5, h6⟩
    refine ⟨⟨h1, h2, h3⟩, h4, ⟨nodup_of fun i hi => (h5 i hi).2.2.1, fun s hs => ?_⟩, h6⟩
    obtain ⟨i, hi, rfl⟩ := List.getElem_of_mem hs
    obtain ⟨e1, e2, _, e3, e4, e5, e6⟩ := h5 i hi
    exact ⟨e1, e2, e3, e4, e5, e6⟩
  · rintro ⟨⟨h1, h2, h3⟩, h4, ⟨h5, h6⟩, h7⟩
    refine ⟨h1, h2, h3, h4, fun i hi => ?_, h7⟩
    obtain ⟨e1, e2, e3, e4, e5, e6⟩ := h6 _ (List.getElem_mem hi)
    exact ⟨e1, e2, place_at h5 i hi, e3, e4, e5, e6⟩
theorem isZ_zero : isZ zeroP = true := by simp [isZ, eqP, zeroP]
/-- Of one shard: the epoch doesn't fall, and where the group changes it rises. -/
def Grows (l l' : List Span) : Prop := ∀ s ∈ l, ∀ t ∈ l', t.sh = s.sh → s.ep ≤ t.ep ∧ (t.gr = s.gr ∨ s.ep < t.ep)
theorem nodup_mem {l : List Span} (hd : (l.map Span.sh).Nodup) {s t : Span} (hs : s ∈ l) (ht : t ∈ l) (h : t.sh = s.sh) : t = s := by
  obtain ⟨i, hi, rfl⟩ := List.getElem_of_mem hs
  obtain ⟨j, hj, rfl⟩ := List.getElem_of_mem ht
  have h1 := place_at hd i hi
  have h2 := place_at hd j hj
  rw [h, h1] at h2
  have : i = j := by omega
  subst this; rfl
theorem grows_refl {l : List Span} (hd : (l.map Span.sh).Nodup) : Grows l l := by
  intro s hs t ht h
  rw [nodup_mem hd hs ht h]
  exact ⟨Int.le_refl _, .inl rfl⟩
/-- The list about its place k. -/
theorem about (l : List Span) (k : Nat) (hk : k < l.length) : l = l.take k ++ l[k] :: l.drop (k + 1) := by
  rw [← List.drop_eq_getElem_cons hk, List.take_append_drop]
theorem about2 (l : List Span) (k : Nat) (hk : k + 1 < l.length) : l = l.take k ++ l[k] :: l[k+1] :: l.drop (k + 2) := by
  have h1 := about l k (by omega)
  rw [List.drop_eq_getElem_cons hk] at h1
  exact h1

/-- One span changed in its epoch and its group. -/
theorem set_keeps {a : Atl} (hok : MapOk a) (k : Nat) (hk : k < a.sp.length) (s s' : Span) (hs : a.sp[k] = s) (h1 : s'.fr = s.fr) (h2 : s'.to = s.to) (h3 : s'.sh = s.sh) (h4 : s.ep ≤ s'.ep) (h5 : s'.ep ≤ 1099511627776) (h6 : 1 ≤ s'.gr) (h7 : s'.gr ≤ a.groups) (h8 : s'.gr = s.gr ∨ s.ep < s'.ep) (q : Plan) (hq : PlanOk { a with sp := a.sp.set k s', plan := q }) :
    MapOk { a with sp := a.sp.set k s', plan := q } ∧ Grows a.sp (a.sp.set k s') := by
  obtain ⟨e1, ⟨e2, e3⟩, ⟨e4, e5⟩, _⟩ := mapOk_iff.1 hok
  have hab := about a.sp k hk
  rw [hs] at hab
  have hset := set_parts a.sp k s' hk
  have hm : (a.sp.set k s').map Span.sh = a.sp.map Span.sh := by
    rw [hset, List.map_append, List.map_cons, h3]
    conv => rhs; rw [hab, List.map_append, List.map_cons]
  have hfs := e5 s (hs ▸ List.getElem_mem hk)
  have hmem : ∀ t ∈ a.sp.set k s', t ∈ a.sp ∨ t = s' := fun t ht => List.mem_or_eq_of_mem_set ht
  refine ⟨mapOk_iff.2 ⟨e1, ⟨?_, ?_⟩, ⟨?_, ?_⟩, hq⟩, ?_⟩
  · show (a.sp.set k s').length ≤ 16
    rw [List.length_set]; exact e2
  · show Cov [] (a.sp.set k s')
    rw [hset]
    rw [hab] at e3
    exact cov_swap (by simp) (by simp) (fun g => cov_same h1 h2 g) _ _ e3
  · show ((a.sp.set k s').map Span.sh).Nodup
    rw [hm]; exact e4
  · intro t ht
    rcases hmem t ht with h | rfl
    · exact e5 t h
    · exact ⟨h3 ▸ hfs.1, h3 ▸ hfs.2.1, Int.le_trans hfs.2.2.1 h4, h5, h6, h7⟩
  · intro x hx t ht he
    rcases hmem t ht with h | rfl
    · exact grows_refl e4 x hx t h he
    · have : s = x := nodup_mem e4 hx (hs ▸ List.getElem_mem hk) (h3 ▸ he)
      subst this
      exact ⟨h4, h8⟩
/-- A new plan, the spans as they were. -/
theorem plan_keeps {a : Atl} (hok : MapOk a) (q : Plan) (l : Int) (h1 : a.last ≤ l) (h2 : l ≤ 1099511627776) (hq : PlanOk { a with plan := q, last := l }) : MapOk { a with plan := q, last := l } := by
  obtain ⟨⟨e0, e1, e2⟩, e3, ⟨e4, e5⟩, _⟩ := mapOk_iff.1 hok
  refine mapOk_iff.2 ⟨⟨e0, e1, h2⟩, e3, ⟨e4, fun s hs => ?_⟩, hq⟩
  obtain ⟨f1, f2, f3⟩ := e5 s hs
  exact ⟨f1, Int.le_trans f2 h1, f3⟩
/-- A span parted. -/
theorem split_keeps {a : Atl} (hok : MapOk a) (k : Nat) (hk : k < a.sp.length) (s : Span) (hs : a.sp[k] = s) (hi : inside s a.plan.key = true) (hl : a.sp.length < 16) (hep : s.ep ≤ 1099511627774) (ho : a.plan.other = a.last) (hn : place a.sp a.plan.other < 0) :
    MapOk { a with sp := (a.sp.take k ++ (⟨s.fr, a.plan.key, s.sh, s.ep + 1, s.gr⟩ : Span) :: (⟨a.plan.key, s.to, a.plan.other, s.ep + 1, s.gr⟩ : Span) :: a.sp.drop (k + 1)), plan := zeroP } ∧ Grows a.sp (a.sp.take k ++ (⟨s.fr, a.plan.key, s.sh, s.ep + 1, s.gr⟩ : Span) :: (⟨a.plan.key, s.to, a.plan.other, s.ep + 1, s.gr⟩ : Span) :: a.sp.drop (k + 1)) := by
  obtain ⟨e1, ⟨e2, e3⟩, ⟨e4, e5⟩, _⟩ := mapOk_iff.1 hok
  have hab := about a.sp k hk
  rw [hs] at hab
  have hsm : s ∈ a.sp := hs ▸ List.getElem_mem hk
  have hfs := e5 s hsm
  have hno := place_neg hn
  have hmem : ∀ t ∈ a.sp.take k ++ (⟨s.fr, a.plan.key, s.sh, s.ep + 1, s.gr⟩ : Span) :: (⟨a.plan.key, s.to, a.plan.other, s.ep + 1, s.gr⟩ : Span) :: a.sp.drop (k + 1), t ∈ a.sp ∨ t = ⟨s.fr, a.plan.key, s.sh, s.ep + 1, s.gr⟩ ∨ t = ⟨a.plan.key, s.to, a.plan.other, s.ep + 1, s.gr⟩ := by
    intro t ht
    simp only [List.mem_append, List.mem_cons] at ht
    rcases ht with h | h | h | h
    · exact .inl (List.mem_of_mem_take h)
    · exact .inr (.inl h)
    · exact .inr (.inr h)
    · exact .inl (List.mem_of_mem_drop h)
  have hlast : 1 ≤ a.last := Int.le_trans hfs.1 hfs.2.1
  refine ⟨mapOk_iff.2 ⟨e1, ⟨?_, ?_⟩, ⟨?_, ?_⟩, .inl isZ_zero⟩, ?_⟩
  · show (a.sp.take k ++ _ :: _ :: a.sp.drop (k + 1)).length ≤ 16
    simp only [List.length_append, List.length_take, List.length_cons, List.length_drop]
    omega
  · show Cov [] (a.sp.take k ++ _ :: _ :: a.sp.drop (k + 1))
    rw [hab] at e3
    exact cov_swap (by simp) (by simp) (fun g => cov_split hi g) _ _ e3
  · show ((a.sp.take k ++ (⟨s.fr, a.plan.key, s.sh, s.ep + 1, s.gr⟩ : Span) :: (⟨a.plan.key, s.to, a.plan.other, s.ep + 1, s.gr⟩ : Span) :: a.sp.drop (k + 1)).map Span.sh).Nodup
    have hp : ((a.sp.take k ++ (⟨s.fr, a.plan.key, s.sh, s.ep + 1, s.gr⟩ : Span) :: (⟨a.plan.key, s.to, a.plan.other, s.ep + 1, s.gr⟩ : Span) :: a.sp.drop (k + 1)).map Span.sh).Perm (a.plan.other :: a.sp.map Span.sh) := by
      conv => rhs; rw [hab]
      simp only [List.map_append, List.map_cons]
      rw [List.append_cons]
      refine List.perm_middle.trans ?_
      rw [← List.append_cons]
    rw [hp.nodup_iff, List.nodup_cons]
    refine ⟨fun h => ?_, e4⟩
    obtain ⟨t, ht, he⟩ := List.mem_map.1 h
    exact hno t ht he
  · intro t ht
    obtain ⟨f1, f2, f3, f4, f5, f6⟩ := hfs
    rcases hmem t ht with h | rfl | rfl
    · exact e5 t h
    · exact ⟨f1, f2, by show 1 ≤ s.ep + 1; omega, by show s.ep + 1 ≤ _; omega, f5, f6⟩
    · exact ⟨by show 1 ≤ a.plan.other; omega, by show a.plan.other ≤ a.last; omega, by show 1 ≤ s.ep + 1; omega, by show s.ep + 1 ≤ _; omega, f5, f6⟩
  · intro x hx t ht he
    rcases hmem t ht with h | rfl | rfl
    · exact grows_refl e4 x hx t h he
    · have : s = x := nodup_mem e4 hx hsm he
      subst this
      exact ⟨by show s.ep ≤ s.ep + 1; omega, .inl rfl⟩
    · exact absurd he.symm (hno x hx)
/-- Two spans joined. -/
theorem join_keeps {a : Atl} (hok : MapOk a) (k : Nat) (hk : k + 1 < a.sp.length) (s u : Span) (hs : a.sp[k] = s) (hu : a.sp[k+1] = u) (e : Int) (h1 : s.ep ≤ e) (h2 : e ≤ 1099511627776) :
    MapOk { a with sp := (a.sp.take k ++ (⟨s.fr, u.to, s.sh, e, s.gr⟩ : Span) :: a.sp.drop (k + 2)), plan := zeroP } ∧ Grows a.sp (a.sp.take k ++ (⟨s.fr, u.to, s.sh, e, s.gr⟩ : Span) :: a.sp.drop (k + 2)) := by
  obtain ⟨e1, ⟨e2, e3⟩, ⟨e4, e5⟩, _⟩ := mapOk_iff.1 hok
  have hab := about2 a.sp k hk
  rw [hs, hu] at hab
  have hsm : s ∈ a.sp := hs ▸ List.getElem_mem (Nat.lt_of_succ_lt hk)
  have hfs := e5 s hsm
  have hmem : ∀ t ∈ a.sp.take k ++ (⟨s.fr, u.to, s.sh, e, s.gr⟩ : Span) :: a.sp.drop (k + 2), t ∈ a.sp ∨ t = ⟨s.fr, u.to, s.sh, e, s.gr⟩ := by
    intro t ht
    simp only [List.mem_append, List.mem_cons] at ht
    rcases ht with h | h | h
    · exact .inl (List.mem_of_mem_take h)
    · exact .inr h
    · exact .inl (List.mem_of_mem_drop h)
  refine ⟨mapOk_iff.2 ⟨e1, ⟨?_, ?_⟩, ⟨?_, ?_⟩, .inl isZ_zero⟩, ?_⟩
  · show (a.sp.take k ++ _ :: a.sp.drop (k + 2)).length ≤ 16
    simp only [List.length_append, List.length_take, List.length_cons, List.length_drop]
    omega
  · show Cov [] (a.sp.take k ++ _ :: a.sp.drop (k + 2))
    rw [hab] at e3
    exact cov_swap (by simp) (by simp) (fun g => cov_join g) _ _ e3
  · show ((a.sp.take k ++ (⟨s.fr, u.to, s.sh, e, s.gr⟩ : Span) :: a.sp.drop (k + 2)).map Span.sh).Nodup
    rw [hab] at e4
    refine e4.sublist ?_
    simp only [List.map_append, List.map_cons]
    exact (List.Sublist.refl _).append ((List.sublist_cons_self _ _).cons_cons _)
  · intro t ht
    rcases hmem t ht with h | rfl
    · exact e5 t h
    · exact ⟨hfs.1, hfs.2.1, Int.le_trans hfs.2.2.1 h1, h2, hfs.2.2.2.2⟩
  · intro x hx t ht he
    rcases hmem t ht with h | rfl
    · exact grows_refl e4 x hx t h he
    · have : s = x := nodup_mem e4 hx hsm he
      subst this
      exact ⟨h1, .inl rfl⟩

theorem move_ok (groups g past ph ep : Int) (s : Span) (h1 : 1 ≤ g) (h2 : g ≤ groups) (h3 : 1 ≤ past) (h4 : past ≤ groups) (h5 : ¬ g = past) (q : Plan) (hg : q.group = g) (hp : q.past = past) (ho : q.other = 0) (hk : isE q.key = true) (hph : q.phase = ph) (hep : q.epoch = ep)
    (h : ph = 1 ∧ s.gr = past ∧ s.ep = ep ∨ (ph = 2 ∨ ph = 3) ∧ s.gr = g ∧ s.ep - 1 = ep ∨ ph = 9 ∧ s.gr = past ∧ s.ep - 2 = ep) : moveOk groups s q = true := by
  unfold moveOk
  rw [hg, hp, ho, hk, hph, hep]
  have a1 : decide (g < 1) = false := by simp; omega
  have a2 : decide (groups < g) = false := by simp; omega
  have a3 : decide (past < 1) = false := by simp; omega
  have a4 : decide (groups < past) = false := by simp; omega
  have a5 : (g == past) = false := by simp; omega
  rw [a1, a2, a3, a4, a5]
  rcases h with ⟨rfl, h, h'⟩ | ⟨rfl | rfl, h, h'⟩ | ⟨rfl, h, h'⟩
  all_goals simp [h, h']
theorem move_of {groups : Int} {s : Span} {q : Plan} (h : moveOk groups s q = true) : 1 ≤ q.group ∧ q.group ≤ groups ∧ 1 ≤ q.past ∧ q.past ≤ groups ∧ ¬ q.group = q.past ∧ q.other = 0 ∧ isE q.key = true ∧ (q.phase = 1 ∧ s.gr = q.past ∧ s.ep = q.epoch ∨ (q.phase = 2 ∨ q.phase = 3) ∧ s.gr = q.group ∧ s.ep - 1 = q.epoch ∨ q.phase = 9 ∧ s.gr = q.past ∧ s.ep - 2 = q.epoch) := by
  unfold moveOk at h
  simp only [Bool.and_eq_true, Bool.not_eq_true', Bool.or_eq_false_iff] at h
  obtain ⟨⟨⟨⟨⟨⟨⟨h1, h2⟩, h3⟩, h4⟩, h5⟩, h6⟩, h7⟩, h8⟩ := h
  refine ⟨by simpa using h1, by simpa using h2, by simpa using h3, by simpa using h4, by simpa using h5, by simpa using h6, by simpa using h7, ?_⟩
  by_cases p1 : q.phase = 1
  · rw [if_pos p1] at h8
    simp only [Bool.and_eq_true] at h8
    exact .inl ⟨p1, by simpa using h8.1, by simpa using h8.2⟩
  rw [if_neg p1] at h8
  by_cases p2 : q.phase = 2 ∨ q.phase = 3
  · rw [if_pos p2] at h8
    simp only [Bool.and_eq_true] at h8
    exact .inr (.inl ⟨p2, by simpa using h8.1, by simpa using h8.2⟩)
  rw [if_neg p2] at h8
  by_cases p3 : q.phase = 9
  · rw [if_pos p3] at h8
    simp only [Bool.and_eq_true] at h8
    exact .inr (.inr ⟨p3, by simpa using h8.1, by simpa using h8.2⟩)
  · rw [if_neg p3] at h8; cases h8
theorem isE_nil : isE ⟨#[]⟩ = true := by simp [isE]
/-- What a plan that begins makes of a right map. -/
def BegunAs (a : Atl) (p : Plan) (R : Atl) : Prop :=
  a.plan.kind = 0 ∧ ∃ k : Nat, ∃ hk : k < a.sp.length, ∃ s : Span, a.sp[k] = s ∧ place a.sp p.shard = (k : Int) ∧ s.sh = p.shard ∧ s.ep ≤ 1099511627774 ∧
    ((p.kind = 1 ∧ 1 ≤ p.group ∧ p.group ≤ a.groups ∧ ¬ p.group = s.gr ∧ R = { a with plan := { plan0 s p with group := p.group, past := s.gr } }) ∨
     (p.kind = 2 ∧ inside s p.key = true ∧ a.sp.length < 16 ∧ R = { a with plan := { plan0 s p with key := p.key, other := a.last + 1 }, last := a.last + 1 }) ∨
     (p.kind = 3 ∧ ∃ h : k + 1 < a.sp.length, ∃ u : Span, a.sp[k+1] = u ∧ u.ep ≤ 1099511627774 ∧ u.gr = s.gr ∧ R = { a with plan := { plan0 s p with other := u.sh } }))
theorem begin_gives (A : Option Addr) (cap : Nat) (a : Atl) (p : Plan) (hks : p.key.size ≤ 9223372036854775807) (hok : MapOk a) :
    (∃ n, ¬ n = 0 ∧ GivesMap 14 (fun v => #[v, p.val]) A cap a a n) ∨ (∃ R, GivesMap 14 (fun v => #[v, p.val]) A cap a R 0 ∧ MapOk R ∧ R.sp = a.sp ∧ BegunAs a p R) := by
  have hm := tr_true hok
  have h16 : a.sp.length ≤ 16 := hok.2.2.2.1.1
  by_cases b0 : a.plan.kind = 0
  rotate_left
  · exact .inl ⟨180, by decide, fun w h => begin_busy w A cap a p _ h hm b0 rfl⟩
  by_cases b1 : p.kind < 1
  · exact .inl ⟨1, by decide, fun w h => begin_kind1 w A cap a p _ h hm b0 b1 rfl⟩
  by_cases b2 : 3 < p.kind
  · exact .inl ⟨1, by decide, fun w h => begin_kind2 w A cap a p _ h hm b0 b1 b2 rfl⟩
  rcases place_ex a.sp p.shard with hp | ⟨k, hk, hp, hsh⟩
  · exact .inl ⟨172, by decide, fun w h => begin_none w A cap a p h hm b0 b1 b2 hp⟩
  obtain ⟨s, hs⟩ : ∃ s, a.sp[k] = s := ⟨_, rfl⟩
  rw [hs] at hsh
  have hso := hok.2.2.2.2.1 k hk
  rw [hs] at hso
  obtain ⟨o1, o2, o3, he1, he2, o4, o5⟩ := hso
  have hl1 : 1 ≤ a.last := by omega
  have hl2 : a.last ≤ 1099511627776 := hok.2.2.1
  have PF : ∀ (q : Plan) (n : Int), ¬ n = 0 → (∀ w A cap, MapIn w A cap a → Calls Try.prog 42 #[a.val (.slice A a.sp.length cap), .int .i64 (k : Int), p.val] w fun e w' => e = .returned (.tuple #[q.val, .int .i64 n]) ∧ Below w.heap.size w w') →
      (∃ n, ¬ n = 0 ∧ GivesMap 14 (fun v => #[v, p.val]) A cap a a n) ∨ (∃ R, GivesMap 14 (fun v => #[v, p.val]) A cap a R 0 ∧ MapOk R ∧ R.sp = a.sp ∧ BegunAs a p R) := fun q n hn h1 =>
    .inl ⟨n, hn, fun w h => begin_fault w A cap a p h hm k q n hk hp h1 b0 b1 b2 hn (by simpa using hn)⟩
  by_cases g0 : 1099511627774 < s.ep
  · exact PF _ 1 (by decide) (fun w A cap h => plan_big w A cap a k s p h.row h16 hks hk hs he1 he2 hl1 hl2 g0)
  by_cases k1 : p.kind = 1
  · by_cases g2 : p.group < 1
    · exact PF _ 1 (by decide) (fun w A cap h => plan_move1 w A cap a k s p h.row h16 hks hk hs he1 he2 hl1 hl2 k1 g0 g2)
    by_cases g3 : a.groups < p.group
    · exact PF _ 1 (by decide) (fun w A cap h => plan_move2 w A cap a k s p h.row h16 hks hk hs he1 he2 hl1 hl2 k1 g0 g2 g3)
    by_cases g4 : p.group = s.gr
    · exact PF _ 1 (by decide) (fun w A cap h => plan_move3 w A cap a k s p h.row h16 hks hk hs he1 he2 hl1 hl2 k1 g0 g2 g3 g4)
    refine .inr ⟨{ a with plan := { plan0 s p with group := p.group, past := s.gr } }, fun w h => begin_plain w A cap a p h hm k _ hk hp (fun w A cap h => plan_move w A cap a k s p h.row h16 hks hk hs he1 he2 hl1 hl2 k1 g0 g2 g3 g4) key0 b0 b1 b2 (by show ¬ p.kind = 2; omega) (by show (p.kind == 2) = false; simp; omega), ?_, rfl, b0, k, hk, s, hs, hp, hsh, by omega, .inl ⟨k1, by omega, by omega, g4, rfl⟩⟩
    refine plan_keeps hok _ a.last (Int.le_refl _) hl2 (.inr ⟨k, hk, ?_, ?_⟩)
    · show place a.sp s.sh = _
      rw [hsh]; exact hp
    · show PlanAt _ k a.sp[k]
      rw [hs]
      exact ⟨he1, by show s.ep ≤ _; omega, .inl ⟨k1, move_ok _ p.group s.gr 1 s.ep s (by omega) (by show p.group ≤ a.groups; omega) o4 o5 g4 _ rfl rfl rfl isE_nil rfl rfl (.inl ⟨rfl, rfl, rfl⟩)⟩⟩
  by_cases k2 : p.kind = 2
  · cases hi : inside s p.key
    · exact PF _ 170 (by decide) (fun w A cap h => plan_split1 w A cap a k s p h.row h16 hks hk hs he1 he2 hl1 hl2 k2 g0 hi)
    by_cases g2 : (16 : Int) ≤ (a.sp.length : Int)
    · exact PF _ 3 (by decide) (fun w A cap h => plan_split2 w A cap a k s p h.row h16 hks hk hs he1 he2 hl1 hl2 k2 g0 hi g2)
    by_cases g3 : 1099511627776 ≤ a.last
    · exact PF _ 3 (by decide) (fun w A cap h => plan_split3 w A cap a k s p h.row h16 hks hk hs he1 he2 hl1 hl2 k2 g0 hi g2 g3)
    refine .inr ⟨{ a with plan := { plan0 s p with key := p.key, other := a.last + 1 }, last := a.last + 1 }, fun w h => begin_parts w A cap a p h hm k _ hk hp (fun w A cap h => plan_split w A cap a k s p h.row h16 hks hk hs he1 he2 hl1 hl2 k2 g0 hi g2 g3) hks b0 b1 b2 k2 (by show (p.kind == 2) = true; simp [k2]) hl1 hl2, ?_, rfl, b0, k, hk, s, hs, hp, hsh, by omega, .inr (.inl ⟨k2, hi, by omega, rfl⟩)⟩
    refine plan_keeps hok _ (a.last + 1) (by omega) (by omega) (.inr ⟨k, hk, ?_, ?_⟩)
    · show place a.sp s.sh = _
      rw [hsh]; exact hp
    · show PlanAt _ k a.sp[k]
      rw [hs]
      refine ⟨he1, by show s.ep ≤ _; omega, .inr ⟨rfl, rfl, .inl ⟨rfl, rfl⟩, .inl ⟨k2, rfl, ?_, hi, by show a.sp.length < 16; omega⟩⟩⟩
      show place a.sp (a.last + 1) < 0
      rw [place_no fun t ht he => ?_]
      · decide
      · have := ((mapOk_iff.1 hok).2.2.1.2 t ht).2.1
        omega
  have k3 : p.kind = 3 := by omega
  by_cases hk5 : k + 1 < a.sp.length
  rotate_left
  · have hl : (k : Int) + 1 = (a.sp.length : Int) := by omega
    exact PF _ 170 (by decide) (fun w A cap h => plan_merge1 w A cap a k s p h.row h16 hks hk hs he1 he2 hl1 hl2 k3 g0 hl (by simpa using hl) (by omega))
  obtain ⟨u, hu⟩ : ∃ u, a.sp[k+1] = u := ⟨_, rfl⟩
  have g6 : ¬ (k : Int) + 1 = (a.sp.length : Int) := by omega
  have g5 : ((k : Int) + 1 == (a.sp.length : Int)) = false := by simpa using g6
  by_cases g1 : 1099511627774 < u.ep
  · exact PF _ 1 (by decide) (fun w A cap h => plan_bigNext w A cap a k s p h.row h16 hks hk hs he1 he2 hl1 hl2 hk5 u hu k3 g0 g1)
  by_cases g4 : u.gr = s.gr
  rotate_left
  · exact PF _ 170 (by decide) (fun w A cap h => plan_merge2 w A cap a k s p h.row h16 hks hk hs he1 he2 hl1 hl2 hk5 u hu k3 g0 g1 g5 g6 g4 (by simpa using g4))
  refine .inr ⟨{ a with plan := { plan0 s p with other := u.sh } }, fun w h => begin_plain w A cap a p h hm k _ hk hp (fun w A cap h => plan_merge w A cap a k s p h.row h16 hks hk hs he1 he2 hl1 hl2 hk5 u hu k3 g0 g1 g5 g6 g4 (by simpa using g4)) key0 b0 b1 b2 (by show ¬ p.kind = 2; omega) (by show (p.kind == 2) = false; simp; omega), ?_, rfl, b0, k, hk, s, hs, hp, hsh, by omega, .inr (.inr ⟨k3, hk5, u, hu, by omega, g4, rfl⟩)⟩
  refine plan_keeps hok _ a.last (Int.le_refl _) hl2 (.inr ⟨k, hk, ?_, ?_⟩)
  · show place a.sp s.sh = _
    rw [hsh]; exact hp
  · show PlanAt _ k a.sp[k]
    rw [hs]
    refine ⟨he1, by show s.ep ≤ _; omega, .inr ⟨rfl, rfl, .inl ⟨rfl, rfl⟩, .inr ⟨k3, (show (⟨#[]⟩ : ByteArray).toList = [] by simp), hk5, ?_, ?_, ?_⟩⟩⟩
    · show a.sp[k+1].sh = u.sh
      rw [hu]
    · show a.sp[k+1].gr = s.gr
      rw [hu]; exact g4
    · show a.sp[k+1].ep ≤ _
      rw [hu]; omega
/-- What a phase that is done makes of a right map. -/
theorem advance_gives (A : Option Addr) (cap : Nat) (a : Atl) (ph : Int) (hok : MapOk a) (b0 : (a.plan.kind == 0) = false) (b1 : (a.plan.phase == ph) = true) :
    ∃ R, GivesMap 17 (fun v => #[v, .int .i64 ph]) A cap a R 0 ∧ MapOk R ∧ Grows a.sp R.sp ∧ (R.plan.kind = 0 ∨ (ph = 1 ∨ ph = 2) ∧ R.plan.phase = ph + 1) := by
  have hm := tr_true hok
  have h16 : a.sp.length ≤ 16 := hok.2.2.2.1.1
  have hnd := (mapOk_iff.1 hok).2.2.1.1
  obtain ⟨k, hk, hp, hpl⟩ := plan_place hok b0
  obtain ⟨s, hs⟩ : ∃ s, a.sp[k] = s := ⟨_, rfl⟩
  have hso := hok.2.2.2.2.1 k hk
  rw [hs] at hso hpl
  obtain ⟨_, _, _, he1, he2, o4, o5⟩ := hso
  have hph : a.plan.phase = ph := by simpa using b1
  have hz : MapOk { a with plan := zeroP } := plan_keeps hok zeroP a.last (Int.le_refl _) hok.2.2.1 (.inl isZ_zero)
  obtain ⟨q1, q2, hpl⟩ := hpl
  by_cases h9 : ph = 9
  · subst h9
    exact ⟨_, fun w h => advance_lost w A cap a h hm k s hk hs hp he1 he2 b0 b1, hz, grows_refl hnd, .inl rfl⟩
  rcases hpl with ⟨hkd, hmv⟩ | ⟨hpast, hgr, hphs, hkd⟩
  · have c1 : (a.plan.kind == 1) = true := by simp [hkd]
    have c2 : (a.plan.kind == 2) = false := by simp [hkd]
    have c3 : (a.plan.kind == 3) = false := by simp [hkd]
    obtain ⟨m1, m2, m3, m4, m5, m6, m7, m8⟩ := move_of hmv
    by_cases h1 : ph = 1
    · subst h1
      have m9 : s.gr = a.plan.past ∧ s.ep = a.plan.epoch := by
        rcases m8 with h | h | h
        · exact h.2
        · rcases h.1 with h | h <;> omega
        · omega
      have hq : PlanOk { a with sp := a.sp.set k { s with ep := s.ep + 1, gr := a.plan.group }, plan := { a.plan with phase := 2 } } := by
        refine .inr ⟨k, by show k < (a.sp.set k _).length; rw [List.length_set]; exact hk, ?_, ?_⟩
        · show place (a.sp.set k { s with ep := s.ep + 1, gr := a.plan.group }) a.plan.shard = _
          rcases place_ex (a.sp.set k { s with ep := s.ep + 1, gr := a.plan.group }) a.plan.shard with hh | ⟨j, hj, hj1, hj2⟩
          · exfalso
            have hk' : k < (a.sp.set k { s with ep := s.ep + 1, gr := a.plan.group }).length := by rw [List.length_set]; exact hk
            refine place_neg (by rw [hh]; decide) _ (List.getElem_mem hk') ?_
            rw [List.getElem_set_self]
            have := (idxOf_first (q := hasSh a.plan.shard) (by unfold place at hp; exact hp)).2.1
            rw [hs] at this
            unfold hasSh at this
            simpa using this
          · rw [hj1]
            have hj3 : j < a.sp.length := by rw [List.length_set] at hj; exact hj
            have h5 := place_at hnd j hj3
            have e : a.sp[j].sh = a.plan.shard := by
              rw [List.getElem_set] at hj2
              by_cases e : k = j
              · subst e
                rw [if_pos rfl] at hj2
                rw [hs]; exact hj2
              · rw [if_neg e] at hj2; exact hj2
            rw [e, hp] at h5
            omega
        · show PlanAt _ k ((a.sp.set k { s with ep := s.ep + 1, gr := a.plan.group })[k]'_)
          rw [List.getElem_set_self]
          exact ⟨q1, q2, .inl ⟨hkd, move_ok _ a.plan.group a.plan.past 2 a.plan.epoch _ m1 m2 m3 m4 m5 _ rfl rfl m6 m7 rfl rfl (.inr (.inl ⟨.inl rfl, rfl, by show s.ep + 1 - 1 = _; omega⟩))⟩⟩
      obtain ⟨n1, n2⟩ := set_keeps hok k hk s { s with ep := s.ep + 1, gr := a.plan.group } hs rfl rfl rfl (by show s.ep ≤ s.ep + 1; omega) (by show s.ep + 1 ≤ _; omega) m1 m2 (.inr (by show s.ep < s.ep + 1; omega)) { a.plan with phase := 2 } hq
      exact ⟨_, fun w h => advance_move1 w A cap a h hm k s hk hs hp he1 he2 b0 b1 c1 c2 c3, n1, n2, .inr ⟨.inl rfl, rfl⟩⟩
    by_cases h2 : ph = 2
    · subst h2
      refine ⟨_, fun w h => advance_move2 w A cap a h hm k s hk hs hp he1 he2 b0 b1 c1 c2 c3, plan_keeps hok _ a.last (Int.le_refl _) hok.2.2.1 (.inr ⟨k, hk, hp, ?_⟩), grows_refl hnd, .inr ⟨.inr rfl, rfl⟩⟩
      show PlanAt _ k a.sp[k]
      rw [hs]
      have m9 : s.gr = a.plan.group ∧ s.ep - 1 = a.plan.epoch := by
        rcases m8 with h | h | h
        · omega
        · exact h.2
        · omega
      exact ⟨q1, q2, .inl ⟨hkd, move_ok _ a.plan.group a.plan.past 3 a.plan.epoch _ m1 m2 m3 m4 m5 _ rfl rfl m6 m7 rfl rfl (.inr (.inl ⟨.inr rfl, m9.1, m9.2⟩))⟩⟩
    by_cases h3 : ph = 3
    · subst h3
      exact ⟨_, fun w h => advance_move3 w A cap a h hm k s hk hs hp he1 he2 b0 b1 c1 c2 c3, hz, grows_refl hnd, .inl rfl⟩
    · exfalso
      rcases m8 with h | h | h
      · omega
      · rcases h.1 with h | h <;> omega
      · omega
  · have h1 : ph = 1 := by rcases hphs with ⟨h, _⟩ | ⟨h, _⟩ <;> omega
    subst h1
    have hep : s.ep = a.plan.epoch := by
      rcases hphs with h | h
      · exact h.2
      · omega
    rcases hkd with ⟨hkd, z1, z2, z3, z4⟩ | ⟨hkd, _, hk5, _, _, hu2⟩
    · have c1 : (a.plan.kind == 1) = false := by simp [hkd]
      have c2 : (a.plan.kind == 2) = true := by simp [hkd]
      have c3 : (a.plan.kind == 3) = false := by simp [hkd]
      obtain ⟨n1, n2⟩ := split_keeps hok k hk s hs z3 z4 (by omega) z1 z2
      exact ⟨_, fun w h => advance_split w A cap a h hm k s hk hs hp he1 he2 h16 b0 b1 c1 c2 c3, n1, n2, .inl rfl⟩
    · have c1 : (a.plan.kind == 1) = false := by simp [hkd]
      have c2 : (a.plan.kind == 2) = false := by simp [hkd]
      have c3 : (a.plan.kind == 3) = true := by simp [hkd]
      obtain ⟨u, hu⟩ : ∃ u, a.sp[k+1] = u := ⟨_, rfl⟩
      have huo := hok.2.2.2.2.1 (k + 1) hk5
      rw [hu] at huo hu2
      obtain ⟨_, _, _, hue, hue2, _, _⟩ := huo
      by_cases gt : s.ep < u.ep
      · obtain ⟨n1, n2⟩ := join_keeps hok k hk5 s u hs hu (u.ep + 1) (by omega) (by omega)
        exact ⟨_, fun w h => advance_join1 w A cap a h hm k s hk hs hp he1 he2 h16 u hk5 hu hue hue2 b0 b1 c1 c2 c3 gt, n1, n2, .inl rfl⟩
      · obtain ⟨n1, n2⟩ := join_keeps hok k hk5 s u hs hu (s.ep + 1) (by omega) (by omega)
        exact ⟨_, fun w h => advance_join2 w A cap a h hm k s hk hs hp he1 he2 h16 u hk5 hu hue hue2 b0 b1 c1 c2 c3 gt, n1, n2, .inl rfl⟩
end Go.Proofs.Ytimondpollbdfaa
