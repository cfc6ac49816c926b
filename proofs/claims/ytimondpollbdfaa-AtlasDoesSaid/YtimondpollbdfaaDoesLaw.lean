/- What is proved: what a plan that begins, a phase that is done and giving up make of any map: both programs hand back the same. -/
import Derived.Test.YtimondpollbdfaaBegin15
import Derived.Test.YtimondpollbdfaaFault43
import Derived.Test.YtimondpollbdfaaAdv17C
import Derived.Test.YtimondpollbdfaaAdv18C
import Derived.Test.YtimondpollbdfaaAbort
set_option linter.unusedVariables false
set_option linter.unusedSimpArgs false
namespace Go.Proofs.Ytimondpollbdfaa
open Go.RowKit

theorem noMap_at (w : World) {m : Atl} (h : m.sp = []) (hk : m.plan.key = ⟨#[]⟩) : MapIn w none 0 m := by
  refine ⟨?_, ?_, by decide, fun s hs => ?_, ?_⟩
  · rw [h]; exact rowAt_nil _ _ _ _
  · rw [h]; exact Nat.zero_le _
  · rw [h] at hs; cases hs
  · rw [hk]; decide
theorem key0 : (⟨#[]⟩ : ByteArray).size ≤ 9223372036854775807 := by decide
/-- A row of spans does not lie in a map's own block: so a store of a whole map leaves it. -/
theorem MapIn.setMap {w w' : World} {A : Option Addr} {cap b : Nat} {R m : Atl} {v : Value} (h : MapIn w A cap R) (hb : w.heap[b]? = some (m.blk v)) (ho : Only (· = b) w w') : MapIn w' A cap R := by
  refine ⟨?_, h.ncap, h.cmax, h.sz, h.key⟩
  intro i c hi
  obtain ⟨b', off, hA, hlt, hc⟩ := h.row i c hi
  have hne : b' ≠ b := by
    intro he
    subst he
    rw [List.getElem?_map] at hi
    obtain ⟨s, _, hs⟩ := Option.map_eq_some_iff.1 hi
    subst hs
    have h0 := hc 0 (.string s.fr) rfl
    have h1 := hc 1 (.string s.to) rfl
    simp only [World.cell?, hb, Atl.blk] at h0 h1
    generalize off + i * 5 + 0 = n at h0 h1
    match n, h0, h1 with
    | 0, h0, _ => simp at h0
    | 1, h0, _ => simp at h0
    | 2, h0, h1 => simp at h1
    | 3, h0, _ => simp at h0
    | 4, h0, _ => simp at h0
    | 5, h0, _ => simp at h0
    | 6, h0, _ => simp at h0
    | 7, h0, _ => simp at h0
    | 8, h0, _ => simp at h0
    | 9, h0, _ => simp at h0
    | 10, _, h1 => simp at h1
    | n + 11, h0, _ => simp at h0
  exact ⟨b', off, hA, Nat.lt_of_lt_of_le hlt ho.size, fun j u hu => (ho.cell (p := ⟨b', off + i * 5 + j, none⟩) hlt hne).trans (hc j u hu)⟩
/-- What such a function hands back: a map that lies somewhere, and a number. -/
def GivesMap (f : FuncId) (args : Value → Array Value) (A : Option Addr) (cap : Nat) (a : Atl) (R : Atl) (n : Int) : Prop :=
  ∀ w, MapIn w A cap a → Calls Try.prog f (args (a.val (.slice A a.sp.length cap))) w fun e w' => ∃ A' cap', e = .returned (.tuple #[R.val (.slice A' R.sp.length cap'), .int .i64 n]) ∧ MapIn w' A' cap' R ∧ Below w.heap.size w w'
theorem place_ex (l : List Span) (x : Int) : place l x = -1 ∨ ∃ k : Nat, ∃ hk : k < l.length, place l x = (k : Int) ∧ l[k].sh = x := by
  unfold place
  cases h : l.findIdx? (hasSh x) with
  | none => exact .inl (by simp [idxOf, h])
  | some k =>
    have he : idxOf (hasSh x) l = (k : Int) := by simp [idxOf, h]
    obtain ⟨hk, hq, _⟩ := idxOf_first he
    exact .inr ⟨k, hk, he, by unfold hasSh at hq; simpa using hq⟩
theorem gives_zero {f : FuncId} {args : Value → Array Value} {A : Option Addr} {cap : Nat} {a : Atl} {n : Int}
    (h : ∀ w, MapIn w A cap a → Calls Try.prog f (args (a.val (.slice A a.sp.length cap))) w fun e w' => e = .returned (.tuple #[zeroA.val nilV, .int .i64 n]) ∧ Below w.heap.size w w') : GivesMap f args A cap a zeroA n := by
  intro w hw
  refine (h w hw).mono ?_
  rintro e w' ⟨rfl, hb⟩
  exact ⟨none, 0, rfl, noMap_at w' rfl rfl, hb⟩
theorem gives_there {f : FuncId} {args : Value → Array Value} {A : Option Addr} {cap : Nat} {a : Atl} {n : Int} (q : Plan) (l : Int) (hq : q.key.size ≤ 9223372036854775807)
    (h : ∀ w, MapIn w A cap a → Calls Try.prog f (args (a.val (.slice A a.sp.length cap))) w fun e w' => e = .returned (.tuple #[Atl.val { a with plan := q, last := l } (.slice A a.sp.length cap), .int .i64 n]) ∧ Below w.heap.size w w') : GivesMap f args A cap a { a with plan := q, last := l } n := by
  intro w hw
  refine (h w hw).mono ?_
  rintro e w' ⟨rfl, hb⟩
  exact ⟨A, cap, rfl, (hw.below hb).replan q hq l, hb⟩
theorem gives_same {f : FuncId} {args : Value → Array Value} {A : Option Addr} {cap : Nat} {a : Atl} {n : Int}
    (h : ∀ w, MapIn w A cap a → Calls Try.prog f (args (a.val (.slice A a.sp.length cap))) w fun e w' => e = .returned (.tuple #[a.val (.slice A a.sp.length cap), .int .i64 n]) ∧ Below w.heap.size w w') : GivesMap f args A cap a a n := by
  intro w hw
  refine (h w hw).mono ?_
  rintro e w' ⟨rfl, hb⟩
  exact ⟨A, cap, rfl, hw.below hb, hb⟩

theorem begin_same (A : Option Addr) (cap : Nat) (a : Atl) (p : Plan) (hks : p.key.size ≤ 9223372036854775807) : ∃ R n, GivesMap 14 (fun v => #[v, p.val]) A cap a R n ∧ GivesMap 15 (fun v => #[v, p.val]) A cap a R n := by
  cases hm : tr (MapOk a)
  · exact ⟨zeroA, 4, fun w h => begin_wrong w A cap a p h hm, gives_zero fun w h => rbegin_wrong w A cap a p h hm⟩
  have hok := of_tr hm
  have h16 : a.sp.length ≤ 16 := hok.2.2.2.1.1
  by_cases b0 : a.plan.kind = 0
  rotate_left
  · exact ⟨a, 180, fun w h => begin_busy w A cap a p _ h hm b0 rfl, gives_same fun w h => rbegin_fault w A cap a p h hm 180 (fun w h => fault_busy w A cap a p h.row h16 hks b0) (by decide) rfl⟩
  by_cases b1 : p.kind < 1
  · exact ⟨a, 1, fun w h => begin_kind1 w A cap a p _ h hm b0 b1 rfl, gives_same fun w h => rbegin_fault w A cap a p h hm 1 (fun w h => fault_kind1 w A cap a p h.row h16 hks b0 b1) (by decide) rfl⟩
  by_cases b2 : 3 < p.kind
  · exact ⟨a, 1, fun w h => begin_kind2 w A cap a p _ h hm b0 b1 b2 rfl, gives_same fun w h => rbegin_fault w A cap a p h hm 1 (fun w h => fault_kind2 w A cap a p h.row h16 hks b0 b1 b2) (by decide) rfl⟩
  rcases place_ex a.sp p.shard with hp | ⟨k, hk, hp, hsh⟩
  · exact ⟨a, 172, fun w h => begin_none w A cap a p h hm b0 b1 b2 hp, gives_same fun w h => rbegin_fault w A cap a p h hm 172 (fun w h => fault_none w A cap a p h.row h16 hks b0 b1 b2 hp) (by decide) rfl⟩
  obtain ⟨s, hs⟩ : ∃ s, a.sp[k] = s := ⟨_, rfl⟩
  rw [hs] at hsh
  have hso := hok.2.2.2.2.1 k hk
  rw [hs] at hso
  obtain ⟨o1, o2, _, he1, he2, _, _⟩ := hso
  have hl1 : 1 ≤ a.last := by omega
  have hl2 : a.last ≤ 1099511627776 := hok.2.2.1
  have e01 : plan1 s p = plan0 s p := by unfold plan1 plan0; rw [hsh]
  have PF : ∀ (q : Plan) (n : Int), ¬ n = 0 → (∀ w A cap, MapIn w A cap a → Calls Try.prog 42 #[a.val (.slice A a.sp.length cap), .int .i64 (k : Int), p.val] w fun e w' => e = .returned (.tuple #[q.val, .int .i64 n]) ∧ Below w.heap.size w w') →
      (∀ w, MapIn w A cap a → Calls Try.prog 43 #[a.val (.slice A a.sp.length cap), p.val] w fun e w' => e = .returned (.int .i64 n) ∧ Below w.heap.size w w') → ∃ R n, GivesMap 14 (fun v => #[v, p.val]) A cap a R n ∧ GivesMap 15 (fun v => #[v, p.val]) A cap a R n := fun q n hn h1 h2 =>
    ⟨a, n, fun w h => begin_fault w A cap a p h hm k q n hk hp h1 b0 b1 b2 hn (by simpa using hn), gives_same fun w h => rbegin_fault w A cap a p h hm n h2 hn (by simpa using hn)⟩
  by_cases g0 : 1099511627774 < s.ep
  · exact PF _ 1 (by decide) (fun w A cap h => plan_big w A cap a k s p h.row h16 hks hk hs he1 he2 hl1 hl2 g0) (fun w h => fault_big w A cap a k s p h.row h16 hks b0 b1 b2 hk hs hp g0)
  by_cases k1 : p.kind = 1
  · by_cases g2 : p.group < 1
    · exact PF _ 1 (by decide) (fun w A cap h => plan_move1 w A cap a k s p h.row h16 hks hk hs he1 he2 hl1 hl2 k1 g0 g2) (fun w h => fault_move1 w A cap a k s p h.row h16 hks b0 b1 b2 hk hs hp k1 g0 g2)
    by_cases g3 : a.groups < p.group
    · exact PF _ 1 (by decide) (fun w A cap h => plan_move2 w A cap a k s p h.row h16 hks hk hs he1 he2 hl1 hl2 k1 g0 g2 g3) (fun w h => fault_move2 w A cap a k s p h.row h16 hks b0 b1 b2 hk hs hp k1 g0 g2 g3)
    by_cases g4 : p.group = s.gr
    · exact PF _ 1 (by decide) (fun w A cap h => plan_move3 w A cap a k s p h.row h16 hks hk hs he1 he2 hl1 hl2 k1 g0 g2 g3 g4) (fun w h => fault_move3 w A cap a k s p h.row h16 hks b0 b1 b2 hk hs hp k1 g0 g2 g3 g4)
    · refine ⟨{ a with plan := { plan0 s p with group := p.group, past := s.gr } }, 0, fun w h => begin_plain w A cap a p h hm k _ hk hp (fun w A cap h => plan_move w A cap a k s p h.row h16 hks hk hs he1 he2 hl1 hl2 k1 g0 g2 g3 g4) key0 b0 b1 b2 (by show ¬ p.kind = 2; omega) (by show (p.kind == 2) = false; simp; omega), ?_⟩
      refine gives_there (a := a) { plan0 s p with group := p.group, past := s.gr } a.last key0 fun w h => ?_
      have := rbegin_move w A cap a p h hm k s hk hs h16 hp hl1 hl2 (fun w h => fault_move w A cap a k s p h.row h16 hks b0 b1 b2 hk hs hp k1 g0 g2 g3 g4 (by simpa using g4)) k1
      rw [e01] at this
      exact this
  by_cases k2 : p.kind = 2
  · cases hi : inside s p.key
    · exact PF _ 170 (by decide) (fun w A cap h => plan_split1 w A cap a k s p h.row h16 hks hk hs he1 he2 hl1 hl2 k2 g0 hi) (fun w h => fault_split1 w A cap a k s p h.row h16 hks b0 b1 b2 hk hs hp k2 g0 hi)
    by_cases g2 : (16 : Int) ≤ (a.sp.length : Int)
    · exact PF _ 3 (by decide) (fun w A cap h => plan_split2 w A cap a k s p h.row h16 hks hk hs he1 he2 hl1 hl2 k2 g0 hi g2) (fun w h => fault_split2 w A cap a k s p h.row h16 hks b0 b1 b2 hk hs hp k2 g0 hi g2)
    by_cases g3 : 1099511627776 ≤ a.last
    · exact PF _ 3 (by decide) (fun w A cap h => plan_split3 w A cap a k s p h.row h16 hks hk hs he1 he2 hl1 hl2 k2 g0 hi g2 g3) (fun w h => fault_split3 w A cap a k s p h.row h16 hks b0 b1 b2 hk hs hp k2 g0 hi g2 g3)
    · refine ⟨{ a with plan := { plan0 s p with key := p.key, other := a.last + 1 }, last := a.last + 1 }, 0, fun w h => begin_parts w A cap a p h hm k _ hk hp (fun w A cap h => plan_split w A cap a k s p h.row h16 hks hk hs he1 he2 hl1 hl2 k2 g0 hi g2 g3) hks b0 b1 b2 k2 (by show (p.kind == 2) = true; simp [k2]) hl1 hl2, ?_⟩
      refine gives_there (a := a) { plan0 s p with key := p.key, other := a.last + 1 } (a.last + 1) hks fun w h => ?_
      have := rbegin_split w A cap a p h hm k s hk hs h16 hp hl1 hl2 (fun w h => fault_split w A cap a k s p h.row h16 hks b0 b1 b2 hk hs hp k2 g0 hi g2 g3) k2
      rw [e01] at this
      exact this
  have k3 : p.kind = 3 := by omega
  by_cases hk5 : k + 1 < a.sp.length
  rotate_left
  · have hl : (k : Int) + 1 = (a.sp.length : Int) := by omega
    exact PF _ 170 (by decide) (fun w A cap h => plan_merge1 w A cap a k s p h.row h16 hks hk hs he1 he2 hl1 hl2 k3 g0 hl (by simpa using hl) (by omega)) (fun w h => fault_merge1 w A cap a k s p h.row h16 hks b0 b1 b2 hk hs hp k3 g0 hl (by simpa using hl))
  obtain ⟨u, hu⟩ : ∃ u, a.sp[k+1] = u := ⟨_, rfl⟩
  have g6 : ¬ (k : Int) + 1 = (a.sp.length : Int) := by omega
  have g5 : ((k : Int) + 1 == (a.sp.length : Int)) = false := by simpa using g6
  by_cases g1 : 1099511627774 < u.ep
  · exact PF _ 1 (by decide) (fun w A cap h => plan_bigNext w A cap a k s p h.row h16 hks hk hs he1 he2 hl1 hl2 hk5 u hu k3 g0 g1) (fun w h => fault_bigNext w A cap a k s p h.row h16 hks b0 b1 b2 hk hs hp hk5 u hu k3 g0 g1 g5 g6)
  by_cases g4 : u.gr = s.gr
  rotate_left
  · exact PF _ 170 (by decide) (fun w A cap h => plan_merge2 w A cap a k s p h.row h16 hks hk hs he1 he2 hl1 hl2 hk5 u hu k3 g0 g1 g5 g6 g4 (by simpa using g4)) (fun w h => fault_merge2 w A cap a k s p h.row h16 hks b0 b1 b2 hk hs hp hk5 u hu k3 g0 g1 g5 g6 g4 (by simpa using g4))
  refine ⟨{ a with plan := { plan0 s p with other := u.sh } }, 0, fun w h => begin_plain w A cap a p h hm k _ hk hp (fun w A cap h => plan_merge w A cap a k s p h.row h16 hks hk hs he1 he2 hl1 hl2 hk5 u hu k3 g0 g1 g5 g6 g4 (by simpa using g4)) key0 b0 b1 b2 (by show ¬ p.kind = 2; omega) (by show (p.kind == 2) = false; simp; omega), ?_⟩
  refine gives_there (a := a) { plan0 s p with other := u.sh } a.last key0 fun w h => ?_
  have := rbegin_merge w A cap a p h hm k s hk hs h16 hp hl1 hl2 hk5 u hu (fun w h => fault_merge w A cap a k s p h.row h16 hks b0 b1 b2 hk hs hp hk5 u hu k3 g0 g1 g5 g6 g4 (by simpa using g4)) k3
  rw [e01] at this
  exact this

/-- A right map with a plan: where its shard lies. -/
theorem plan_place {a : Atl} (hok : MapOk a) (h : (a.plan.kind == 0) = false) : ∃ k : Nat, ∃ hk : k < a.sp.length, place a.sp a.plan.shard = (k : Int) ∧ PlanAt a k a.sp[k] := by
  rcases hok.2.2.2.2.2 with hz | ⟨k, hk, hp, hpl⟩
  · exfalso
    unfold isZ eqP at hz
    simp only [Bool.and_eq_true] at hz
    have : (a.plan.kind == 0) = true := hz.1.1.1.1.1.1.1
    rw [this] at h; cases h
  · exact ⟨k, hk, hp, hpl⟩
theorem advance_same (A : Option Addr) (cap : Nat) (a : Atl) (ph : Int) : ∃ R n, GivesMap 17 (fun v => #[v, .int .i64 ph]) A cap a R n ∧ GivesMap 18 (fun v => #[v, .int .i64 ph]) A cap a R n := by
  cases hm : tr (MapOk a)
  · exact ⟨zeroA, 4, fun w h => advance_wrong w A cap a ph h hm, fun w h => rAdvance_wrong w A cap a ph h hm⟩
  have hok := of_tr hm
  have h16 : a.sp.length ≤ 16 := hok.2.2.2.1.1
  cases b0 : (a.plan.kind == 0)
  rotate_left
  · exact ⟨a, 4, fun w h => advance_none w A cap a ph h hm b0, fun w h => rAdvance_none w A cap a ph h hm b0⟩
  cases b1 : (a.plan.phase == ph)
  · exact ⟨a, 4, fun w h => advance_phase w A cap a ph h hm b0 b1, fun w h => rAdvance_phase w A cap a ph h hm b0 b1⟩
  obtain ⟨k, hk, hp, hpl⟩ := plan_place hok b0
  obtain ⟨s, hs⟩ : ∃ s, a.sp[k] = s := ⟨_, rfl⟩
  have hso := hok.2.2.2.2.1 k hk
  rw [hs] at hso hpl
  obtain ⟨_, _, _, he1, he2, _, _⟩ := hso
  have hph : a.plan.phase = ph := by simpa using b1
  obtain ⟨_, _, hpl⟩ := hpl
  by_cases h9 : ph = 9
  · subst h9
    exact ⟨_, 0, fun w h => advance_lost w A cap a h hm k s hk hs hp he1 he2 b0 b1, fun w h => rAdvance_lost w A cap a h hm k s hk hs hp he1 he2 h16 b0 b1⟩
  rcases hpl with ⟨hkd, hmv⟩ | ⟨_, _, hphs, hkd⟩
  · have c1 : (a.plan.kind == 1) = true := by simp [hkd]
    have c2 : (a.plan.kind == 2) = false := by simp [hkd]
    have c3 : (a.plan.kind == 3) = false := by simp [hkd]
    by_cases h1 : ph = 1
    · subst h1
      refine ⟨_, 0, fun w h => advance_move1 w A cap a h hm k s hk hs hp he1 he2 b0 b1 c1 c2 c3, fun w h => ?_⟩
      rw [set_parts a.sp k _ hk]
      exact rAdvance_move1 w A cap a h hm k s hk hs hp he1 he2 h16 b0 b1 c1 c2 c3
    by_cases h2 : ph = 2
    · subst h2
      exact ⟨_, 0, fun w h => advance_move2 w A cap a h hm k s hk hs hp he1 he2 b0 b1 c1 c2 c3, fun w h => rAdvance_move2 w A cap a h hm k s hk hs hp he1 he2 h16 b0 b1 c1 c2 c3⟩
    by_cases h3 : ph = 3
    · subst h3
      exact ⟨_, 0, fun w h => advance_move3 w A cap a h hm k s hk hs hp he1 he2 b0 b1 c1 c2 c3, fun w h => rAdvance_move3 w A cap a h hm k s hk hs hp he1 he2 h16 b0 b1 c1 c2 c3⟩
    · exfalso
      unfold moveOk at hmv
      rw [hph] at hmv
      rw [if_neg h1, if_neg (by omega), if_neg h9] at hmv
      simp at hmv
  · have h1 : ph = 1 := by rcases hphs with ⟨h, _⟩ | ⟨h, _⟩ <;> omega
    subst h1
    rcases hkd with ⟨hkd, _⟩ | ⟨hkd, _, hk5, _, _, hu2⟩
    · have c1 : (a.plan.kind == 1) = false := by simp [hkd]
      have c2 : (a.plan.kind == 2) = true := by simp [hkd]
      have c3 : (a.plan.kind == 3) = false := by simp [hkd]
      exact ⟨_, 0, fun w h => advance_split w A cap a h hm k s hk hs hp he1 he2 h16 b0 b1 c1 c2 c3, fun w h => rAdvance_split w A cap a h hm k s hk hs hp he1 he2 h16 b0 b1 c1 c2 c3⟩
    · have c1 : (a.plan.kind == 1) = false := by simp [hkd]
      have c2 : (a.plan.kind == 2) = false := by simp [hkd]
      have c3 : (a.plan.kind == 3) = true := by simp [hkd]
      obtain ⟨u, hu⟩ : ∃ u, a.sp[k+1] = u := ⟨_, rfl⟩
      have huo := hok.2.2.2.2.1 (k + 1) hk5
      rw [hu] at huo hu2
      obtain ⟨_, _, _, hue, hue2, _, _⟩ := huo
      by_cases gt : s.ep < u.ep
      · exact ⟨_, 0, fun w h => advance_join1 w A cap a h hm k s hk hs hp he1 he2 h16 u hk5 hu hue hue2 b0 b1 c1 c2 c3 gt, fun w h => rAdvance_join1 w A cap a h hm k s hk hs hp he1 he2 h16 u hk5 hu hue hue2 b0 b1 c1 c2 c3 gt⟩
      · exact ⟨_, 0, fun w h => advance_join2 w A cap a h hm k s hk hs hp he1 he2 h16 u hk5 hu hue hue2 b0 b1 c1 c2 c3 gt, fun w h => rAdvance_join2 w A cap a h hm k s hk hs hp he1 he2 h16 u hk5 hu hue hue2 b0 b1 c1 c2 c3 gt⟩
theorem abort_same (A : Option Addr) (cap : Nat) (a : Atl) : ∃ R n, GivesMap 19 (fun v => #[v]) A cap a R n ∧ GivesMap 20 (fun v => #[v]) A cap a R n := by
  cases hm : tr (MapOk a)
  · exact ⟨zeroA, 4, fun w h => abort_wrong w A cap a h hm, fun w h => rAbort_wrong w A cap a h hm⟩
  have hok := of_tr hm
  have h16 : a.sp.length ≤ 16 := hok.2.2.2.1.1
  cases b0 : (a.plan.kind == 0)
  rotate_left
  · exact ⟨a, 4, fun w h => abort_none w A cap a h hm b0, fun w h => rAbort_none w A cap a h hm b0⟩
  cases b1 : (a.plan.phase == 1)
  · exact ⟨a, 4, fun w h => abort_phase w A cap a h hm b0 b1, fun w h => rAbort_phase w A cap a h hm b0 b1⟩
  obtain ⟨k, hk, hp, _⟩ := plan_place hok b0
  obtain ⟨s, hs⟩ : ∃ s, a.sp[k] = s := ⟨_, rfl⟩
  have hso := hok.2.2.2.2.1 k hk
  rw [hs] at hso
  obtain ⟨_, _, _, he1, he2, _, _⟩ := hso
  refine ⟨_, 0, fun w h => abort_ok w A cap a h hm k s hk hs hp he1 he2 b0 b1, fun w h => ?_⟩
  rw [set_parts a.sp k _ hk]
  exact rAbort_ok w A cap a h hm k s hk hs hp he1 he2 h16 b0 b1
end Go.Proofs.Ytimondpollbdfaa
