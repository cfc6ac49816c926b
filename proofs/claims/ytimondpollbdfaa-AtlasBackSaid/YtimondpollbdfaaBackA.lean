/- What is proved: AtlasBack answers yes, whatever the map, the shard, the name and the group. -/
import Derived.Test.YtimondpollbdfaaBackW
set_option linter.unusedVariables false
set_option linter.unusedSimpArgs false
namespace Go.Proofs.Ytimondpollbdfaa
open Go.RowKit

theorem place_set {l : List Span} (hd : (l.map Span.sh).Nodup) (k : Nat) (hk : k < l.length) (s s' : Span) (hs : l[k] = s) (h : s'.sh = s.sh) : place (l.set k s') s.sh = (k : Int) := by
  have hab := about l k hk
  rw [hs] at hab
  have hm : (l.set k s').map Span.sh = l.map Span.sh := by
    rw [set_parts l k s' hk, List.map_append, List.map_cons, h]
    conv => rhs; rw [hab, List.map_append, List.map_cons]
  have := place_at (hm ▸ hd : ((l.set k s').map Span.sh).Nodup) k (by rw [List.length_set]; exact hk)
  rw [List.getElem_set_self, h] at this
  exact this
/-- Two spans that are joined again: what the beginning says. -/
theorem merge_gives {c : Atl} (hok : MapOk c) (b0 : c.plan.kind = 0) (k : Nat) (hk5 : k + 1 < c.sp.length) (s u : Span) (hs : c.sp[k] = s) (hu : c.sp[k+1] = u) (sh : Int) (hsh : s.sh = sh) (g4 : u.gr = s.gr) (hue : u.ep = s.ep) :
    (1099511627774 < s.ep ∧ ∀ A cap, GivesMap 14 (fun v => #[v, (mergeP sh).val]) A cap c c 1) ∨ (s.ep ≤ 1099511627774 ∧ MapOk { c with plan := { plan0 s (mergeP sh) with other := u.sh } } ∧ ∀ A cap, GivesMap 14 (fun v => #[v, (mergeP sh).val]) A cap c { c with plan := { plan0 s (mergeP sh) with other := u.sh } } 0) := by
  have hm := tr_true hok
  have hk : k < c.sp.length := by omega
  have h16 : c.sp.length ≤ 16 := hok.2.2.2.1.1
  have hso := hok.2.2.2.2.1 k hk
  rw [hs] at hso
  obtain ⟨o1, o2, o3, he1, he2, o4, o5⟩ := hso
  have hp : place c.sp (mergeP sh).shard = (k : Int) := by rw [← o3, hsh]; rfl
  have hl1 : 1 ≤ c.last := by omega
  have hl2 : c.last ≤ 1099511627776 := hok.2.2.1
  have b1 : ¬ (mergeP sh).kind < 1 := by show ¬ (3 : Int) < 1; decide
  have b2 : ¬ 3 < (mergeP sh).kind := by show ¬ (3 : Int) < 3; decide
  have k3 : (mergeP sh).kind = 3 := rfl
  have hks : (mergeP sh).key.size ≤ 9223372036854775807 := key0
  by_cases g0 : 1099511627774 < s.ep
  · exact .inl ⟨g0, fun A cap w h => begin_fault w A cap c (mergeP sh) h hm k _ 1 hk hp (fun w A cap h => plan_big w A cap c k s (mergeP sh) h.row h16 hks hk hs he1 he2 hl1 hl2 g0) b0 b1 b2 (by decide) (by decide)⟩
  have g6 : ¬ (k : Int) + 1 = (c.sp.length : Int) := by omega
  have g5 : ((k : Int) + 1 == (c.sp.length : Int)) = false := by simpa using g6
  have g1 : ¬ 1099511627774 < u.ep := by omega
  refine .inr ⟨by omega, ?_, fun A cap w h => begin_plain w A cap c (mergeP sh) h hm k _ hk hp (fun w A cap h => plan_merge w A cap c k s (mergeP sh) h.row h16 hks hk hs he1 he2 hl1 hl2 hk5 u hu k3 g0 g1 g5 g6 g4 (by simpa using g4)) key0 b0 b1 b2 (by show ¬ (3 : Int) = 2; decide) (by show ((3 : Int) == 2) = false; decide)⟩
  refine plan_keeps hok _ c.last (Int.le_refl _) hl2 (.inr ⟨k, hk, ?_, ?_⟩)
  · show place c.sp s.sh = _
    exact o3
  · show PlanAt _ k c.sp[k]
    rw [hs]
    refine ⟨he1, by show s.ep ≤ _; omega, .inr ⟨rfl, rfl, .inl ⟨rfl, rfl⟩, .inr ⟨k3, (show (⟨#[]⟩ : ByteArray).toList = [] by simp), hk5, ?_, ?_, ?_⟩⟩⟩
    · show c.sp[k+1].sh = u.sh
      rw [hu]
    · show c.sp[k+1].gr = s.gr
      rw [hu]; exact g4
    · show c.sp[k+1].ep ≤ _
      rw [hu]; omega
/-- The map behind each phase of a move. -/
def movedF (a : Atl) (k : Nat) (s : Span) (sh gp : Int) : Nat → Atl
  | 1 => { a with plan := { plan0 s (moveP sh gp) with group := gp, past := s.gr } }
  | 2 => { a with sp := a.sp.set k { s with ep := s.ep + 1, gr := gp }, plan := { plan0 s (moveP sh gp) with group := gp, past := s.gr, phase := 2 } }
  | 3 => { a with sp := a.sp.set k { s with ep := s.ep + 1, gr := gp }, plan := { plan0 s (moveP sh gp) with group := gp, past := s.gr, phase := 3 } }
  | _ => { a with sp := a.sp.set k { s with ep := s.ep + 1, gr := gp }, plan := zeroP }
theorem moved_gives {a : Atl} (hok : MapOk a) (k : Nat) (hk : k < a.sp.length) (s : Span) (hs : a.sp[k] = s) (sh gp : Int) (hok1 : MapOk (movedF a k s sh gp 1)) (hg1 : 1 ≤ gp) (hg2 : gp ≤ a.groups) (hg3 : ¬ gp = s.gr) (hep : s.ep ≤ 1099511627774) :
    ∀ j : Nat, 1 ≤ j → j ≤ 3 → ∀ A cap, GivesMap 17 (fun v => #[v, .int .i64 (j : Int)]) A cap (movedF a k s sh gp j) (movedF a k s sh gp (j + 1)) 0 := by
  have hso := hok.2.2.2.2.1 k hk
  rw [hs] at hso
  obtain ⟨_, _, hp0, he1, he2, o4, o5⟩ := hso
  have hnd := (mapOk_iff.1 hok).2.2.1.1
  have hps := place_set hnd k hk s { s with ep := s.ep + 1, gr := gp } hs rfl
  have hks : k < (a.sp.set k { s with ep := s.ep + 1, gr := gp }).length := by rw [List.length_set]; exact hk
  have hss : (a.sp.set k { s with ep := s.ep + 1, gr := gp })[k] = { s with ep := s.ep + 1, gr := gp } := List.getElem_set_self _
  have hq : ∀ ph : Int, ph = 2 ∨ ph = 3 → MapOk { a with sp := a.sp.set k { s with ep := s.ep + 1, gr := gp }, plan := { plan0 s (moveP sh gp) with group := gp, past := s.gr, phase := ph } } := fun ph hph => by
    refine (set_keeps hok k hk s { s with ep := s.ep + 1, gr := gp } hs rfl rfl rfl (by show s.ep ≤ s.ep + 1; omega) (by show s.ep + 1 ≤ _; omega) hg1 hg2 (.inr (by show s.ep < s.ep + 1; omega)) _ (.inr ⟨k, hks, hps, ?_⟩)).1
    show PlanAt _ k ((a.sp.set k { s with ep := s.ep + 1, gr := gp })[k])
    rw [hss]
    exact ⟨he1, hep, .inl ⟨rfl, move_ok _ gp s.gr ph s.ep _ hg1 hg2 o4 o5 hg3 _ rfl rfl rfl isE_nil rfl rfl (.inr (.inl ⟨hph, rfl, by show s.ep + 1 - 1 = _; omega⟩))⟩⟩
  intro j h1 h3 A cap
  have h4 : j = 1 ∨ j = 2 ∨ j = 3 := by omega
  rcases h4 with rfl | rfl | rfl
  · exact fun w h => advance_move1 w A cap (movedF a k s sh gp 1) h (tr_true hok1) k s hk hs hp0 he1 he2 rfl rfl rfl rfl rfl
  · exact fun w h => advance_move2 w A cap (movedF a k s sh gp 2) h (tr_true (hq 2 (.inl rfl))) k _ hks hss hps (by show 1 ≤ s.ep + 1; omega) (by show s.ep + 1 ≤ _; omega) rfl rfl rfl rfl rfl
  · exact fun w h => advance_move3 w A cap (movedF a k s sh gp 3) h (tr_true (hq 3 (.inr rfl))) k _ hks hss hps (by show 1 ≤ s.ep + 1; omega) (by show s.ep + 1 ≤ _; omega) rfl rfl rfl rfl rfl
theorem at_k (l : List Span) (k : Nat) (hk : k < l.length) (x : Span) (r : List Span) (h : k < (l.take k ++ x :: r).length) : (l.take k ++ x :: r)[k] = x := by
  have h1 : (l.take k).length = k := by rw [List.length_take]; omega
  rw [List.getElem_append_right (by omega)]
  simp [h1]
theorem at_k1 (l : List Span) (k : Nat) (hk : k < l.length) (x y : Span) (r : List Span) (h : k + 1 < (l.take k ++ x :: y :: r).length) : (l.take k ++ x :: y :: r)[k + 1] = y := by
  have h1 : (l.take k).length = k := by rw [List.length_take]; omega
  rw [List.getElem_append_right (by omega)]
  simp [h1]
theorem back_any (w : World) (A : Option Addr) (cap : Nat) (a : Atl) (sh gp : Int) (key : ByteArray) (h : MapIn w A cap a) (hks : key.size ≤ 9223372036854775807) :
    Calls Try.prog 10 #[a.val (.slice A a.sp.length cap), .int .i64 sh, .string key, .int .i64 gp] w fun e w' => e = .returned (.bool true) ∧ Below w.heap.size w w' := by
  cases hm : tr (MapOk a)
  · exact back_wrong w A cap a sh gp key h _ rfl hm
  have hok := of_tr hm
  cases b0 : (a.plan.kind == 0)
  · exact back_busy w A cap a sh gp key h _ rfl hm b0
  rcases place_ex a.sp sh with hp | ⟨k, hk, hp, hsh⟩
  · exact back_none w A cap a sh gp key h hp hm b0
  obtain ⟨s, hs⟩ : ∃ s, a.sp[k] = s := ⟨_, rfl⟩
  rw [hs] at hsh
  have hso := hok.2.2.2.2.1 k hk
  rw [hs] at hso
  obtain ⟨o1, o2, o3, he1, he2, o4, o5⟩ := hso
  have h16 : a.sp.length ≤ 16 := hok.2.2.2.1.1
  have hsec : (∃ y n2, ¬ n2 = 0 ∧ (n2 == 0) = false ∧ GivesMap 14 (fun v => #[v, (moveP sh gp).val]) A cap a y n2) ∨ (∃ f : Nat → Atl, GivesMap 14 (fun v => #[v, (moveP sh gp).val]) A cap a (f 1) 0 ∧ (∀ j : Nat, 1 ≤ j → j ≤ 3 → ∀ A cap, GivesMap 17 (fun v => #[v, .int .i64 (j : Int)]) A cap (f j) (f (j + 1)) 0) ∧ ((f 4).plan.kind == 0) = true ∧ ∃ hkf : k < (f 4).sp.length, (f 4).sp[k] = ⟨s.fr, s.to, s.sh, s.ep + 1, gp⟩) := by
    rcases begin_gives A cap a (moveP sh gp) key0 hok with ⟨n, hn, hg⟩ | ⟨R, hg, hRok, _, hb⟩
    · exact .inl ⟨a, n, hn, by simpa using hn, hg⟩
    · refine .inr ?_
      obtain ⟨_, k', hk', s', hs', hp', _, hep', hcs⟩ := hb
      have : k' = k := by
        have : place a.sp sh = (k' : Int) := hp'
        omega
      subst this
      rw [hs] at hs'
      subst hs'
      rcases hcs with ⟨_, g1, g2, g3, rfl⟩ | ⟨h2, _⟩ | ⟨h2, _⟩
      · exact ⟨movedF a k' s sh gp, hg, moved_gives hok k' hk s hs sh gp hRok g1 g2 g3 hep', rfl, by show k' < (a.sp.set k' _).length; rw [List.length_set]; exact hk, List.getElem_set_self _⟩
      · exact absurd h2 (by show ¬ (1 : Int) = 2; decide)
      · exact absurd h2 (by show ¬ (1 : Int) = 3; decide)
  rcases begin_gives A cap a (splitP sh key) hks hok with ⟨n, hn, hg⟩ | ⟨b, hg, hbok, _, hb⟩
  · rcases hsec with ⟨y, n2, h1, h2, h3⟩ | ⟨f, h1, h2, h3, hkf, h4⟩
    · exact back_no_no w A cap a sh gp key h k s hk hs he1 he2 hp hm b0 n a hn (by simpa using hn) hg y n2 h1 h2 h3
    · exact back_no_yes w A cap a sh gp key h k s hk hs he1 he2 hp hm b0 n a hn (by simpa using hn) hg f h1 h2 h3 hkf h4
  obtain ⟨_, k', hk', s', hs', hp', _, hep', hcs⟩ := hb
  have : k' = k := by
    have : place a.sp sh = (k' : Int) := hp'
    omega
  subst this
  rw [hs] at hs'
  subst hs'
  rcases hcs with ⟨h2, _⟩ | ⟨_, hin, hl16, rfl⟩ | ⟨h2, _⟩
  · exact absurd h2 (by show ¬ (2 : Int) = 1; decide)
  rotate_left
  · exact absurd h2 (by show ¬ (2 : Int) = 3; decide)
  have hno : place a.sp (a.last + 1) < 0 := by
    rw [place_no fun t ht he => ?_]
    · decide
    · have := ((mapOk_iff.1 hok).2.2.1.2 t ht).2.1
      omega
  obtain ⟨hcok, _⟩ := split_keeps hbok k' hk s hs hin hl16 hep' rfl hno
  have hlen : ((a.sp.take k' ++ (⟨s.fr, key, s.sh, s.ep + 1, s.gr⟩ : Span) :: (⟨key, s.to, a.last + 1, s.ep + 1, s.gr⟩ : Span) :: a.sp.drop (k' + 1))).length = a.sp.length + 1 := by
    simp only [List.length_append, List.length_take, List.length_cons, List.length_drop]
    omega
  have hj0 := Nat.lt_of_lt_of_eq (show k' < a.sp.length + 1 by omega) hlen.symm
  have hj1 := Nat.lt_of_lt_of_eq (show k' + 1 < a.sp.length + 1 by omega) hlen.symm
  have hj16 := Nat.le_trans (Nat.le_of_eq hlen) (show a.sp.length + 1 ≤ 16 by omega)
  have hF2 : ∀ A cap, GivesMap 17 (fun v => #[v, .int .i64 1]) A cap _ _ 0 := fun A cap w h => advance_split w A cap _ h (tr_true hbok) k' s hk hs o3 he1 he2 h16 rfl rfl rfl rfl rfl
  have c1 := at_k a.sp k' hk (⟨s.fr, key, s.sh, s.ep + 1, s.gr⟩ : Span) ((⟨key, s.to, a.last + 1, s.ep + 1, s.gr⟩ : Span) :: a.sp.drop (k' + 1)) (by omega)
  have c2 := at_k1 a.sp k' hk (⟨s.fr, key, s.sh, s.ep + 1, s.gr⟩ : Span) (⟨key, s.to, a.last + 1, s.ep + 1, s.gr⟩ : Span) (a.sp.drop (k' + 1)) (by omega)
  have hlc : (((a.sp.take k' ++ (⟨s.fr, key, s.sh, s.ep + 1, s.gr⟩ : Span) :: (⟨key, s.to, a.last + 1, s.ep + 1, s.gr⟩ : Span) :: a.sp.drop (k' + 1)).length : Int) == (a.sp.length : Int) + 1) = true := by
    rw [hlen]; simp
  rcases merge_gives hcok rfl k' hj1 _ _ c1 c2 sh hsh rfl rfl with ⟨hbig, hF3⟩ | ⟨hsm, hdok, hF3⟩
  · have hlt : ¬ s.ep < 1099511627773 := by
      have : 1099511627774 < s.ep + 1 := hbig
      omega
    rcases hsec with ⟨y, n2, h1, h2, h3⟩ | ⟨f, h1, h2, h3, hkf, h4⟩
    · exact back_half_no w A cap a sh gp key h k' s hk hs he1 he2 hp hm b0 _ _ _ hg hF2 hlc hF3 hlt (by simpa using hlt) y n2 h1 h2 h3
    · exact back_half_yes w A cap a sh gp key h k' s hk hs he1 he2 hp hm b0 _ _ _ hg hF2 hlc hF3 hlt (by simpa using hlt) f h1 h2 h3 hkf h4
  · have hsm' : s.ep + 1 ≤ 1099511627774 := hsm
    have hpd : place ((a.sp.take k' ++ (⟨s.fr, key, s.sh, s.ep + 1, s.gr⟩ : Span) :: (⟨key, s.to, a.last + 1, s.ep + 1, s.gr⟩ : Span) :: a.sp.drop (k' + 1))) s.sh = (k' : Int) := by
      have := place_at (mapOk_iff.1 hcok).2.2.1.1 k' hj0
      have e : ((a.sp.take k' ++ (⟨s.fr, key, s.sh, s.ep + 1, s.gr⟩ : Span) :: (⟨key, s.to, a.last + 1, s.ep + 1, s.gr⟩ : Span) :: a.sp.drop (k' + 1))[k']'(by omega)).sh = s.sh := by rw [c1]
      exact (congrArg _ e.symm).trans this
    have hF4 : ∀ A cap, GivesMap 17 (fun v => #[v, .int .i64 1]) A cap _ _ 0 := fun A cap w h => advance_join2 w A cap _ h (tr_true hdok) k' _ hj0 c1 hpd (by show 1 ≤ s.ep + 1; omega) (by show s.ep + 1 ≤ _; omega) hj16 _ hj1 c2 (by show 1 ≤ s.ep + 1; omega) (by show s.ep + 1 ≤ _; omega) rfl rfl rfl rfl rfl (Int.lt_irrefl _)
    have hL : ((a.sp.take k' ++ (⟨s.fr, key, s.sh, s.ep + 1, s.gr⟩ : Span) :: (⟨key, s.to, a.last + 1, s.ep + 1, s.gr⟩ : Span) :: a.sp.drop (k' + 1)).take k' ++ (⟨s.fr, s.to, s.sh, s.ep + 1 + 1, s.gr⟩ : Span) :: (a.sp.take k' ++ (⟨s.fr, key, s.sh, s.ep + 1, s.gr⟩ : Span) :: (⟨key, s.to, a.last + 1, s.ep + 1, s.gr⟩ : Span) :: a.sp.drop (k' + 1)).drop (k' + 2)).length = a.sp.length := by
      rw [List.length_append, List.length_cons, List.length_take, List.length_drop, hlen]
      omega
    have hjx := Nat.lt_of_lt_of_eq hk hL.symm
    have hxk := at_k (a.sp.take k' ++ (⟨s.fr, key, s.sh, s.ep + 1, s.gr⟩ : Span) :: (⟨key, s.to, a.last + 1, s.ep + 1, s.gr⟩ : Span) :: a.sp.drop (k' + 1)) k' (by omega) (⟨s.fr, s.to, s.sh, s.ep + 1 + 1, s.gr⟩ : Span) ((a.sp.take k' ++ (⟨s.fr, key, s.sh, s.ep + 1, s.gr⟩ : Span) :: (⟨key, s.to, a.last + 1, s.ep + 1, s.gr⟩ : Span) :: a.sp.drop (k' + 1)).drop (k' + 2)) (by rw [hL]; exact hk)
    have hxk' := hxk.trans (show (⟨s.fr, s.to, s.sh, s.ep + 1 + 1, s.gr⟩ : Span) = ⟨s.fr, s.to, s.sh, s.ep + 2, s.gr⟩ by rw [show s.ep + 1 + 1 = s.ep + 2 by omega])
    have hlx : ((((a.sp.take k' ++ (⟨s.fr, key, s.sh, s.ep + 1, s.gr⟩ : Span) :: (⟨key, s.to, a.last + 1, s.ep + 1, s.gr⟩ : Span) :: a.sp.drop (k' + 1)).take k' ++ (⟨s.fr, s.to, s.sh, s.ep + 1 + 1, s.gr⟩ : Span) :: (a.sp.take k' ++ (⟨s.fr, key, s.sh, s.ep + 1, s.gr⟩ : Span) :: (⟨key, s.to, a.last + 1, s.ep + 1, s.gr⟩ : Span) :: a.sp.drop (k' + 1)).drop (k' + 2)).length : Int) == (a.sp.length : Int)) = true := by
      rw [hL]; simp
    rcases hsec with ⟨y, n2, h1, h2, h3⟩ | ⟨f, h1, h2, h3, hkf, h4⟩
    · exact back_full_no w A cap a sh gp key h k' s hk hs he1 he2 hp hm b0 _ _ _ hg hF2 hlc _ hF3 hF4 hlx hjx hxk' y n2 h1 h2 h3
    · exact back_full_yes w A cap a sh gp key h k' s hk hs he1 he2 hp hm b0 _ _ _ hg hF2 hlc _ hF3 hF4 hlx hjx hxk' f h1 h2 h3 hkf h4
end Go.Proofs.Ytimondpollbdfaa
