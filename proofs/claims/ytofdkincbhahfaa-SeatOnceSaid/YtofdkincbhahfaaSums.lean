/- What is proved: what a put and a look make and answer, both programs', by the book's data alone. -/
import Derived.Test.YtofdkincbhahfaaRPut
set_option linter.unusedVariables false
set_option linter.unusedSimpArgs false
namespace Go.Proofs.Ytofdkincbhahfaa
open Go.RowKit

theorem mergeL_dat : ∀ (n : Nat) (a b : List Seen), a.length + b.length ≤ n → (mergeL a b).map Seen.dat = mergeD (a.map Seen.dat) (b.map Seen.dat)
  | _, [], b, _ => by simp [mergeL, mergeD]
  | _, x :: a, [], _ => by simp [mergeL, mergeD]
  | 0, x :: a, y :: b, h => by simp at h
  | n + 1, x :: a, y :: b, h => by
    simp only [List.length_cons] at h
    have e1 := mergeL_dat n a (y :: b) (by simp only [List.length_cons]; omega)
    have e2 := mergeL_dat n (x :: a) b (by simp only [List.length_cons]; omega)
    have e3 := mergeL_dat n a b (by omega)
    have hx : x.dat.1 = x.client := rfl
    have hy : y.dat.1 = y.client := rfl
    rw [mergeL]
    split
    · rename_i h1
      rw [List.map_cons, e1, List.map_cons, List.map_cons, mergeD_lt _ _ (by rw [hx, hy]; exact h1)]
    · split
      · rename_i h1 h2
        rw [List.map_cons, e2, List.map_cons, List.map_cons, mergeD_gt _ _ (by rw [hx, hy]; exact h2)]
      · rename_i h1 h2
        rw [List.map_cons, e3, List.map_cons, List.map_cons, mergeD_eq _ _ (by rw [hx, hy]; omega)]
        congr 1
        by_cases h3 : x.seq < y.seq
        · rw [if_pos h3, pick_lt h3]
        · rw [if_neg h3, pick_ge h3]
/-- A put makes what putD says. -/
def PutsD (f : FuncId) : Prop := ∀ (w : World) (A : Option Addr) (cap : Nat) (l : List Seen) (s : Seen), BookIn w A cap l → JobsIn w s →
  Calls Try.prog f #[.slice A l.length cap, s.val] w fun e w' => ∃ (A' : Option Addr) (cap' : Nat) (m : List Seen), e = .returned (.tuple #[.slice A' m.length cap', .int .i64 (putD (l.map Seen.dat) s.dat).2]) ∧ m.map Seen.dat = (putD (l.map Seen.dat) s.dat).1 ∧ BookIn w' A' cap' m ∧ Below w.heap.size w w'
theorem puts_to {f : FuncId} {A : Option Addr} {cap : Nat} {l : List Seen} {s : Seen} {D : List Seen} {n : Int} (h : Puts f A cap l s D n) (hd : putD (l.map Seen.dat) s.dat = (D.map Seen.dat, n)) (w : World) (h1 : BookIn w A cap l) (h2 : JobsIn w s) :
    Calls Try.prog f #[.slice A l.length cap, s.val] w fun e w' => ∃ (A' : Option Addr) (cap' : Nat) (m : List Seen), e = .returned (.tuple #[.slice A' m.length cap', .int .i64 (putD (l.map Seen.dat) s.dat).2]) ∧ m.map Seen.dat = (putD (l.map Seen.dat) s.dat).1 ∧ BookIn w' A' cap' m ∧ Below w.heap.size w w' := by
  rw [hd]
  exact h w h1 h2
theorem put10 : PutsD 10 := by
  intro w A cap l s h1 h2
  have hbk : tr (BookOk l) = tr (OkD (l.map Seen.dat)) := tr_iff (bookOk_iff l)
  cases hb : tr (BookOk l)
  · exact puts_to (put_bad A cap l s hb) (putD_bad (hbk ▸ hb)) w h1 h2
  cases hr : rightB s.client s.seq
  · exact puts_to (put_arg A cap l s hb hr) (putD_arg (hbk ▸ hb) hr) w h1 h2
  have hok := of_tr hb
  have hp := ((bookOk_iff l).1 hok).2
  have h64 := book_len hok
  obtain ⟨i, hi⟩ := pos_ex hok s.client
  cases hf : foundB l s.client i
  · have hno := found_no hok hi hf
    refine puts_to (put_ins A cap l s hb hr (by omega) i hi h64 hf) ?_ w h1 h2
    rw [putD_ok (hbk ▸ hb) hr (fun x hx => by
      obtain ⟨h3, h4⟩ := getD_some hx
      obtain ⟨t, ht, rfl⟩ := List.mem_map.1 h3
      obtain ⟨k, hk, rfl⟩ := List.getElem_of_mem ht
      exact absurd h4 (hno k hk))]
    rw [mergeD_ins (l.map Seen.dat) i (by simpa using hi.1) (fun k hk hki => by
      simp only [List.length_map] at hk
      simp only [List.getElem_map]
      exact hi.2.1 k hk hki) (fun hk => by
      simp only [List.length_map] at hk
      simp only [List.getElem_map]
      have h3 := hi.2.2 i hk (Nat.le_refl _)
      have h4 := hno i hk
      show s.client < l[i].client
      omega)]
    simp [List.map_take, List.map_drop]
  · obtain ⟨hil, hc⟩ := found_at hf
    have hg : getD (l.map Seen.dat) s.client = some l[i].dat := getD_at hp (List.mem_map_of_mem (List.getElem_mem hil)) hc
    by_cases hq : s.seq ≤ l[i].seq
    · exact puts_to (put_stale A cap l s hb hr (by omega) i hi hf hil _ rfl hq (decide_eq_true hq)) (putD_stale (hbk ▸ hb) hr hg (by show ¬ l[i].seq < s.seq; omega)) w h1 h2
    · refine puts_to (put_set A cap l s hb hr (by omega) i hi hf hil _ rfl h64 hq (decide_eq_false hq)) ?_ w h1 h2
      rw [putD_ok (hbk ▸ hb) hr (fun x hx => by
        rw [show s.dat.1 = s.client from rfl, hg] at hx
        injection hx with hx
        rw [← hx]
        show l[i].seq < s.seq
        omega)]
      rw [mergeD_set (l.map Seen.dat) i (by simpa using hil) (fun k hk hki => by
        simp only [List.length_map] at hk
        simp only [List.getElem_map]
        exact hi.2.1 k hk hki) (by simp only [List.getElem_map]; exact hc) (by simp only [List.getElem_map]; show l[i].seq < s.seq; omega)]
      rw [List.map_set]
theorem put11 : PutsD 11 := by
  intro w A cap l s h1 h2
  have hbk : tr (BookOk l) = tr (OkD (l.map Seen.dat)) := tr_iff (bookOk_iff l)
  cases hb : tr (BookOk l)
  · exact puts_to (rput_bad A cap l s hb) (putD_bad (hbk ▸ hb)) w h1 h2
  cases hr : rightB s.client s.seq
  · exact puts_to (rput_arg A cap l s hb hr) (putD_arg (hbk ▸ hb) hr) w h1 h2
  have hok := of_tr hb
  have hp := ((bookOk_iff l).1 hok).2
  obtain ⟨i, hi⟩ := pos_ex hok s.client
  have hmg : (mergeL l [s]).map Seen.dat = mergeD (l.map Seen.dat) [s.dat] := mergeL_dat _ l [s] (Nat.le_refl _)
  cases hf : foundB l s.client i
  · have hno := found_no hok hi hf
    refine puts_to (rput_ok A cap l s hb hr (fun k hk he => absurd he (hno k hk))) ?_ w h1 h2
    rw [putD_ok (hbk ▸ hb) hr (fun x hx => by
      obtain ⟨h3, h4⟩ := getD_some hx
      obtain ⟨t, ht, rfl⟩ := List.mem_map.1 h3
      obtain ⟨k, hk, rfl⟩ := List.getElem_of_mem ht
      exact absurd h4 (hno k hk)), hmg]
  · obtain ⟨hil, hc⟩ := found_at hf
    have hg : getD (l.map Seen.dat) s.client = some l[i].dat := getD_at hp (List.mem_map_of_mem (List.getElem_mem hil)) hc
    have hne := found_just hok hil hc
    by_cases hq : s.seq ≤ l[i].seq
    · exact puts_to (rput_stale A cap l s hb hr i hil hne _ rfl (by simpa using hc) hq (decide_eq_true hq)) (putD_stale (hbk ▸ hb) hr hg (by show ¬ l[i].seq < s.seq; omega)) w h1 h2
    · refine puts_to (rput_ok A cap l s hb hr (fun k hk he => ?_)) ?_ w h1 h2
      · by_cases hki : k = i
        · subst hki; omega
        · exact absurd he (hne k hk hki)
      · rw [putD_ok (hbk ▸ hb) hr (fun x hx => by
          rw [show s.dat.1 = s.client from rfl, hg] at hx
          injection hx with hx
          rw [← hx]
          show l[i].seq < s.seq
          omega), hmg]
/-- A look answers what lookD says. -/
def LooksD (f : FuncId) : Prop := ∀ (w : World) (A : Option Addr) (cap : Nat) (l : List Seen) (c q : Int), BookIn w A cap l →
  Calls Try.prog f #[.slice A l.length cap, .int .i64 c, .int .i64 q] w fun e w' => ∃ J jc, e = .returned (.tuple #[resV (lookD (l.map Seen.dat) c q).err (lookD (l.map Seen.dat) c q).time (.slice J (lookD (l.map Seen.dat) c q).jobs.length jc), .int .i64 (lookD (l.map Seen.dat) c q).no]) ∧ ResIn w' J jc (lookD (l.map Seen.dat) c q).jobs ∧ Below w.heap.size w w'
theorem looks_to {f : FuncId} {A : Option Addr} {cap : Nat} {l : List Seen} {c q : Int} {a : Ans} (h : Looks f A cap l c q a) (hd : lookD (l.map Seen.dat) c q = a) (w : World) (h1 : BookIn w A cap l) :
    Calls Try.prog f #[.slice A l.length cap, .int .i64 c, .int .i64 q] w fun e w' => ∃ J jc, e = .returned (.tuple #[resV (lookD (l.map Seen.dat) c q).err (lookD (l.map Seen.dat) c q).time (.slice J (lookD (l.map Seen.dat) c q).jobs.length jc), .int .i64 (lookD (l.map Seen.dat) c q).no]) ∧ ResIn w' J jc (lookD (l.map Seen.dat) c q).jobs ∧ Below w.heap.size w w' := by
  rw [hd]
  exact h w h1
theorem look8 : LooksD 8 := by
  intro w A cap l c q h1
  have hbk : tr (BookOk l) = tr (OkD (l.map Seen.dat)) := tr_iff (bookOk_iff l)
  cases hb : tr (BookOk l)
  · exact looks_to (look_bad A cap l c q hb) (by unfold lookD; rw [if_pos (hbk ▸ hb)]) w h1
  have hn : ¬ tr (OkD (l.map Seen.dat)) = false := by rw [← hbk, hb]; decide
  cases hr : rightB c q
  · exact looks_to (look_arg A cap l c q hb hr) (by unfold lookD; rw [if_neg hn, if_pos hr]) w h1
  have hr2 : ¬ rightB c q = false := by rw [hr]; decide
  have hok := of_tr hb
  have hl : l.length ≤ 4611686018427387903 := by have := book_len hok; omega
  have hp := ((bookOk_iff l).1 hok).2
  obtain ⟨i, hi⟩ := pos_ex hok c
  cases hf : foundB l c i
  · have hno := found_no hok hi hf
    have hg : getD (l.map Seen.dat) c = none := getD_none fun x hx => by
      obtain ⟨t, ht, rfl⟩ := List.mem_map.1 hx
      obtain ⟨k, hk, rfl⟩ := List.getElem_of_mem ht
      exact hno k hk
    exact looks_to (look_none A cap l c q hb hr hl i hi hf) (by unfold lookD; rw [if_neg hn, if_neg hr2, hg]) w h1
  · obtain ⟨hil, hc⟩ := found_at hf
    have hg : getD (l.map Seen.dat) c = some l[i].dat := getD_at hp (List.mem_map_of_mem (List.getElem_mem hil)) hc
    have e1 : l[i].dat.2.1 = l[i].seq := rfl
    rcases Int.lt_trichotomy l[i].seq q with h2 | h2 | h2
    · exact looks_to (look_less A cap l c q hb hr hl i hi hf hil _ rfl h2 (decide_eq_true h2)) (by unfold lookD; rw [if_neg hn, if_neg hr2, hg]; simp only [e1]; rw [if_pos h2]) w h1
    · exact looks_to (look_ok A cap l c q hb hr hl i hi hf hil _ rfl (by omega) (decide_eq_false (by omega)) (by omega) (decide_eq_false (by omega))) (by unfold lookD; rw [if_neg hn, if_neg hr2, hg]; simp only [e1]; rw [if_neg (by omega), if_neg (by omega)]; rfl) w h1
    · exact looks_to (look_stale A cap l c q hb hr hl i hi hf hil _ rfl (by omega) (decide_eq_false (by omega)) h2 (decide_eq_true h2)) (by unfold lookD; rw [if_neg hn, if_neg hr2, hg]; simp only [e1]; rw [if_neg (by omega), if_pos h2]) w h1
theorem look9 : LooksD 9 := by
  intro w A cap l c q h1
  have hbk : tr (BookOk l) = tr (OkD (l.map Seen.dat)) := tr_iff (bookOk_iff l)
  cases hb : tr (BookOk l)
  · exact looks_to (rlook_bad A cap l c q hb) (by unfold lookD; rw [if_pos (hbk ▸ hb)]) w h1
  have hn : ¬ tr (OkD (l.map Seen.dat)) = false := by rw [← hbk, hb]; decide
  cases hr : rightB c q
  · exact looks_to (rlook_arg A cap l c q hb hr) (by unfold lookD; rw [if_neg hn, if_pos hr]) w h1
  have hr2 : ¬ rightB c q = false := by rw [hr]; decide
  have hok := of_tr hb
  have hp := ((bookOk_iff l).1 hok).2
  obtain ⟨i, hi⟩ := pos_ex hok c
  cases hf : foundB l c i
  · have hno := found_no hok hi hf
    have hg : getD (l.map Seen.dat) c = none := getD_none fun x hx => by
      obtain ⟨t, ht, rfl⟩ := List.mem_map.1 hx
      obtain ⟨k, hk, rfl⟩ := List.getElem_of_mem ht
      exact hno k hk
    exact looks_to (rlook_no A cap l c q hb hr hno) (by unfold lookD; rw [if_neg hn, if_neg hr2, hg]) w h1
  · obtain ⟨hil, hc⟩ := found_at hf
    have hc1 : (l[i].client == c) = true := by simpa using hc
    have hne := found_just hok hil hc
    have hg : getD (l.map Seen.dat) c = some l[i].dat := getD_at hp (List.mem_map_of_mem (List.getElem_mem hil)) hc
    have e1 : l[i].dat.2.1 = l[i].seq := rfl
    rcases Int.lt_trichotomy l[i].seq q with h2 | h2 | h2
    · exact looks_to (rlook_less A cap l c q hb hr i hil hne _ rfl hc1 (by simp; omega) (by omega) (decide_eq_false (by omega))) (by unfold lookD; rw [if_neg hn, if_neg hr2, hg]; simp only [e1]; rw [if_pos h2]) w h1
    · exact looks_to (rlook_ok A cap l c q hb hr i hil hne _ rfl hc1 (by simp; omega)) (by unfold lookD; rw [if_neg hn, if_neg hr2, hg]; simp only [e1]; rw [if_neg (by omega), if_neg (by omega)]; rfl) w h1
    · exact looks_to (rlook_stale A cap l c q hb hr i hil hne _ rfl hc1 (by simp; omega) h2 (decide_eq_true h2)) (by unfold lookD; rw [if_neg hn, if_neg hr2, hg]; simp only [e1]; rw [if_neg (by omega), if_pos h2]) w h1
end Go.Proofs.Ytofdkincbhahfaa
