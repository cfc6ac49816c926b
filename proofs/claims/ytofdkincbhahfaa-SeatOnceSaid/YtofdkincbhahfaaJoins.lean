/- What is proved: two books are joined: both programs' Join. -/
import Derived.Test.YtofdkincbhahfaaSums
set_option linter.unusedVariables false
set_option linter.unusedSimpArgs false
namespace Go.Proofs.Ytofdkincbhahfaa
open Go.RowKit
attribute [local go_sem] Seen.val

/-- What a join makes: the book, and the error's number. -/
noncomputable def joinD (a b : List Dat) : List Dat × Int := if tr (OkD a) = false then ([], 4) else if tr (OkD b) = false then ([], 4) else (mergeD a b, 0)
def JoinsD (f : FuncId) : Prop := ∀ (w : World) (A B : Option Addr) (cap bc : Nat) (a b : List Seen), BookIn w A cap a → BookIn w B bc b →
  Calls Try.prog f #[.slice A a.length cap, .slice B b.length bc] w fun e w' => ∃ (M : Option Addr) (mc : Nat) (m : List Seen), e = .returned (.tuple #[.slice M m.length mc, .int .i64 (joinD (a.map Seen.dat) (b.map Seen.dat)).2]) ∧ m.map Seen.dat = (joinD (a.map Seen.dat) (b.map Seen.dat)).1 ∧ BookIn w' M mc m ∧ Below w.heap.size w w'
theorem tr_book (l : List Seen) : tr (BookOk l) = tr (OkD (l.map Seen.dat)) := tr_iff (bookOk_iff l)
theorem check_dat (w : World) (A : Option Addr) (cap : Nat) (l : List Seen) (h : BookIn w A cap l) : Calls Try.prog 12 #[.slice A l.length cap] w fun e w' => e = .returned (.bool (tr (OkD (l.map Seen.dat)))) ∧ Below w.heap.size w w' := by
  rw [← tr_book]
  exact check_any w A cap l h.row (Nat.le_trans h.ncap h.cmax)
theorem rCheck_dat (w : World) (A : Option Addr) (cap : Nat) (l : List Seen) (h : BookIn w A cap l) : Calls Try.prog 13 #[.slice A l.length cap] w fun e w' => e = .returned (.bool (tr (OkD (l.map Seen.dat)))) ∧ Below w.heap.size w w' := by
  rw [← tr_book]
  exact rCheck_any w A cap l h.row (Nat.le_trans h.ncap h.cmax)
theorem okD_len {l : List Seen} (h : OkD (l.map Seen.dat)) : l.length ≤ 64 := book_len ((bookOk_iff l).2 h)
set_option maxRecDepth 100000 in
set_option maxHeartbeats 4000000 in
theorem rjoin_any : JoinsD 17 := by
  intro w A B cap bc a b ha hb
  have HA := Lib.hid ha; have HB := Lib.hid hb
  have hCa := fun w (h : BookIn w A cap a) => rCheck_dat w A cap a h
  have hCb := fun w (h : BookIn w B bc b) => rCheck_dat w B bc b h
  unfold joinD
  cases ea : tr (OkD (a.map Seen.dat))
  · rw [if_pos rfl]
    rw [ea] at hCa
    have HCa := Lib.hid hCa
    clear hCa hCb ha hb ea
    go_enter Try.func17, Try.ntmps17
    go_wp2_with (go_at_call 13
                 refine (HCa.out _ HA.out).mono ?_
                 rintro e w1 ⟨rfl, hb1⟩
                 have HB1 := Lib.hid hb1
                 clear hb1)
    go_ret2
    exact ⟨none, 0, [], rfl, rfl, book_nil _, HB1.out⟩
  · rw [if_neg (by decide)]
    rw [ea] at hCa
    cases eb : tr (OkD (b.map Seen.dat))
    · rw [if_pos rfl]
      rw [eb] at hCb
      have HCa := Lib.hid hCa; have HCb := Lib.hid hCb
      clear hCa hCb ha hb ea eb
      go_enter Try.func17, Try.ntmps17
      go_wp2_with (first
                   | (go_at_call 13
                      refine (HCb.out _ (HB.out.below HB1.out)).mono ?_
                      rintro e w2 ⟨rfl, hb2⟩
                      have HB2 := Lib.hid (HB1.out.trans (hb2.mono HB1.out.size))
                      clear hb2)
                   | (go_at_call 13
                      refine (HCa.out _ HA.out).mono ?_
                      rintro e w1 ⟨rfl, hb1⟩
                      have HB1 := Lib.hid hb1
                      clear hb1))
      go_ret2
      exact ⟨none, 0, [], rfl, rfl, book_nil _, HB2.out⟩
    · rw [if_neg (by decide)]
      rw [eb] at hCb
      have la := okD_len (of_tr ea)
      have lb := okD_len (of_tr eb)
      have HCa := Lib.hid hCa; have HCb := Lib.hid hCb
      clear hCa hCb ha hb ea eb
      go_enter Try.func17, Try.ntmps17
      go_wp2_with (first
                   | (go_at_call 24
                      refine (merge_any w2 A B cap bc a b (HA.out.below HB2.out) (HB.out.below HB2.out) la lb).mono ?_
                      rintro e w3 ⟨M, mc, rfl, hO3, hb3⟩
                      have HO3 := Lib.hid hO3
                      have HB3 := Lib.hid (HB2.out.trans (hb3.mono HB2.out.size))
                      clear hO3 hb3)
                   | (go_at_call 13
                      refine (HCb.out _ (HB.out.below HB1.out)).mono ?_
                      rintro e w2 ⟨rfl, hb2⟩
                      have HB2 := Lib.hid (HB1.out.trans (hb2.mono HB1.out.size))
                      clear hb2)
                   | (go_at_call 13
                      refine (HCa.out _ HA.out).mono ?_
                      rintro e w1 ⟨rfl, hb1⟩
                      have HB1 := Lib.hid hb1
                      clear hb1))
      go_ret2
      exact ⟨M, mc, mergeL a b, rfl, mergeL_dat _ a b (Nat.le_refl _), BookIn.ofOwn HO3.out (fun s1 hs1 => by
        rcases mergeL_mem _ _ _ (Nat.le_refl _) s1 hs1 with h1 | h1
        · exact (HA.out.jobs s1 h1).below HB3.out
        · exact (HB.out.jobs s1 h1).below HB3.out), HB3.out⟩
/-- The book behind k sessions that were put in. -/
def putsTo (a b : List Dat) (k : Nat) : List Dat := (b.take k).foldl (fun l s => mergeD l [s]) a
theorem putsTo_next {a b : List Dat} {k : Nat} (h : k < b.length) : putsTo a b (k + 1) = mergeD (putsTo a b k) [b[k]] := by
  unfold putsTo
  rw [List.take_succ_eq_append_getElem h, List.foldl_append]
  rfl
theorem putsTo_ok {a b : List Dat} (ha : OkD a) (hb : OkD b) : ∀ k, k ≤ b.length → OkD (putsTo a b k)
  | 0, _ => ha
  | k + 1, h => by
    rw [putsTo_next (by omega)]
    exact mergeD_ok (putsTo_ok ha hb k (by omega)) (okD_one (hb.1 _ (List.getElem_mem _)))
theorem put_any {d : List Dat} {s : Dat} (hd : OkD d) (hs : rightB s.1 s.2.1 = true) : ((putD d s).2 = 0 ∧ (putD d s).1 = mergeD d [s]) ∨ ((putD d s).2 = 160 ∧ mergeD d [s] = d) := by
  cases hg : getD d s.1 with
  | none => rw [putD_ok (tr_true hd) hs (fun x hx => by rw [hg] at hx; cases hx)]; exact .inl ⟨rfl, rfl⟩
  | some x =>
    by_cases hq : x.2.1 < s.2.1
    · rw [putD_ok (tr_true hd) hs (fun y hy => by rw [hg] at hy; injection hy with hy; rw [← hy]; exact hq)]
      exact .inl ⟨rfl, rfl⟩
    · rw [putD_stale (tr_true hd) hs hg hq]
      obtain ⟨h1, h2⟩ := getD_some hg
      exact .inr ⟨rfl, mergeD_keep hd.2 h1 h2 hq⟩
set_option maxRecDepth 100000 in
set_option maxHeartbeats 4000000 in
theorem join_any : JoinsD 16 := by
  intro w A B cap bc a b ha hb
  have HA := Lib.hid ha; have HB := Lib.hid hb
  have hCa := fun w (h : BookIn w A cap a) => check_dat w A cap a h
  have hCb := fun w (h : BookIn w B bc b) => check_dat w B bc b h
  unfold joinD
  cases ea : tr (OkD (a.map Seen.dat))
  · rw [if_pos rfl]
    rw [ea] at hCa
    have HCa := Lib.hid hCa
    clear hCa hCb ha hb ea
    go_enter Try.func16, Try.ntmps16
    go_wp2_with (go_at_call 12
                 refine (HCa.out _ HA.out).mono ?_
                 rintro e w1 ⟨rfl, hb1⟩
                 have HB1 := Lib.hid hb1
                 clear hb1)
    go_ret2
    exact ⟨none, 0, [], rfl, rfl, book_nil _, HB1.out⟩
  · rw [if_neg (by decide)]
    rw [ea] at hCa
    cases eb : tr (OkD (b.map Seen.dat))
    · rw [if_pos rfl]
      rw [eb] at hCb
      have HCa := Lib.hid hCa; have HCb := Lib.hid hCb
      clear hCa hCb ha hb ea eb
      go_enter Try.func16, Try.ntmps16
      go_wp2_with (first
                   | (go_at_call 12
                      refine (HCb.out _ (HB.out.below HB1.out)).mono ?_
                      rintro e w2 ⟨rfl, hb2⟩
                      have HB2 := Lib.hid (HB1.out.trans (hb2.mono HB1.out.size))
                      clear hb2)
                   | (go_at_call 12
                      refine (HCa.out _ HA.out).mono ?_
                      rintro e w1 ⟨rfl, hb1⟩
                      have HB1 := Lib.hid hb1
                      clear hb1))
      go_ret2
      exact ⟨none, 0, [], rfl, rfl, book_nil _, HB2.out⟩
    · rw [if_neg (by decide)]
      rw [eb] at hCb
      have la := okD_len (of_tr ea)
      have lb := okD_len (of_tr eb)
      have hoa := of_tr ea; have hob := of_tr eb
      have HOa := Lib.hid hoa; have HOb := Lib.hid hob
      have HCa := Lib.hid hCa; have HCb := Lib.hid hCb
      clear hCa hCb ha hb ea eb hoa hob
      go_enter Try.func16, Try.ntmps16
      go_upto_region 4 with (first
                   | (go_at_call 20
                      refine (copied_any w2 A cap a (HA.out.below HB2.out) (by omega)).mono ?_
                      rintro e w3 ⟨A3, c3, m3, rfl, hml3, hmd3, hO3, hj3, hb3⟩
                      have HM3 := Lib.hid hmd3
                      have HI3 := Lib.hid (show BookIn w3 A3 c3 m3 from BookIn.ofOwn (by rw [hml3]; exact hO3) (fun s1 hs1 => (hj3 s1 hs1).1))
                      have HB3 := Lib.hid (HB2.out.trans (hb3.mono HB2.out.size))
                      have HL3 := Lib.hid hml3
                      clear hml3 hmd3 hO3 hj3 hb3)
                   | (go_at_call 12
                      refine (HCb.out _ (HB.out.below HB1.out)).mono ?_
                      rintro e w2 ⟨rfl, hb2⟩
                      have HB2 := Lib.hid (HB1.out.trans (hb2.mono HB1.out.size))
                      clear hb2)
                   | (go_at_call 12
                      refine (HCa.out _ HA.out).mono ?_
                      rintro e w1 ⟨rfl, hb1⟩
                      have HB1 := Lib.hid hb1
                      clear hb1))
      go_wp2_with fail
      go_loopw [6, 23] (fun o v wr => ∃ (k : Nat) (A' : Option Addr) (c' : Nat) (m : List Seen), k ≤ b.length ∧ v = .int .i64 k ∧ o = .slice A' m.length c' ∧ m.map Seen.dat = putsTo (a.map Seen.dat) (b.map Seen.dat) k ∧ BookIn wr A' c' m ∧ Below w.heap.size w wr) (fun _ v _ => b.length - (intOf v).toNat)
      case atStart => exact ⟨0, A3, c3, m3, Nat.zero_le _, rfl, by rw [HL3.out], HM3.out, HI3.out, HB3.out⟩
      case round =>
        obtain ⟨k, A', c', m, hk, rfl, rfl, hm, hI, hB⟩ := hrel
        have Hm := Lib.hid hm; have HI := Lib.hid hI; have HBr := Lib.hid hB
        clear hm hI hB
        by_cases hlt : k < b.length
        · obtain ⟨gb, ob, rfl, hgb, y0, y1, y2, y3, y4⟩ := seen_cells (HB.out.below HBr.out).row k hlt
          have k1 : (0 : Int) ≤ (k : Int) := by omega
          have k2 : (k : Int) < (b.length : Int) := by omega
          have hjs := (HB.out.below HBr.out).jobs b[k] (List.getElem_mem hlt)
          have hkb : k < (b.map Seen.dat).length := by simpa using hlt
          have hokm : OkD (m.map Seen.dat) := by rw [Hm.out]; exact putsTo_ok HOa.out HOb.out k (by omega)
          have hrs : rightB b[k].dat.1 b[k].dat.2.1 = true := HOb.out.1 _ (List.mem_map_of_mem (List.getElem_mem hlt))
          have hnx : putsTo (a.map Seen.dat) (b.map Seen.dat) (k + 1) = mergeD (m.map Seen.dat) [b[k].dat] := by rw [putsTo_next hkb, Hm.out]; simp
          have hpa := put_any hokm hrs
          obtain ⟨s, hs⟩ : ∃ s, b[k] = s := ⟨_, rfl⟩
          rw [hs] at y0 y1 y2 y3 y4 hjs hpa hnx
          have hP := fun w (h1 : BookIn w A' c' m) (h2 : JobsIn w s) => put10 w A' c' m s h1 h2
          have Hnx := Lib.hid hnx; have Hjs := Lib.hid hjs
          clear hs hrs hokm hnx hjs hkb
          rcases hpa with ⟨hn, hd⟩ | ⟨hn, hd⟩
          · rw [hn, hd] at hP
            have HP := Lib.hid hP
            clear hP hn hd
            go_upto_region 7 with fail
            have hv := heap_alloc_new wr s.blk
            have hal : Below wr.heap.size wr (wr.alloc s.blk) := al _
            change Code.wp _ _ _ _ (wr.alloc s.blk)
            generalize wr.alloc s.blk = wz at *
            obtain ⟨x0, x1, x2, x3, x4, xlt⟩ := seen_blk hv
            have Hal := Lib.hid hal
            clear hal hv
            go_wp2_with (go_at_call 10
                         refine (HP.out _ (HI.out.below Hal.out) (Hjs.out.below Hal.out)).mono ?_
                         rintro e w5 ⟨A5, c5, m5, rfl, hm5, hI5, hb5⟩
                         have Hm5 := Lib.hid hm5; have HI5 := Lib.hid hI5
                         have HB5 := Lib.hid (HBr.out.trans ((Hal.out.trans (hb5.mono Hal.out.size)).mono HBr.out.size))
                         clear hm5 hI5 hb5)
            go_roundw
            case rel => exact ⟨k + 1, A5, c5, m5, by omega, by go_num, rfl, by rw [Hm5.out, Hnx.out], HI5.out, HB5.out⟩
            case measure => simp [intOf]; omega
          · rw [hn] at hP
            have HP := Lib.hid hP; have Hd := Lib.hid hd
            clear hP hn hd
            go_upto_region 7 with fail
            have hv := heap_alloc_new wr s.blk
            have hal : Below wr.heap.size wr (wr.alloc s.blk) := al _
            change Code.wp _ _ _ _ (wr.alloc s.blk)
            generalize wr.alloc s.blk = wz at *
            obtain ⟨x0, x1, x2, x3, x4, xlt⟩ := seen_blk hv
            have Hal := Lib.hid hal
            clear hal hv
            go_wp2_with (go_at_call 10
                         refine (HP.out _ (HI.out.below Hal.out) (Hjs.out.below Hal.out)).mono ?_
                         rintro e w5 ⟨A5, c5, m5, rfl, hm5, hI5, hb5⟩
                         have HIm := Lib.hid ((HI.out.below Hal.out).below hb5)
                         have HB5 := Lib.hid (HBr.out.trans ((Hal.out.trans (hb5.mono Hal.out.size)).mono HBr.out.size))
                         clear hm5 hI5 hb5)
            go_roundw
            case rel => exact ⟨k + 1, A', c', m, by omega, by go_num, rfl, by rw [Hnx.out, Hd.out], HIm.out, HB5.out⟩
            case measure => simp [intOf]; omega
        · obtain rfl : k = b.length := by omega
          have hfin : putsTo (a.map Seen.dat) (b.map Seen.dat) b.length = mergeD (a.map Seen.dat) (b.map Seen.dat) := by
            unfold putsTo
            rw [List.take_of_length_le (by simp), mergeD_fold _ _ HOb.out.2]
          have Hfin := Lib.hid (Hm.out.trans hfin)
          clear hfin
          go_wp2_with fail
          go_ret2
          exact ⟨A', c', m, rfl, Hfin.out, HI.out, HBr.out⟩
end Go.Proofs.Ytofdkincbhahfaa
