/- What is proved: SeatJoins answers yes, whatever the two books. Condition: the jobs of each session take at most 2^47 bytes. -/
import Derived.Test.YtofdkincbhahfaaLooksW
set_option linter.unusedVariables false
set_option linter.unusedSimpArgs false
namespace Go.Proofs.Ytofdkincbhahfaa
open Go.RowKit
attribute [local go_sem] Seen.val resV cell_over frozen_over

theorem joinD_bad {a b : List Dat} (h : tr (OkD a) = false ∨ tr (OkD b) = false) : joinD a b = ([], 4) := by
  unfold joinD
  cases ea : tr (OkD a)
  · rw [if_pos rfl]
  · rcases h with h | h
    · rw [ea] at h; cases h
    · rw [if_neg (by decide), if_pos h]
theorem joinD_ok {a b : List Dat} (ha : tr (OkD a) = true) (hb : tr (OkD b) = true) : joinD a b = (mergeD a b, 0) := by
  unfold joinD
  rw [if_neg (by rw [ha]; decide), if_neg (by rw [hb]; decide)]
theorem keys_at {m n : List Seen} {D E : List Dat} (hm : m.map Seen.dat = D) (hn : n.map Seen.dat = E) (h : D.map keyD = E.map keyD) : n.length = m.length ∧ ∀ k (hk : k < m.length) (hk' : k < n.length), n[k].client = m[k].client ∧ n[k].seq = m[k].seq := by
  subst hm; subst hn
  rw [List.map_map, List.map_map] at h
  have hl : n.length = m.length := by
    have := congrArg List.length h
    simpa using this.symm
  refine ⟨hl, fun k hk hk' => ?_⟩
  have h1 : (m.map (keyD ∘ Seen.dat))[k]'(by simpa using hk) = (n.map (keyD ∘ Seen.dat))[k]'(by simpa using hk') := by simp only [h]
  simp only [List.getElem_map, Function.comp, keyD, Seen.dat, Prod.mk.injEq] at h1
  exact ⟨h1.1.symm, h1.2.symm⟩
set_option maxRecDepth 100000 in
set_option maxHeartbeats 4000000 in
theorem joins_bad (w : World) (A B : Option Addr) (cap bc : Nat) (a b : List Seen) (ha : BookIn w A cap a) (hb : BookIn w B bc b) (h : tr (OkD (a.map Seen.dat)) = false ∨ tr (OkD (b.map Seen.dat)) = false) :
    Calls Try.prog 6 #[.slice A a.length cap, .slice B b.length bc] w fun e w' => e = .returned (.bool true) ∧ Below w.heap.size w w' := by
  have hJ := fun w ha hb => join_any w A B cap bc a b ha hb
  have hR := fun w ha hb => rjoin_any w A B cap bc a b ha hb
  rw [joinD_bad h] at hJ hR
  have HJ := Lib.hid hJ; have HR := Lib.hid hR; have HA := Lib.hid ha; have HB := Lib.hid hb
  clear hJ hR ha hb h
  go_enter Try.func6, Try.ntmps6
  go_wp2_with (first
     | (go_at_call 7
        refine (awakeS _).mono ?_
        rintro e w1 ⟨rfl, hb1⟩
        have HB1 := Lib.hid hb1
        clear hb1)
     | (go_at_call 16
        refine (HJ.out _ (HA.out.below HB1.out) (HB.out.below HB1.out)).mono ?_
        rintro e w2 ⟨M2, c2, m2, rfl, hm, hI, hb2⟩
        have HI2 := Lib.hid hI; have HB2 := Lib.hid (HB1.out.trans (hb2.mono HB1.out.size))
        obtain rfl : m2 = [] := by simpa using hm
        clear hm hI hb2)
     | (go_at_call 17
        refine (HR.out _ (HA.out.below HB2.out) (HB.out.below HB2.out)).mono ?_
        rintro e w3 ⟨M3, c3, m3, rfl, hm, hI, hb3⟩
        have HI3 := Lib.hid hI; have HK3 := Lib.hid (HI2.out.below hb3); have HB3 := Lib.hid (HB2.out.trans (hb3.mono HB2.out.size))
        obtain rfl : m3 = [] := by simpa using hm
        clear hm hI hb3)
     | (go_at_call 15
        refine (books_true w3 M2 M3 c2 c3 [] [] HK3.out HI3.out rfl).mono ?_
        rintro e w4 ⟨rfl, hb4⟩
        have HB4 := Lib.hid (HB3.out.trans (hb4.mono HB3.out.size))
        clear hb4))
  go_ret
  exact ⟨rfl, HB4.out⟩
set_option maxRecDepth 100000 in
set_option maxHeartbeats 4000000 in
theorem joins_good (w : World) (A B : Option Addr) (cap bc : Nat) (a b : List Seen) (ha : BookIn w A cap a) (hb : BookIn w B bc b) (h1 : tr (OkD (a.map Seen.dat)) = true) (h2 : tr (OkD (b.map Seen.dat)) = true) :
    Calls Try.prog 6 #[.slice A a.length cap, .slice B b.length bc] w fun e w' => e = .returned (.bool true) ∧ Below w.heap.size w w' := by
  have hJ := fun w ha hb => join_any w A B cap bc a b ha hb
  have hR := fun w ha hb => rjoin_any w A B cap bc a b ha hb
  have hK := fun w ha hb => join_any w B A bc cap b a ha hb
  have hO := fun w ha hb => join_any w A A cap cap a a ha hb
  rw [joinD_ok h1 h2] at hJ hR
  rw [joinD_ok h2 h1] at hK
  rw [joinD_ok h1 h1, mergeD_self] at hO
  have hok := tr_true (mergeD_ok (of_tr h1) (of_tr h2))
  have Hok := Lib.hid hok
  have HJ := Lib.hid hJ; have HR := Lib.hid hR; have HKj := Lib.hid hK; have HO := Lib.hid hO; have HA := Lib.hid ha; have HB := Lib.hid hb
  clear hJ hR ha hb h1 h2 hK hO hok
  go_enter Try.func6, Try.ntmps6
  go_upto_region 5 with (first
     | (go_at_call 7
        refine (awakeS _).mono ?_
        rintro e w1 ⟨rfl, hb1⟩
        have HB1 := Lib.hid hb1
        clear hb1)
     | (go_at_call 16
        refine (HJ.out _ (HA.out.below HB1.out) (HB.out.below HB1.out)).mono ?_
        rintro e w2 ⟨M2, c2, m2, rfl, hm, hI, hb2⟩
        have HM2 := Lib.hid hm; have HI2 := Lib.hid hI; have HB2 := Lib.hid (HB1.out.trans (hb2.mono HB1.out.size))
        clear hm hI hb2)
     | (go_at_call 17
        refine (HR.out _ (HA.out.below HB2.out) (HB.out.below HB2.out)).mono ?_
        rintro e w3 ⟨M3, c3, m3, rfl, hm, hI, hb3⟩
        have HM3 := Lib.hid hm; have HI3 := Lib.hid hI; have HK3 := Lib.hid (HI2.out.below hb3); have HB3 := Lib.hid (HB2.out.trans (hb3.mono HB2.out.size))
        clear hm hI hb3))
  go_upto_region 9 with (go_at_call 15
                         refine (books_true w3 M2 M3 c2 c3 m2 m3 HK3.out HI3.out (HM2.out.trans HM3.out.symm)).mono ?_
                         rintro e w4 ⟨rfl, hb4⟩
                         have HK4 := Lib.hid (HK3.out.below hb4); have HB4 := Lib.hid (HB3.out.trans (hb4.mono HB3.out.size))
                         clear hb4)
  go_upto_region 10 with (go_at_call 16
                          refine (HKj.out _ (HB.out.below HB4.out) (HA.out.below HB4.out)).mono ?_
                          rintro e w5 ⟨M5, c5, m5, rfl, hm, hI, hb5⟩
                          have HM5 := Lib.hid hm; have HI5 := Lib.hid hI; have HK5 := Lib.hid (HK4.out.below hb5); have HB5 := Lib.hid (HB4.out.trans (hb5.mono HB4.out.size))
                          clear hm hI hb5)
  go_upto_region 11 with (go_at_call 16
                          refine (HO.out _ (HA.out.below HB5.out) (HA.out.below HB5.out)).mono ?_
                          rintro e w6 ⟨M6, c6, m6, rfl, hm, hI, hb6⟩
                          have HM6 := Lib.hid hm; have HI6 := Lib.hid hI; have HK6 := Lib.hid (HK5.out.below hb6); have HN6 := Lib.hid (HI5.out.below hb6); have HB6 := Lib.hid (HB5.out.trans (hb6.mono HB5.out.size))
                          clear hm hI hb6)
  obtain ⟨hlen, hat⟩ := keys_at HM2.out HM5.out (mergeD_keys _ _ _ (Nat.le_refl _))
  have Hat := Lib.hid hat; have Hlen := Lib.hid hlen
  have hl1 : ((m5.length : Int) == (m2.length : Int)) = true := by simp [hlen]
  have hl2 : ((m5.length : Int) != (m2.length : Int)) = false := by simp [hlen]
  have hC := check_dat
  have Hokm := Lib.hid (show tr (OkD (m2.map Seen.dat)) = true by rw [HM2.out]; exact Hok.out)
  clear hat hlen hC
  go_upto_region 13 with (first
     | (go_at_call 15
        refine (books_true w6 M6 A c6 cap m6 a HI6.out (HA.out.below HB6.out) HM6.out).mono ?_
        rintro e w7 ⟨rfl, hb7⟩
        have HK7 := Lib.hid (HK6.out.below hb7); have HN7 := Lib.hid (HN6.out.below hb7); have HB7 := Lib.hid (HB6.out.trans (hb7.mono HB6.out.size))
        clear hb7)
     | (go_at_call 12
        refine (check_dat w7 M2 c2 m2 HK7.out).mono ?_
        rintro e w8 ⟨he, hb8⟩
        rw [Hokm.out] at he
        subst he
        have HK8 := Lib.hid (HK7.out.below hb8); have HN8 := Lib.hid (HN7.out.below hb8); have HB8 := Lib.hid (HB7.out.trans (hb8.mono HB7.out.size))
        clear hb8))
  have hmx : m2.length ≤ 9223372036854775807 := Nat.le_trans HK8.out.ncap HK8.out.cmax
  go_wp2_with fail
  go_loopw [13] (fun v wr => ∃ k : Nat, k ≤ m2.length ∧ v = .int .i64 k ∧ Below w8.heap.size w8 wr) (fun v _ => m2.length - (intOf v).toNat)
  case atStart => exact ⟨0, Nat.zero_le _, rfl, Below.refl _ _⟩
  case round =>
    obtain ⟨k, hk, rfl, hbel⟩ := hrel
    have Hbel := Lib.hid hbel; clear hbel
    by_cases hlt : k < m2.length
    · have hlt' : k < m5.length := by rw [Hlen.out]; exact hlt
      obtain ⟨g, off, rfl, hg, p0, p1, p2, p3, p4⟩ := seen_cells (HK8.out.below Hbel.out).row k hlt
      obtain ⟨g', off', rfl, hg', s0, s1, s2, s3, s4⟩ := seen_cells (HN8.out.below Hbel.out).row k hlt'
      obtain ⟨e1, e2⟩ := Hat.out k hlt hlt'
      rw [e1] at s0
      rw [e2] at s1
      clear p2 p3 p4 s2 s3 s4 e1 e2
      generalize m2[k].client = x0 at *
      generalize m2[k].seq = x1 at *
      have hk1 : (0 : Int) ≤ (k : Int) := by omega
      have hk2 : (k : Int) < (m2.length : Int) := by omega
      have hk3 : (k : Int) < (m5.length : Int) := by omega
      go_upto_region 16 with fail
      refine wp_region_over (by kernel_rfl) (by kernel_rfl) ?_
      repeat (go_big_quiet_step ((fail)))
      refine wpQuiet_nil ?_
      intro _ hw'
      obtain ⟨nx, hw''⟩ := hw'
      subst hw''
      have hbo := Hbel.out.trans ((below_over wr nx).mono Hbel.out.size)
      generalize over wr nx = w9 at *
      have HBo := Lib.hid hbo; clear hbo
      go_wp2_with fail
      go_roundw
      case rel => exact ⟨k + 1, by omega, by go_num, HBo.out⟩
      case measure => simp [intOf]; omega
    · have l1 : ¬ (k : Int) < (m2.length : Int) := by omega
      go_wp2_with fail
      go_ret
      exact ⟨rfl, HB8.out.trans (Hbel.out.mono HB8.out.size)⟩
theorem joins_law (w : World) (A B : Option Addr) (cap bc : Nat) (a b : List Seen) (ha : BookIn w A cap a) (hb : BookIn w B bc b) :
    Calls Try.prog 6 #[.slice A a.length cap, .slice B b.length bc] w fun e w' => e = .returned (.bool true) ∧ Below w.heap.size w w' := by
  cases h1 : tr (OkD (a.map Seen.dat))
  · exact joins_bad w A B cap bc a b ha hb (.inl h1)
  cases h2 : tr (OkD (b.map Seen.dat))
  · exact joins_bad w A B cap bc a b ha hb (.inr h2)
  exact joins_good w A B cap bc a b ha hb h1 h2
end Go.Proofs.Ytofdkincbhahfaa
