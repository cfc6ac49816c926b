/- What is proved: MeshCuts answers true, whatever it is handed. -/
import Derived.Test.YtbgobcjnckoekaaCuts
namespace Go.Proofs.Ytbgobcjnckoekaa
open Go.RowKit
attribute [local go_sem] Pkt.val

theorem Sent.yes {W w w' : World} {a mb : Nat} {x y : Int} {n bt ot : Nat} {ps : List Pkt} {v v' : Value} {p : Pkt} (h : Sent W w a mb x y n bt ot ps v) (hm : MeshAt w' W.heap.size a mb v' ⟨ps ++ [p], (ps.length : Int) + 1, noCut⟩) (hb : Below W.heap.size W w')
    (h1 : btw x y p = true) : SentE W a mb x y (n + 1) w' (.int .i64 ((bt : Int) + 1)) (.int .i64 (ot : Int)) := by
  refine ⟨bt + 1, ot, ps ++ [p], v', by simp, rfl, ⟨?_, hb, by have := h.len; simp; omega, ?_, by have := h.sum; simp; omega⟩⟩
  · have e : ((ps ++ [p]).length : Int) = (ps.length : Int) + 1 := by simp
    rw [e]; exact hm
  · rw [List.filter_append, List.length_append, h.bet]; simp [h1]
theorem Sent.no {W w w' : World} {a mb : Nat} {x y : Int} {n bt ot : Nat} {ps : List Pkt} {v v' : Value} {p : Pkt} (h : Sent W w a mb x y n bt ot ps v) (hm : MeshAt w' W.heap.size a mb v' ⟨ps ++ [p], (ps.length : Int) + 1, noCut⟩) (hb : Below W.heap.size W w')
    (h1 : btw x y p = false) : SentE W a mb x y (n + 1) w' (.int .i64 (bt : Int)) (.int .i64 ((ot : Int) + 1)) := by
  refine ⟨bt, ot + 1, ps ++ [p], v', rfl, by simp, ⟨?_, hb, by have := h.len; simp; omega, ?_, by have := h.sum; simp; omega⟩⟩
  · have e : ((ps ++ [p]).length : Int) = (ps.length : Int) + 1 := by simp
    rw [e]; exact hm
  · rw [List.filter_append, List.length_append, h.bet]; simp [h1]

set_option maxRecDepth 100000 in
set_option maxHeartbeats 8000000 in
theorem cuts_any (w : World) (A0 : Option Addr) (cap0 : Nat) (dos : List DoD) (x y : Int) (hrow : RowAt w w.heap.size 4 A0 (dos.map DoD.cells))
    (hl0 : dos.length ≤ 9223372036854775807) (hsz : ∀ d ∈ dos, d.body.size ≤ 9223372036854775807) :
    Calls Try.prog 4 #[.slice A0 dos.length cap0, .int .i64 x, .int .i64 y] w fun e w' => e = .returned (.bool true) ∧ Below w.heap.size w w' := by
  have Hsz := Lib.hid hsz; clear hsz
  go_enter Try.func4, Try.ntmps4
  go_upto_block 0 with (first
    | (go_at_call 7
       refine (awake_any _).mono ?_
       rintro e w1 ⟨rfl, hb1⟩)
    | (go_at_call 8
       refine (New_any _).mono ?_
       rintro e w2 ⟨rfl, hm2, hb2⟩
       have hO : SentE w (w1.heap.size + 1) w1.heap.size x y 0 w2 (.int .i64 0) (.int .i64 0) :=
         ⟨0, 0, [], .slice none 0 0, rfl, rfl, ⟨⟨hm2.heap, World.ownsRow_nil _ _ _ _, hm2.cuts, Nat.le_trans hb1.size hm2.ba, Nat.le_trans hb1.size hm2.bm⟩, hb1.trans (hb2.mono hb1.size), Nat.le_refl _, rfl, rfl⟩⟩
       have HO := Lib.hid hO
       clear hm2 hO))
  clear hb2 hb1
  generalize w1.heap.size + 1 = a at *
  generalize w1.heap.size = mb at *
  clear w1
  go_cut [8, 9] (fun u t wx => SentE w a mb x y 400 wx u t)
  case first =>
    go_wp2_with fail
    go_loopw [8, 9, 10] (fun u t i wr => ∃ n : Nat, n ≤ dos.length ∧ n ≤ 400 ∧ i = .int .i64 n ∧ SentE w a mb x y n wr u t) (fun _ _ i _ => dos.length - (intOf i).toNat)
    case atStart => exact ⟨0, Nat.zero_le _, Nat.zero_le _, rfl, HO.out⟩
    case round =>
      obtain ⟨n, hn, hn4, rfl, bt, ot, ps, v, rfl, rfl, hS⟩ := hrel
      clear HO
      have hps := hS.len
      have hsum := hS.sum
      by_cases hlt : n < dos.length ∧ n < 400
      · obtain ⟨h1, h2⟩ := hlt
        obtain ⟨b, off, rfl, hb, k0, k1, k2, k3⟩ := do_cells hrow n h1
        have r1 := (hS.bel.cell (p := ⟨b, off + n * 4 + 1, none⟩) hb).trans k1
        have r2 := (hS.bel.cell (p := ⟨b, off + n * 4 + 2, none⟩) hb).trans k2
        have r3 := (hS.bel.cell (p := ⟨b, off + n * 4 + 3, none⟩) hb).trans k3
        have hszn : dos[n].body.size ≤ 9223372036854775807 := Hsz.out _ (List.getElem_mem h1)
        have HS := Lib.hid hS; clear hS k0 k1 k2 k3
        have i0' : (0 : Int) ≤ (n : Int) := by omega
        have i1' : (n : Int) < (dos.length : Int) := by omega
        have hbt : bt ≤ 400 := by omega
        have hot : ot ≤ 400 := by omega
        clear hsum
        by_cases hbig : 65536 < dos[n].body.size
        · go_wp2_with fail
          go_region_held3 (fun w' => w'.cell? ⟨b, off + n * 4 + 1, none⟩ = some (.int .i64 dos[n].x) ∧ w'.cell? ⟨b, off + n * 4 + 2, none⟩ = some (.int .i64 dos[n].y) ∧ w'.cell? ⟨b, off + n * 4 + 3, none⟩ = some (.string dos[n].body))
            (first
              | go_keep
              | exact ⟨r1, r2, r3⟩)
            (first
              | (go_simp
                 go_at_call 9
                 refine (Send_long _ a _ _ _ hbig hszn).mono ?_
                 rintro e w' ⟨rfl, rfl⟩))
          go_wp2_with fail
          go_roundw
          case rel => exact ⟨n + 1, by omega, by omega, by go_num, bt, ot, ps, v, rfl, rfl, ⟨HS.out.mesh.below (drewB wr), HS.out.bel.drew, by omega, HS.out.bet, HS.out.sum⟩⟩
          case measure => simp [intOf]; omega
        · have hsm : dos[n].body.size ≤ 65536 := by omega
          have hroom : (M.mk ps ps.length noCut).ps.length < 512 := by show ps.length < 512; omega
          have hla : 0 ≤ (M.mk ps ps.length noCut).last := by show (0 : Int) ≤ (ps.length : Int); omega
          have hlb : (M.mk ps ps.length noCut).last ≤ 4611686018427387904 := by show (ps.length : Int) ≤ 4611686018427387904; omega
          have hbw : w.heap.size ≤ wr.heap.size := HS.out.bel.size
          go_wp2_with fail
          go_region_held3 (fun w' => w'.cell? ⟨b, off + n * 4 + 1, none⟩ = some (.int .i64 dos[n].x) ∧ w'.cell? ⟨b, off + n * 4 + 2, none⟩ = some (.int .i64 dos[n].y) ∧ w'.cell? ⟨b, off + n * 4 + 3, none⟩ = some (.string dos[n].body))
            (first
              | go_keep
              | exact ⟨s1, s2, s3⟩)
            (first
              | (go_simp
                 go_at_call 9
                 refine (Send_some _ w.heap.size a mb v ⟨ps, ps.length, noCut⟩ _ _ _ (HS.out.mesh.below (drewB wr)) hsm hroom hla hlb).mono ?_
                 rintro e w3 ⟨rfl, hm3, ho3⟩
                 have hfar : ¬ Foot a mb v b := fun hf => by have := HS.out.mesh.foot _ hf; omega
                 have s1 := (ho3.cell (p := ⟨b, off + n * 4 + 1, none⟩) (by simp; omega) hfar).trans r1
                 have s2 := (ho3.cell (p := ⟨b, off + n * 4 + 2, none⟩) (by simp; omega) hfar).trans r2
                 have s3 := (ho3.cell (p := ⟨b, off + n * 4 + 3, none⟩) (by simp; omega) hfar).trans r3
                 have HM3 := Lib.hid hm3
                 have HB3 := Lib.hid (ho3.below HS.out.bel.drew HS.out.mesh.foot (by simpa using HS.out.bel.size))
                 clear hm3))
          obtain ⟨v3, hm3, _⟩ := HM3.out
          have Hm := Lib.hid hm3
          clear hm3
          cases e1 : (dos[n].x == x) <;> cases e2 : (dos[n].y == y) <;> cases e3 : (dos[n].x == y) <;> cases e4 : (dos[n].y == x)
          all_goals
            have hbw : btw x y ⟨(ps.length : Int) + 1, dos[n].x, dos[n].y, dos[n].body⟩ = ((dos[n].x == x && dos[n].y == y) || (dos[n].x == y && dos[n].y == x)) := rfl
            rw [e1, e2, e3, e4] at hbw
            have Hbw := Lib.hid hbw
            clear hbw
            go_wp2_with fail
            go_roundw
            case rel =>
              first
                | exact ⟨n + 1, by omega, by omega, by go_num, HS.out.yes Hm.out HB3.out Hbw.out⟩
                | exact ⟨n + 1, by omega, by omega, by go_num, HS.out.no Hm.out HB3.out Hbw.out⟩
            case measure => simp [intOf]; omega
      · have hO4 : SentE w a mb x y 400 wr (.int .i64 (bt : Int)) (.int .i64 (ot : Int)) :=
          ⟨bt, ot, ps, v, rfl, rfl, ⟨hS.mesh, hS.bel, by omega, hS.bet, hS.sum⟩⟩
        have HO4 := Lib.hid hO4
        clear hO4 hS
        by_cases h1 : n < dos.length
        · have h2 : n = 400 := by omega
          subst h2
          go_wp2_with fail
          go_meet
          exact HO4.out
        · have i1' : ¬ (n : Int) < (dos.length : Int) := by omega
          go_wp2_with fail
          go_meet
          exact HO4.out
  case rest =>
    clear HO
    obtain ⟨bt, ot, ps, v, rfl, rfl, hS⟩ := hcut
    have hlen := hS.len
    have hsum := hS.sum
    have hbt : bt ≤ 400 := by omega
    have hot : ot ≤ 400 := by omega
    have hbl : (ps.filter (btw x y)).length ≤ 2097152 := by rw [hS.bet]; omega
    have hbe := hS.bet
    have HC := Lib.hid hS.cut
    clear hS hsum
    obtain ⟨wo, rfl⟩ : ∃ wo : World, wo = wc := ⟨_, rfl⟩
    generalize ps.filter (btw x y) = bl at *
    generalize (ps.length : Int) = la at *
    have Hbe := Lib.hid hbe
    clear hbe
    go_wp2_with (
      (go_at_call 13
       refine HC.out.mono ?_
       rintro e w1 ⟨rfl, hC1, hs1⟩
       have HC1 := Lib.hid hC1
       clear hC1))
    go_loopw [13] (fun kv wr => ∃ k : Nat, k ≤ ot ∧ kv = .int .i64 k ∧ ∃ qs v, CutS w wr a mb x y la bl qs (ot - k) v) (fun kv _ => ot - (intOf kv).toNat)
    case atStart => exact ⟨0, Nat.zero_le _, rfl, ps, v, HC1.out⟩
    case round =>
      obtain ⟨k, hk, rfl, qs, v2, hL2⟩ := hrel
      clear HC1 HC
      by_cases hlt : k < ot
      · obtain ⟨j, hj⟩ : ∃ j, ot - k = j + 1 := ⟨ot - k - 1, by omega⟩
        rw [hj] at hL2
        obtain ⟨p, hp, hN0⟩ := hL2.next
        have hN := Lib.hid hN0
        clear hL2 hN0
        have j0' : (0 : Int) ≤ (k : Int) := by omega
        have j1' : (k : Int) < (ot : Int) := by omega
        have hj' : ot - (k + 1) = j := by omega
        have Hj := Lib.hid hj'
        clear hj hj'
        go_upto_region 19 with (
          (go_at_call 11
           refine hN.out.mono ?_
           rintro e w2 ⟨rfl, hL3, hs3⟩
           have HL3 := Lib.hid hL3
           clear hL3))
        have hbw : btw x y p = ((p.src == x && p.dst == y) || (p.src == y && p.dst == x)) := rfl
        rw [hp] at hbw
        cases e1 : (p.src == x) <;> cases e2 : (p.dst == y) <;> cases e3 : (p.src == y) <;> cases e4 : (p.dst == x)
        all_goals rw [e1, e2, e3, e4] at hbw
        all_goals first
          | (exfalso; revert hbw; decide)
          | (clear hbw hp
             go_wp2_with fail
             go_roundw
             case rel => exact ⟨k + 1, by omega, by go_num, by
               obtain ⟨qs', v', h⟩ := HL3.out
               rw [Hj.out]
               exact ⟨qs', v', h.below (al _)⟩⟩
             case measure => simp [intOf]; omega)
      · obtain rfl : k = ot := by omega
        have hz : k - k = 0 := by omega
        rw [hz] at hL2
        have HL2 := Lib.hid hL2
        clear hL2 hz
        have j1' : ¬ (k : Int) < (k : Int) := by omega
        go_wp2_with (first
          | (go_at_call 11
             refine HL2.out.last.mono ?_
             rintro e w2 ⟨rfl, hL3, hs3⟩
             have HL3 := Lib.hid hL3
             clear hL3)
          | (go_at_call 12
             refine ((HL3.out.below (al _)).flight hbl).mono ?_
             rw [Hbe.out]
             rintro e w3 ⟨A6, c6, rfl, hF⟩
             have HF := Lib.hid hF
             clear hF))
        obtain ⟨wo, rfl⟩ : ∃ wo : World, wo = wr := ⟨_, rfl⟩
        go_loopw [19] (fun kv wr => ∃ i : Nat, i ≤ bt ∧ kv = .int .i64 i ∧ CutF w wr a mb (.slice A6 bt c6) x y la bl v2) (fun kv _ => bt - (intOf kv).toNat)
        case atStart => exact ⟨0, Nat.zero_le _, rfl, HF.out⟩
        case round =>
          obtain ⟨i, hi, rfl, hF2⟩ := hrel
          clear HF HL3 HL2
          by_cases hlt : i < bt
          · have hib : i < bl.length := by rw [Hbe.out]; exact hlt
            obtain ⟨b6, off6, rfl, hb6, q0, _⟩ := pkt_cells (rowAt_of_own hF2.own (A := A6) (cap := c6) (by rw [Hbe.out]) (cells_len bl) (by simp)) i hib
            have HF2 := Lib.hid hF2
            clear hF2
            have j0' : (0 : Int) ≤ (i : Int) := by omega
            have j2' : (i : Int) < (bt : Int) := by omega
            go_wp2_with (
              (go_at_call 14
               refine (HF2.out.deliver _).mono ?_
               rintro e w4 ⟨rfl, hF3, hs4⟩
               have HF3 := Lib.hid hF3
               clear hF3))
            go_roundw
            case rel => exact ⟨i + 1, by omega, by go_num, HF3.out.below (al _)⟩
            case measure => simp [intOf]; omega
          · obtain rfl : i = bt := by omega
            have HF2 := Lib.hid hF2
            clear hF2
            have j2' : ¬ (i : Int) < (i : Int) := by omega
            go_wp2_with (
              (go_at_call 15
               refine HF2.out.join.mono ?_
               rintro e w5 ⟨rfl, hG, hs5⟩
               have HG := Lib.hid hG
               clear hG))
            obtain ⟨wp, rfl⟩ : ∃ wp : World, wp = wr := ⟨_, rfl⟩
            go_loopw [22] (fun kv wr => ∃ j : Nat, j ≤ i ∧ kv = .int .i64 j ∧ ∃ v, LeftC w wr a mb (.slice A6 i c6) la bl j v) (fun kv _ => i - (intOf kv).toNat)
            case atStart => exact ⟨0, Nat.zero_le _, rfl, v2, HG.out⟩
            case round =>
              obtain ⟨j, hj, rfl, v4, hL4⟩ := hrel
              clear HG HF2
              by_cases hlt4 : j < i
              · have hjb : j < bl.length := by rw [Hbe.out]; exact hlt4
                have hN := Lib.hid (hL4.next hjb)
                clear hL4
                have j0' : (0 : Int) ≤ (j : Int) := by omega
                have j3' : (j : Int) < (i : Int) := by omega
                go_wp2_with (
                  (go_at_call 11
                   refine hN.out.mono ?_
                   rintro e w6 ⟨rfl, hL6, hs6⟩
                   have HL6 := Lib.hid hL6
                   clear hL6))
                obtain ⟨v6, hL6⟩ := HL6.out
                obtain ⟨b6, off6, rfl, hb6, q0, q1, q2, q3⟩ := pkt_cells (rowAt_of_own hL6.own (A := A6) (cap := c6) (by rw [Hbe.out]) (cells_len bl) (by simp)) j hjb
                have HL7 := Lib.hid hL6
                clear hL6
                go_quiet (fail)
                go_wp2_with fail
                go_roundw
                case rel => exact ⟨j + 1, by omega, by go_num, v6, HL7.out.below (((al _).drew.trans ⟨rfl, rfl, rfl, Nat.le_refl _, fun _ _ => rfl⟩))⟩
                case measure => simp [intOf]; omega
              · obtain rfl : j = i := by omega
                have hL5 : LeftC w wr a mb (.slice A6 j c6) la bl bl.length v4 := by rw [Hbe.out]; exact hL4
                have HL5 := Lib.hid hL5
                clear hL5 hL4
                have j3' : ¬ (j : Int) < (j : Int) := by omega
                go_wp2_with (
                  (go_at_call 12
                   refine HL5.out.flight.mono ?_
                   rintro e w7 ⟨A8, c8, rfl, hb8⟩))
                go_ret
                exact ⟨rfl, hb8⟩
end Go.Proofs.Ytbgobcjnckoekaa
