/- What is proved: MeshIds answers true, whatever it is handed. -/
import Derived.Test.YtbgobcjnckoekaaIds
namespace Go.Proofs.Ytbgobcjnckoekaa
open Go.RowKit
attribute [local go_sem] Pkt.val

theorem blkD {w : World} {g t : Nat} {d : DoD} (h : w.heap[g]? = some (.cells #[.int .i64 d.kind, .int .i64 d.x, .int .i64 d.y, .string d.body] t (0, 0))) :
    w.cell? ⟨g, 0, none⟩ = some (.int .i64 d.kind) ∧ w.cell? ⟨g, 1, none⟩ = some (.int .i64 d.x) ∧ w.cell? ⟨g, 2, none⟩ = some (.int .i64 d.y) ∧ w.cell? ⟨g, 3, none⟩ = some (.string d.body) := by
  obtain ⟨h0, h1, h2, h3, _⟩ := blk4 h
  exact ⟨h0, h1, h2, h3⟩

set_option maxRecDepth 100000 in
set_option maxHeartbeats 8000000 in
theorem ids_any (w : World) (A0 : Option Addr) (cap0 : Nat) (dos : List DoD) (hrow : RowAt w w.heap.size 4 A0 (dos.map DoD.cells))
    (hl0 : dos.length ≤ 9223372036854775807) (hsz : ∀ d ∈ dos, d.body.size ≤ 9223372036854775807) :
    Calls Try.prog 6 #[.slice A0 dos.length cap0] w fun e w' => e = .returned (.bool true) ∧ Below w.heap.size w w' := by
  have Hsz := Lib.hid hsz; clear hsz
  have tok1 : True := trivial
  go_enter Try.func6, Try.ntmps6
  go_upto_block 0 with (first
    | (go_at_call 7
       refine (awake_any _).mono ?_
       rintro e w1 ⟨rfl, hb1⟩)
    | (go_at_call 8
       have _t := tok1
       refine (New_any _).mono ?_
       rintro e w2 ⟨rfl, hm2, hb2⟩
       have H2 := Lib.hid hm2
       clear hm2 tok1)
    | (go_at_call 8
       refine (New_any _).mono ?_
       rintro e w3 ⟨rfl, hm3, hb3⟩
       have hO : IdsE w (w1.heap.size + 1) w1.heap.size (w2.heap.size + 1) w2.heap.size 0 w3 (.int .i64 0) := by
         have hm2 := H2.out
         have h2 := hm2.below hb3
         have g1 := hm2.alt
         have g2 := hm2.cuts.lt
         exact ⟨0, [], .slice none 0 0, rfl, ⟨⟨h2.heap, World.ownsRow_nil _ _ _ _, h2.cuts, Nat.le_trans hb1.size h2.ba, Nat.le_trans hb1.size h2.bm⟩,
           ⟨hm3.heap, World.ownsRow_nil _ _ _ _, hm3.cuts, by have := hb1.size; have := hb2.size; omega, by have := hb1.size; have := hb2.size; omega⟩, by omega, by omega,
           (hb1.trans (hb2.mono hb1.size)).trans (hb3.mono (Nat.le_trans hb1.size hb2.size)), Nat.le_refl _, Int.le_refl _, Int.le_refl _, List.Pairwise.nil, by simp⟩⟩
       have HO := Lib.hid hO
       clear hm3 hO H2))
  clear hb3 hb2 hb1
  generalize w1.heap.size + 1 = a at *
  generalize w1.heap.size = mb at *
  generalize w2.heap.size + 1 = a2 at *
  generalize w2.heap.size = mb2 at *
  go_cut [5] (fun u wx => IdsE w a mb a2 mb2 400 wx u)
  case first =>
    go_wp2_with fail
    go_loopw [5, 6] (fun u i wr => ∃ n : Nat, n ≤ dos.length ∧ n ≤ 400 ∧ i = .int .i64 n ∧ IdsE w a mb a2 mb2 n wr u) (fun _ i _ => dos.length - (intOf i).toNat)
    case atStart => exact ⟨0, Nat.zero_le _, Nat.zero_le _, rfl, HO.out⟩
    case round =>
      obtain ⟨n, hn, hn4, rfl, la, ps, v, rfl, hS⟩ := hrel
      clear HO
      by_cases hlt : n < dos.length ∧ n < 400
      · obtain ⟨h1, h2⟩ := hlt
        obtain ⟨b, off, rfl, hb, k0, k1, k2, k3⟩ := do_cells hrow n h1
        have r0 := (hS.bel.cell (p := ⟨b, off + n * 4, none⟩) hb).trans k0
        have r1 := (hS.bel.cell (p := ⟨b, off + n * 4 + 1, none⟩) hb).trans k1
        have r2 := (hS.bel.cell (p := ⟨b, off + n * 4 + 2, none⟩) hb).trans k2
        have r3 := (hS.bel.cell (p := ⟨b, off + n * 4 + 3, none⟩) hb).trans k3
        have hszn : dos[n].body.size ≤ 9223372036854775807 := Hsz.out _ (List.getElem_mem h1)
        have hla0 := hS.l0
        have hla1 := hS.l1
        have HS := Lib.hid hS; clear hS k0 k1 k2 k3
        have i0' : (0 : Int) ≤ (n : Int) := by omega
        have i1' : (n : Int) < (dos.length : Int) := by omega
        generalize dos[n] = d at *
        go_upto_block 2 with fail
        have HS2 := Lib.hid (HS.out.below (al (.cells #[.int .i64 d.kind, .int .i64 d.x, .int .i64 d.y, .string d.body] 32)))
        have e0 := blkD (heap_alloc_new wr (.cells #[.int .i64 d.kind, .int .i64 d.x, .int .i64 d.y, .string d.body] 32))
        obtain ⟨t0, t1, t2, t3⟩ := e0
        clear r0 r1 r2 r3 HS
        generalize wr.alloc (.cells #[.int .i64 d.kind, .int .i64 d.x, .int .i64 d.y, .string d.body] 32) = wd at *
        generalize wr.heap.size = gd at *
        go_cut [5] (fun u wx => IdsE w a mb a2 mb2 (n + 1) wx u)
        case first =>
          cases e0 : (d.kind == 0) <;> cases e5 : (d.kind == 5) <;> cases e6 : (d.kind == 6)
          · cases e1 : (d.kind == 1) <;> cases e2 : (d.kind == 2)
            · cases e3 : (d.kind == 3)
              · rcases HS2.out.double d.x hn4 with hN | hN
                · have HN := Lib.hid hN
                  clear hN
                  go_wp2_with (
                    (go_at_call 10
                     refine HN.out.mono ?_
                     rintro e w1 ⟨rfl, hL, hs⟩
                     have HL := Lib.hid hL
                     clear hL))
                  go_meet
                  obtain ⟨ps', v', h⟩ := HL.out
                  exact ⟨la + 1, ps', v', rfl, h⟩
                · have HN := Lib.hid hN
                  clear hN
                  go_wp2_with (
                    (go_at_call 10
                     refine HN.out.mono ?_
                     rintro e w1 ⟨rfl, hL, hs⟩
                     have HL := Lib.hid hL
                     clear hL))
                  go_meet
                  obtain ⟨ps', v', h⟩ := HL.out
                  exact ⟨la, ps', v', rfl, h⟩
              · have HN := Lib.hid (HS2.out.drop d.x)
                go_wp2_with (
                  (go_at_call 19
                   refine HN.out.mono ?_
                   rintro e w1 ⟨r, rfl, hL, hs⟩
                   have HL := Lib.hid hL
                   clear hL))
                go_meet
                obtain ⟨ps', v', h⟩ := HL.out
                exact ⟨la, ps', v', rfl, h⟩
            all_goals
              have HN := Lib.hid (HS2.out.next)
              go_wp2_with (
                (go_at_call 11
                 refine HN.out.mono ?_
                 rintro e w1 ⟨r, rfl, hL, hs⟩
                 have HL := Lib.hid hL
                 clear hL))
              go_meet
              obtain ⟨ps', v', h⟩ := HL.out
              exact ⟨la, ps', v', rfl, h⟩
          all_goals
            by_cases hbig : 65536 < d.body.size
            · go_wp2_with (
                (go_at_call 9
                 refine (Send_long _ a _ _ _ hbig hszn).mono ?_
                 rintro e w' ⟨rfl, rfl⟩))
              go_meet
              exact ⟨la, ps, v, rfl, HS2.out.up (by omega)⟩
            · have HN := Lib.hid (HS2.out.send d.x d.y d.body (by omega) hn4)
              go_wp2_with (
                (go_at_call 9
                 refine HN.out.mono ?_
                 rintro e w1 ⟨rfl, hL, hs⟩
                 have HL := Lib.hid hL
                 clear hL))
              go_meet
              obtain ⟨ps', v', h⟩ := HL.out
              exact ⟨la + 1, ps', v', rfl, h⟩
        case rest =>
          obtain ⟨la2, ps2, v2, rfl, hS3⟩ := hcut
          have HS3 := Lib.hid hS3
          have hn401 : n + 1 ≤ 401 := by omega
          have hps2 : ps2.length ≤ n + 1 := hS3.len
          clear hS3
          go_wp2_with (
            (go_at_call 12
             refine (HS3.out.flight hn401).mono ?_
             rintro e w3 ⟨A6, c6, rfl, hF⟩
             have HF := Lib.hid hF
             clear hF))
          obtain ⟨wo, rfl⟩ : ∃ wo : World, wo = wr := ⟨_, rfl⟩
          go_loopw [13] (fun kv wr => ∃ j : Nat, j ≤ ps2.length ∧ kv = .int .i64 ((j : Int) + 1) ∧ IdsF w wr a mb a2 mb2 (n + 1) la2 (.slice A6 ps2.length c6) ps2 v2) (fun kv _ => ps2.length + 1 - (intOf kv).toNat)
          case atStart => exact ⟨0, Nat.zero_le _, by go_num, HF.out⟩
          case round =>
            obtain ⟨j, hj, rfl, hF2⟩ := hrel
            clear HF
            by_cases hlt2 : j + 1 < ps2.length
            · obtain ⟨b6, off6, rfl, hb6, q0, _⟩ := pkt_cells (rowAt_of_own hF2.own rfl (cells_len ps2) (by simp)) j (by omega)
              obtain ⟨b7, off7, he, hb7, z0, _⟩ := pkt_cells (rowAt_of_own hF2.own rfl (cells_len ps2) (by simp)) (j + 1) hlt2
              injection he with he
              injection he with he1 he2
              subst he1; subst he2
              have g1 : decide (ps2[j + 1].id ≤ ps2[j].id) = false := by
                have := List.pairwise_iff_getElem.1 hF2.ids.inc j (j + 1) (by omega) hlt2 (by omega)
                simp; omega
              have g2 : decide (la2 < ps2[j + 1].id) = false := by
                have := hF2.ids.top _ (List.getElem_mem hlt2)
                simp; omega
              have HF2 := Lib.hid hF2
              clear hF2
              have m0' : (0 : Int) ≤ (j : Int) := by omega
              have m1' : (j : Int) + 1 < (ps2.length : Int) := by omega
              have m2' : (j : Int) < (ps2.length : Int) := by omega
              go_wp2_with fail
              go_quiet (fail)
              go_wp2_with fail
              go_roundw
              case rel => exact ⟨j + 1, by omega, by go_num, HF2.out.below ⟨rfl, rfl, rfl, Nat.le_refl _, fun _ _ => rfl⟩⟩
              case measure => simp [intOf]; omega
            · have HF2 := Lib.hid hF2
              clear hF2
              have m1' : ¬ (j : Int) + 1 < (ps2.length : Int) := by omega
              go_wp2_with fail
              go_roundw
              case rel => exact ⟨n + 1, by omega, by omega, by go_num, la2, ps2, v2, rfl, HF2.out.ids⟩
              case measure => simp [intOf]; omega
      · have hO4 : IdsE w a mb a2 mb2 400 wr (.int .i64 la) := ⟨la, ps, v, rfl, hS.up (by omega)⟩
        have HO4 := Lib.hid hO4
        clear hO4 hS
        by_cases h1 : n < dos.length
        · have h2 : n = 400 := by omega
          subst h2
          go_wp2_with fail
          go_meet
          exact HO4.out
        · have i1' : ¬ (n : Int) < (dos.length : Int) := by omega
          go_wp2_with fail
          go_meet
          exact HO4.out
  case rest =>
    obtain ⟨la, ps, v, rfl, hS⟩ := hcut
    have HS := Lib.hid hS
    clear hS HO
    go_wp2_with (
      (go_at_call 12
       refine HS.out.other.mono ?_
       rintro e w3 ⟨A6, c6, rfl, hb3⟩))
    go_ret
    exact ⟨rfl, hb3⟩
end Go.Proofs.Ytbgobcjnckoekaa
