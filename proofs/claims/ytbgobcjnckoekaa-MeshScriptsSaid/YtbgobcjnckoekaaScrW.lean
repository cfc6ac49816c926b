/- What is proved: MeshScripts answers true, whatever it is handed. -/
import Derived.Test.YtbgobcjnckoekaaScr
import Derived.Deep.RegionHeld3
import Derived.IntWalk
namespace Go.Proofs.Ytbgobcjnckoekaa
open Go.RowKit
attribute [local go_sem] Pkt.val

theorem keptD {w : World} {g t : Nat} {d : DoD} (h : w.heap[g]? = some (.cells #[.int .i64 d.kind, .int .i64 d.x, .int .i64 d.y, .string d.body] t (0, 0))) :
    w.cell? ⟨g, 1, none⟩ = some (.int .i64 d.x) ∧ w.cell? ⟨g, 2, none⟩ = some (.int .i64 d.y) ∧ w.cell? ⟨g, 3, none⟩ = some (.string d.body) ∧ g < w.heap.size := by
  obtain ⟨_, h1, h2, h3, _⟩ := blk4 h
  exact ⟨h1, h2, h3, lt_of_some h⟩
theorem keptP {w : World} {g t : Nat} {d : Pkt} (h : w.heap[g]? = some (.cells #[.int .i64 d.id, .int .i64 d.src, .int .i64 d.dst, .string d.body] t (0, 0))) :
    w.cell? ⟨g, 0, none⟩ = some (.int .i64 d.id) ∧ w.cell? ⟨g, 1, none⟩ = some (.int .i64 d.src) ∧ w.cell? ⟨g, 2, none⟩ = some (.int .i64 d.dst) ∧ w.cell? ⟨g, 3, none⟩ = some (.string d.body) ∧ g < w.heap.size := by
  obtain ⟨h0, h1, h2, h3, _⟩ := blk4 h
  exact ⟨h0, h1, h2, h3, lt_of_some h⟩

set_option maxRecDepth 100000 in
set_option maxHeartbeats 16000000 in
theorem scripts_any (w : World) (A0 : Option Addr) (cap0 : Nat) (dos : List DoD) (hrow : RowAt w w.heap.size 4 A0 (dos.map DoD.cells))
    (hl0 : dos.length ≤ 9223372036854775807) (hsz : ∀ d ∈ dos, d.body.size ≤ 9223372036854775807) :
    Calls Try.prog 5 #[.slice A0 dos.length cap0] w fun e w' => e = .returned (.bool true) ∧ Below w.heap.size w w' := by
  have Hsz := Lib.hid hsz; clear hsz
  go_enter Try.func5, Try.ntmps5
  go_upto_block 0 with (first
    | (go_at_call 7
       refine (awake_any _).mono ?_
       rintro e w1 ⟨rfl, hb1⟩)
    | (go_at_call 8
       refine (New_any _).mono ?_
       rintro e w2 ⟨rfl, hm2, hb2⟩
       have hO : Both w (w1.heap.size + 1) w1.heap.size w2.heap.size none 0 (w2.alloc (.cells #[.slice none 0 0, .int .i64 0, .slice none 0 0] 46)) := by
         have h2 := hm2.below (al (w := w2) (.cells #[.slice none 0 0, .int .i64 0, .slice none 0 0] 46))
         have s1 := hb1.size; have s2 := hb2.size
         exact ⟨.slice none 0 0, .slice none 0 0, .slice none 0 0, ⟨[], 0, noCut⟩, ⟨[], 0, []⟩,
           ⟨⟨h2.heap, World.ownsRow_nil _ _ _ _, h2.cuts, Nat.le_trans s1 h2.ba, Nat.le_trans s1 h2.bm⟩,
            ⟨heap_alloc_new w2 _, World.ownsRow_nil _ _ _ _, World.ownsRow_nil _ _ _ _, by omega⟩,
            fun k hk => by simp [Value.ownBlock] at hk, (hb1.trans (hb2.mono s1)).trans ((al (w := w2) _).mono (Nat.le_trans s1 s2)), fun k o hk => by cases hk⟩,
           ⟨rfl, rfl, fun x y => rfl, Nat.zero_le _, Int.le_refl _, Int.le_refl _, Nat.le_refl _, fun p hp => by cases hp⟩⟩
       have HO := Lib.hid hO
       clear hm2 hO))
  clear hb2 hb1
  generalize w2.alloc (.cells #[.slice none 0 0, .int .i64 0, .slice none 0 0] 46) = w3 at *
  generalize w1.heap.size + 1 = a at *
  generalize w1.heap.size = mb at *
  generalize w2.heap.size = a2 at *
  go_cut [] (fun wx => Both w a mb a2 none 1200 wx)
  case first =>
    go_wp2_with fail
    go_loopw [5] (fun i wr => ∃ n : Nat, n ≤ dos.length ∧ n ≤ 1200 ∧ i = .int .i64 n ∧ Both w a mb a2 none n wr) (fun i _ => dos.length - (intOf i).toNat)
    case atStart => exact ⟨0, Nat.zero_le _, Nat.zero_le _, rfl, HO.out⟩
    case round =>
      obtain ⟨n, hn, hn4, rfl, hS⟩ := hrel
      clear HO
      by_cases hlt : n < dos.length ∧ n < 1200
      · obtain ⟨h1, h2⟩ := hlt
        obtain ⟨b, off, rfl, hb, k0, k1, k2, k3⟩ := do_cells hrow n h1
        have r0 := (hS.bel.cell (p := ⟨b, off + n * 4, none⟩) hb).trans k0
        have r1 := (hS.bel.cell (p := ⟨b, off + n * 4 + 1, none⟩) hb).trans k1
        have r2 := (hS.bel.cell (p := ⟨b, off + n * 4 + 2, none⟩) hb).trans k2
        have r3 := (hS.bel.cell (p := ⟨b, off + n * 4 + 3, none⟩) hb).trans k3
        have hszn : dos[n].body.size ≤ 9223372036854775807 := Hsz.out _ (List.getElem_mem h1)
        have HS := Lib.hid hS; clear hS k0 k1 k2 k3
        have i0' : (0 : Int) ≤ (n : Int) := by omega
        have i1' : (n : Int) < (dos.length : Int) := by omega
        generalize dos[n] = d at *
        go_upto_block 2 with fail
        have HS2 := Lib.hid (HS.out.new (.cells #[.int .i64 d.kind, .int .i64 d.x, .int .i64 d.y, .string d.body] 32))
        obtain ⟨t1, t2, t3, tlt⟩ := keptD (heap_alloc_new wr (.cells #[.int .i64 d.kind, .int .i64 d.x, .int .i64 d.y, .string d.body] 32))
        clear r0 r1 r2 r3 HS
        generalize wr.alloc (.cells #[.int .i64 d.kind, .int .i64 d.x, .int .i64 d.y, .string d.body] 32) = wd at *
        generalize wr.heap.size = gd at *
        go_cut [] (fun wx => Both w a mb a2 none (n + 1) wx)
        case first =>
          cases e0 : (d.kind == 0)
          · cases e1 : (d.kind == 1)
            · cases e2 : (d.kind == 2)
              · cases e3 : (d.kind == 3)
                · cases e4 : (d.kind == 4)
                  · cases e5 : (d.kind == 5)
                    · as_aux_lemma =>
                        have HN := Lib.hid (HS2.out.join d.x d.y hn4)
                        go_wp2_with (first
                          | (go_at_call 15
                             refine HN.out.mono ?_
                             rintro e w1 ⟨rfl, hT, hs⟩
                             obtain ⟨u1, u2, u3, ult⟩ := keptD (hT.1 _ _ rfl)
                             have HT := Lib.hid hT
                             clear hT)
                          | (go_at_call 23
                             refine (HT.out.2.2 _ (Below.refl _ _)).mono ?_
                             rintro e w2 ⟨rfl, hB, hs2, _⟩
                             have HB := Lib.hid hB
                             clear hB))
                        go_meet
                        exact HB.out.forget
                    · as_aux_lemma =>
                        have HN := Lib.hid (HS2.out.cut d.x d.y hn4)
                        go_wp2_with (first
                          | (go_at_call 13
                             refine HN.out.mono ?_
                             rintro e w1 ⟨rfl, hT, hs⟩
                             obtain ⟨u1, u2, u3, ult⟩ := keptD (hT.1 _ _ rfl)
                             have HT := Lib.hid hT
                             clear hT)
                          | (go_at_call 22
                             refine (HT.out.2.2 _ (Below.refl _ _)).mono ?_
                             rintro e w2 ⟨rfl, hB, hs2, _⟩
                             have HB := Lib.hid hB
                             clear hB))
                        go_meet
                        exact HB.out.forget
                  · as_aux_lemma =>
                      obtain ⟨ri, re, hN⟩ := HS2.out.double d.x hn4
                      have HN := Lib.hid hN
                      clear hN
                      go_wp2_with (first
                        | (go_at_call 10
                           refine HN.out.mono ?_
                           rintro e w1 ⟨rfl, hT, hs⟩
                           obtain ⟨u1, u2, u3, ult⟩ := keptD (hT.1 _ _ rfl)
                           have HT := Lib.hid hT
                           clear hT)
                        | (go_at_call 21
                           refine (HT.out.2.2 _ (Below.refl _ _)).mono ?_
                           rintro e w2 ⟨rfl, hB, hs2, _⟩
                           have HB := Lib.hid hB
                           clear hB))
                      go_meet
                      exact HB.out.forget
                · as_aux_lemma =>
                    obtain ⟨rb, hN⟩ := (HS2.out.below (drewB wd)).drop d.x
                    have HN := Lib.hid hN
                    clear hN
                    go_wp2_with fail
                    go_region_held3 (fun w' => w'.cell? ⟨gd, 1, none⟩ = some (.int .i64 d.x)) (first | go_keep | exact t1 | assumption) (first
                      | (go_at_call 19
                         refine HN.out.mono ?_
                         rintro e w1 ⟨rfl, hT, hs⟩
                         have u1 := (keptD (hT.1 _ _ rfl)).1
                         have HT := Lib.hid hT
                         clear hT)
                      | (go_at_call 20
                         refine (HT.out.2.2 _ (Below.refl _ _)).mono ?_
                         rintro e w2 ⟨rfl, hB, hs2, _⟩
                         have u2 := (keptD hB.kept).1
                         have HB := Lib.hid hB
                         clear hB))
                    go_wp2_with fail
                    go_meet
                    exact HB.out.forget
              · as_aux_lemma =>
                  obtain ⟨rp, rb, hN⟩ := HS2.out.next
                  have HN := Lib.hid hN
                  clear hN
                  go_wp2_with (first
                    | (go_at_call 11
                       refine HN.out.mono ?_
                       rintro e w1 ⟨rfl, hT, hs⟩
                       have HT := Lib.hid hT
                       clear hT)
                    | (go_at_call 18
                       refine (HT.out.2.2 _ (al _)).mono ?_
                       rintro e w2 ⟨rfl, hB, hs2, hk2⟩
                       obtain ⟨p0, p1, p2, p3, plt⟩ := keptP (hk2 _ _ (Nat.le_refl _) (heap_alloc_new w1 (.cells #[.int .i64 rp.id, .int .i64 rp.src, .int .i64 rp.dst, .string rp.body] 34)))
                       have HB := Lib.hid hB
                       clear hB hk2))
                  go_meet
                  exact HB.out.forget.below (al _)
            · as_aux_lemma =>
                obtain ⟨rp, rb, hN⟩ := HS2.out.deliver d.x
                have HN := Lib.hid hN
                clear hN
                go_wp2_with (first
                  | (go_at_call 14
                     refine HN.out.mono ?_
                     rintro e w1 ⟨rfl, hT, hs⟩
                     obtain ⟨u1, u2, u3, ult⟩ := keptD (hT.1 _ _ rfl)
                     have HT := Lib.hid hT
                     clear hT)
                  | (go_at_call 17
                     refine (HT.out.2.2 _ (al _)).mono ?_
                     rintro e w2 ⟨rfl, hB, hs2, hk2⟩
                     obtain ⟨p0, p1, p2, p3, plt⟩ := keptP (hk2 _ _ (Nat.le_refl _) (heap_alloc_new w1 (.cells #[.int .i64 rp.id, .int .i64 rp.src, .int .i64 rp.dst, .string rp.body] 34)))
                     have HB := Lib.hid hB
                     clear hB hk2))
                go_meet
                exact HB.out.forget.below (al _)
          · as_aux_lemma =>
              obtain ⟨ri, re, hN⟩ := HS2.out.send d.x d.y d.body hszn hn4
              have HN := Lib.hid hN
              clear hN
              go_wp2_with (first
                | (go_at_call 9
                   refine HN.out.mono ?_
                   rintro e w1 ⟨rfl, hT, hs⟩
                   obtain ⟨u1, u2, u3, ult⟩ := keptD (hT.1 _ _ rfl)
                   have HT := Lib.hid hT
                   clear hT)
                | (go_at_call 16
                   refine (HT.out.2.2 _ (Below.refl _ _)).mono ?_
                   rintro e w2 ⟨rfl, hB, hs2, _⟩
                   have HB := Lib.hid hB
                   clear hB))
              go_meet
              exact HB.out.forget
        case rest =>
          clear HS2 t1 t2 t3 tlt
          obtain ⟨A2, c2, len, hc0, ha2, hfl⟩ := (Both.below hcut (drewB _)).flight
          have Hfl := Lib.hid hfl
          clear hfl
          have hd0 := hc0
          rw [World.cell?_drew] at hd0
          have hrem : (n : Int).tmod 16 = ((n % 16 : Nat) : Int) := by rw [Int.tmod_eq_emod_of_nonneg i0']; omega
          have hlt16 : n % 16 < 16 := Nat.mod_lt _ (by omega)
          generalize n % 16 = q at *
          have hw : IntKind.i64.wrap (q : Int) = (q : Int) := IntWalk.i64_in _ (by omega)
          cases h16 : ((q : Int) == 0)
          · as_aux_lemma =>
              go_wp2_with fail
              go_quiet (fail)
              go_wp2_with fail
              go_roundw
              case rel => exact ⟨n + 1, by omega, by omega, by go_num, Both.below hcut ⟨rfl, rfl, rfl, Nat.le_refl _, fun _ _ => rfl⟩⟩
              case measure => simp [intOf]; omega
          · as_aux_lemma =>
              go_wp2_with fail
              go_region_held3 (fun w' => w'.cell? ⟨a2, 0, none⟩ = some (.slice A2 len c2)) (first | go_keep | exact hc0 | assumption) (first
                | (go_at_call 12
                   refine (Hfl.out _ (Below.refl _ _)).mono ?_
                   rintro e w5 ⟨A', c', rfl, hc5, hB5, hs5, hpk⟩
                   have Hpk := Lib.hid hpk
                   clear hB5 hpk)
                | (go_at_call 24
                   refine (Hpk.out _ (Below.refl _ _)).mono ?_
                   rintro e w6 ⟨rfl, hc6, hB6, hs6⟩
                   have HB6 := Lib.hid hB6
                   clear hB6))
              go_wp2_with fail
              go_roundw
              case rel => exact ⟨n + 1, by omega, by omega, by go_num, HB6.out⟩
              case measure => simp [intOf]; omega
      · have hO4 : Both w a mb a2 none 1200 wr := hS.up (by omega)
        have HO4 := Lib.hid hO4
        clear hO4 hS
        by_cases h1 : n < dos.length
        · have h2 : n = 1200 := by omega
          subst h2
          go_wp2_with fail
          go_meet
          exact HO4.out
        · have i1' : ¬ (n : Int) < (dos.length : Int) := by omega
          go_wp2_with fail
          go_meet
          exact HO4.out
  case rest =>
    obtain ⟨A2, c2, len, hc0, ha2, hfl⟩ := (Both.below hcut (drewB _)).flight
    have Hfl := Lib.hid hfl
    clear hfl HO
    go_wp2_with fail
    go_region_held3 (fun w' => w'.cell? ⟨a2, 0, none⟩ = some (.slice A2 len c2)) (first | go_keep | exact hc0 | assumption) (first
      | (go_at_call 12
         refine (Hfl.out _ (Below.refl _ _)).mono ?_
         rintro e w5 ⟨A', c', rfl, hc5, hB5, hs5, hpk⟩
         have Hpk := Lib.hid hpk
         clear hB5 hpk)
      | (go_at_call 24
         refine (Hpk.out _ (Below.refl _ _)).mono ?_
         rintro e w6 ⟨rfl, hc6, hB6, hs6⟩
         have HB6 := Lib.hid hB6
         clear hB6))
    go_wp2_with fail
    go_ret
    exact ⟨rfl, HB6.out.bel⟩
end Go.Proofs.Ytbgobcjnckoekaa
