/- What is proved: two books into one: the document's merge. -/
import Derived.Test.YtofdkincbhahfaaPut
set_option linter.unusedVariables false
set_option linter.unusedSimpArgs false
namespace Go.Proofs.Ytofdkincbhahfaa
open Go.RowKit
attribute [local go_sem] Seen.val cell_over frozen_over

/-- Two books into one; of one client the greater number, the first book's if they are the same. -/
def mergeL : List Seen → List Seen → List Seen
  | [], b => b
  | x :: a, [] => x :: a
  | x :: a, y :: b => if x.client < y.client then x :: mergeL a (y :: b) else if y.client < x.client then y :: mergeL (x :: a) b else (if x.seq < y.seq then y else x) :: mergeL a b
termination_by a b => a.length + b.length
theorem mergeL_nil (a : List Seen) : mergeL a [] = a := by cases a <;> simp [mergeL]
theorem mergeL_len : ∀ (n : Nat) (a b : List Seen), a.length + b.length ≤ n → (mergeL a b).length ≤ a.length + b.length
  | _, [], b, _ => by simp [mergeL]
  | _, x :: a, [], _ => by simp [mergeL]
  | 0, x :: a, y :: b, h => by simp at h
  | n + 1, x :: a, y :: b, h => by
    simp only [List.length_cons] at h ⊢
    rw [mergeL]
    split
    · have := mergeL_len n a (y :: b) (by simp only [List.length_cons]; omega)
      simp only [List.length_cons] at this ⊢
      omega
    · split
      · have := mergeL_len n (x :: a) b (by simp only [List.length_cons]; omega)
        simp only [List.length_cons] at this ⊢
        omega
      · have := mergeL_len n a b (by omega)
        simp only [List.length_cons]
        omega
theorem mergeL_mem : ∀ (n : Nat) (a b : List Seen), a.length + b.length ≤ n → ∀ s ∈ mergeL a b, s ∈ a ∨ s ∈ b
  | _, [], b, _, s, hs => by right; simpa [mergeL] using hs
  | _, x :: a, [], _, s, hs => by left; simpa [mergeL] using hs
  | 0, x :: a, y :: b, h, s, hs => by simp at h
  | n + 1, x :: a, y :: b, h, s, hs => by
    simp only [List.length_cons] at h
    rw [mergeL] at hs
    split at hs
    · rcases List.mem_cons.1 hs with rfl | h1
      · exact .inl (by simp)
      · rcases mergeL_mem n a (y :: b) (by simp only [List.length_cons]; omega) s h1 with h2 | h2
        · exact .inl (by simp [h2])
        · exact .inr h2
    · split at hs
      · rcases List.mem_cons.1 hs with rfl | h1
        · exact .inr (by simp)
        · rcases mergeL_mem n (x :: a) b (by simp only [List.length_cons]; omega) s h1 with h2 | h2
          · exact .inl h2
          · exact .inr (by simp [h2])
      · rcases List.mem_cons.1 hs with h1 | h1
        · split at h1
          · subst h1; exact .inr (by simp)
          · subst h1; exact .inl (by simp)
        · rcases mergeL_mem n a b (by omega) s h1 with h2 | h2
          · exact .inl (by simp [h2])
          · exact .inr (by simp [h2])
theorem merge_a {a b : List Seen} {i k : Nat} (hi : i < a.length) (hk : k ≤ b.length) (h : k = b.length ∨ ∃ hk' : k < b.length, a[i].client < b[k].client) : mergeL (a.drop i) (b.drop k) = a[i] :: mergeL (a.drop (i + 1)) (b.drop k) := by
  rw [List.drop_eq_getElem_cons hi]
  rcases h with h | ⟨hk', h⟩
  · rw [h, List.drop_length, mergeL_nil, mergeL_nil]
  · rw [List.drop_eq_getElem_cons hk', mergeL, if_pos h]
theorem merge_b {a b : List Seen} {i k : Nat} (hi : i ≤ a.length) (hk : k < b.length) (h : i = a.length ∨ ∃ hi' : i < a.length, b[k].client < a[i].client) : mergeL (a.drop i) (b.drop k) = b[k] :: mergeL (a.drop i) (b.drop (k + 1)) := by
  rw [List.drop_eq_getElem_cons hk]
  rcases h with h | ⟨hi', h⟩
  · rw [h, List.drop_length]; simp [mergeL]
  · rw [List.drop_eq_getElem_cons hi', mergeL, if_neg (by omega), if_pos h]
theorem merge_both {a b : List Seen} {i k : Nat} (hi : i < a.length) (hk : k < b.length) (h : a[i].client = b[k].client) : mergeL (a.drop i) (b.drop k) = (if a[i].seq < b[k].seq then b[k] else a[i]) :: mergeL (a.drop (i + 1)) (b.drop (k + 1)) := by
  rw [List.drop_eq_getElem_cons hi, List.drop_eq_getElem_cons hk, mergeL, if_neg (by omega), if_neg (by omega)]

set_option maxRecDepth 100000 in
set_option maxHeartbeats 8000000 in
theorem merge_any (w : World) (A B : Option Addr) (cap bc : Nat) (a b : List Seen) (ha : BookIn w A cap a) (hb : BookIn w B bc b) (hla : a.length ≤ 64) (hlb : b.length ≤ 64) :
    Calls Try.prog 24 #[.slice A a.length cap, .slice B b.length bc] w fun e w' => ∃ (M : Option Addr) (mc : Nat), e = .returned (.slice M (mergeL a b).length mc) ∧ w'.ownsRow w.heap.size 28 5 (.slice M (mergeL a b).length mc) (mergeL a b).length ((mergeL a b).map Seen.cells).flatten ∧ Below w.heap.size w w' := by
  obtain ⟨i0, hi0, hz0, hz1, hz2⟩ := info_parts info28
  have HA := Lib.hid ha; have HBk := Lib.hid hb
  have hml := mergeL_len _ a b (Nat.le_refl _)
  clear ha hb
  go_enter Try.func24, Try.ntmps24
  go_wp2
  go_loopw [5, 6, 7] (fun o u v wr => ∃ (i k : Nat) (m : List Seen) (M : Option Addr) (mc : Nat), i ≤ a.length ∧ k ≤ b.length ∧ o = .slice M m.length mc ∧ u = .int .i64 i ∧ v = .int .i64 k ∧ mergeL a b = m ++ mergeL (a.drop i) (b.drop k) ∧ wr.ownsRow w.heap.size 28 5 (.slice M m.length mc) m.length (m.map Seen.cells).flatten ∧ Below w.heap.size w wr) (fun _ u v _ => a.length + b.length - ((intOf u).toNat + (intOf v).toNat))
  case atStart => exact ⟨0, 0, [], none, 0, Nat.zero_le _, Nat.zero_le _, rfl, rfl, rfl, rfl, World.ownsRow_nil _ _ _ _, Below.refl _ _⟩
  case round =>
    obtain ⟨i, k, m, M, mc, hi, hk, rfl, rfl, rfl, hm, hO, hB⟩ := hrel
    have HO := Lib.hid hO; have HB := Lib.hid hB; have Hm := Lib.hid hm
    have hmm : m.length ≤ 128 := by have := congrArg List.length hm; simp only [List.length_append] at this; omega
    have hw1 : IntKind.i64.wrap ((i : Int) + 1) = (i : Int) + 1 := IntWalk.i64_in _ (by omega)
    have hw2 : IntKind.i64.wrap ((k : Int) + 1) = (k : Int) + 1 := IntWalk.i64_in _ (by omega)
    clear hO hB hm hml
    by_cases hia : i < a.length
    · by_cases hkb : k < b.length
      · rcases Int.lt_trichotomy (a[i]).client (b[k]).client with hlt | heq | hlt
        · skip
          obtain ⟨ga, oa, rfl, hga, p0, p1, p2, p3, p4⟩ := seen_cells (HA.out.below HB.out).row i hia
          have i1 : (0 : Int) ≤ (i : Int) := by omega
          have i2 : (i : Int) < (a.length : Int) := by omega
          obtain ⟨gb, ob, rfl, hgb, y0, y1, y2, y3, y4⟩ := seen_cells (HBk.out.below HB.out).row k hkb
          have k1 : (0 : Int) ≤ (k : Int) := by omega
          have k2 : (k : Int) < (b.length : Int) := by omega
          have hmg := merge_a (b := b) (k := k) hia hk (.inr ⟨hkb, hlt⟩)
          obtain ⟨s, hs⟩ : ∃ s, a[i] = s := ⟨_, rfl⟩
          rw [hs] at p0 p1 p2 p3 p4 hmg
          obtain ⟨t, ht⟩ : ∃ t, b[k] = t := ⟨_, rfl⟩
          rw [ht] at y0 y1 y2 y3 y4
          have q1 : ((k : Int) == (b.length : Int)) = false := by simp; omega
          rw [hs, ht] at hlt
          have hlt2 : decide (s.client < t.client) = true := decide_eq_true hlt
          clear hs ht
          have HM2 := Lib.hid (show mergeL a b = (m ++ [s]) ++ mergeL (a.drop (i + 1)) (b.drop (k)) by rw [Hm.out, hmg, List.append_assoc]; rfl)
          clear hmg
          go_upto_region 5 with fail
          refine wp_region_over (by kernel_rfl) (by kernel_rfl) ?_
          repeat (go_big_quiet_step ((fail)))
          refine wpQuiet_nil ?_
          intro _ hw'
          obtain ⟨nx1, hw''⟩ := hw'
          subst hw''
          have hbx := below_over wr nx1
          have HO1 := Lib.hid (own_only HO.out (Only.of_below (F := fun _ => False) hbx) (fun _ _ h => h))
          have HB1 := Lib.hid (HB.out.trans (hbx.mono HB.out.size))
          replace p0 := (hbx.cell (p := ⟨ga, oa + i * 5, none⟩) hga).trans p0
          replace p1 := (hbx.cell (p := ⟨ga, oa + i * 5 + 1, none⟩) hga).trans p1
          replace p2 := (hbx.cell (p := ⟨ga, oa + i * 5 + 2, none⟩) hga).trans p2
          replace p3 := (hbx.cell (p := ⟨ga, oa + i * 5 + 3, none⟩) hga).trans p3
          replace p4 := (hbx.cell (p := ⟨ga, oa + i * 5 + 4, none⟩) hga).trans p4
          replace hga := Nat.lt_of_lt_of_le hga hbx.size
          replace y0 := (hbx.cell (p := ⟨gb, ob + k * 5, none⟩) hgb).trans y0
          replace y1 := (hbx.cell (p := ⟨gb, ob + k * 5 + 1, none⟩) hgb).trans y1
          replace y2 := (hbx.cell (p := ⟨gb, ob + k * 5 + 2, none⟩) hgb).trans y2
          replace y3 := (hbx.cell (p := ⟨gb, ob + k * 5 + 3, none⟩) hgb).trans y3
          replace y4 := (hbx.cell (p := ⟨gb, ob + k * 5 + 4, none⟩) hgb).trans y4
          replace hgb := Nat.lt_of_lt_of_le hgb hbx.size
          clear hbx
          generalize over wr nx1 = wz1 at *
          go_upto_region 6 with fail
          have hv1 := heap_alloc_new wz1 s.blk
          have hr1 : RowAt (wz1.alloc s.blk) (wz1.alloc s.blk).heap.size 5 (some ⟨wz1.heap.size, 0, none⟩) [s.cells] := rowAt_one (l := s.cells) (t := 28) (fr := (0, 0)) hv1 (lt_of_some hv1)
          have Hr1 := Lib.hid hr1
          have ho1 := own_only HO1.out (only_alloc (fun _ => False) wz1 s.blk) (fun _ _ h => h)
          have Ho1 := Lib.hid ho1
          have hb1 : Below w.heap.size w (wz1.alloc s.blk) := HB1.out.trans ((al (w := wz1) s.blk).mono HB1.out.size)
          have Hb1 := Lib.hid hb1
          have hone : ∀ u ∈ [s.cells].flatten, u.oneCell' = true := by simpa using one_seen s
          have hfive : ∀ c ∈ [s.cells], c.length = 5 := by simp [Seen.cells]
          have hmx : m.length + 1 ≤ maxLen := by unfold maxLen; omega
          have hby : (m.length + 1) * 56 ≤ 140737488355328 := by omega
          have hbs : w.heap.size ≤ (wz1.alloc s.blk).heap.size := Hb1.out.size
          clear hv1 hr1 ho1 hb1
          go_upto_region 7 with (at_builtin
                                 refine wpList_app _ rfl (.tmp 41) (.tmp 46) 22 rfl 28 i0 _ w.heap.size 5 56 Try.underlying22 hi0 hz0 hz1 hz2 rfl (by omega) (.slice M m.length mc) m.length ((m.map Seen.cells).flatten) rfl Ho1.out (wz1.alloc s.blk).heap.size (some ⟨wz1.heap.size, 0, none⟩) 1 1 [s.cells] rfl Hr1.out hfive rfl hone hmx hby hbs ?_
                                 intro M2 c2 w2 hO2 hg2 _
                                 have HO2 := Lib.hid hO2; have HB2 := Lib.hid (Hb1.out.grown hg2 hbs (fun q hq => (Ho1.out.lt q hq).1))
                                 clear hO2 hg2)
          go_wp2_with fail
          go_roundw
          case rel => exact ⟨i + 1, k, m ++ [s], M2, c2, by omega, by omega, by simp, by go_num, by go_num, HM2.out, by have := HO2.out; simpa using this, HB2.out⟩
          case measure => simp [intOf]; omega
        · by_cases h3 : (a[i]).seq < (b[k]).seq
          · skip
            obtain ⟨ga, oa, rfl, hga, p0, p1, p2, p3, p4⟩ := seen_cells (HA.out.below HB.out).row i hia
            have i1 : (0 : Int) ≤ (i : Int) := by omega
            have i2 : (i : Int) < (a.length : Int) := by omega
            obtain ⟨gb, ob, rfl, hgb, y0, y1, y2, y3, y4⟩ := seen_cells (HBk.out.below HB.out).row k hkb
            have k1 : (0 : Int) ≤ (k : Int) := by omega
            have k2 : (k : Int) < (b.length : Int) := by omega
            have hmg := merge_both hia hkb heq
            obtain ⟨s, hs⟩ : ∃ s, a[i] = s := ⟨_, rfl⟩
            rw [hs] at p0 p1 p2 p3 p4 hmg
            obtain ⟨t, ht⟩ : ∃ t, b[k] = t := ⟨_, rfl⟩
            rw [ht] at y0 y1 y2 y3 y4 hmg
            have q1 : ((k : Int) == (b.length : Int)) = false := by simp; omega
            have q3 : ((i : Int) == (a.length : Int)) = false := by simp; omega
            rw [hs, ht] at heq h3
            have h1 : ¬ s.client < t.client := by omega
            have h1' : decide (s.client < t.client) = false := decide_eq_false h1
            have h2 : ¬ t.client < s.client := by omega
            have h2' : decide (t.client < s.client) = false := decide_eq_false h2
            clear hs ht heq
            have h3' : decide (s.seq < t.seq) = true := decide_eq_true h3
            rw [if_pos h3] at hmg
            have HM2 := Lib.hid (show mergeL a b = (m ++ [t]) ++ mergeL (a.drop (i + 1)) (b.drop (k + 1)) by rw [Hm.out, hmg, List.append_assoc]; rfl)
            clear hmg
            go_upto_region 5 with fail
            refine wp_region_over (by kernel_rfl) (by kernel_rfl) ?_
            repeat (go_big_quiet_step ((fail)))
            refine wpQuiet_nil ?_
            intro _ hw'
            obtain ⟨nx1, hw''⟩ := hw'
            subst hw''
            have hbx := below_over wr nx1
            have HO1 := Lib.hid (own_only HO.out (Only.of_below (F := fun _ => False) hbx) (fun _ _ h => h))
            have HB1 := Lib.hid (HB.out.trans (hbx.mono HB.out.size))
            replace p0 := (hbx.cell (p := ⟨ga, oa + i * 5, none⟩) hga).trans p0
            replace p1 := (hbx.cell (p := ⟨ga, oa + i * 5 + 1, none⟩) hga).trans p1
            replace p2 := (hbx.cell (p := ⟨ga, oa + i * 5 + 2, none⟩) hga).trans p2
            replace p3 := (hbx.cell (p := ⟨ga, oa + i * 5 + 3, none⟩) hga).trans p3
            replace p4 := (hbx.cell (p := ⟨ga, oa + i * 5 + 4, none⟩) hga).trans p4
            replace hga := Nat.lt_of_lt_of_le hga hbx.size
            replace y0 := (hbx.cell (p := ⟨gb, ob + k * 5, none⟩) hgb).trans y0
            replace y1 := (hbx.cell (p := ⟨gb, ob + k * 5 + 1, none⟩) hgb).trans y1
            replace y2 := (hbx.cell (p := ⟨gb, ob + k * 5 + 2, none⟩) hgb).trans y2
            replace y3 := (hbx.cell (p := ⟨gb, ob + k * 5 + 3, none⟩) hgb).trans y3
            replace y4 := (hbx.cell (p := ⟨gb, ob + k * 5 + 4, none⟩) hgb).trans y4
            replace hgb := Nat.lt_of_lt_of_le hgb hbx.size
            clear hbx
            generalize over wr nx1 = wz1 at *
            go_upto_region 8 with fail
            refine wp_region_over (by kernel_rfl) (by kernel_rfl) ?_
            repeat (go_big_quiet_step ((fail)))
            refine wpQuiet_nil ?_
            intro _ hw'
            obtain ⟨nx2, hw''⟩ := hw'
            subst hw''
            have hbx := below_over wz1 nx2
            have HO2 := Lib.hid (own_only HO1.out (Only.of_below (F := fun _ => False) hbx) (fun _ _ h => h))
            have HB2 := Lib.hid (HB1.out.trans (hbx.mono HB1.out.size))
            replace p0 := (hbx.cell (p := ⟨ga, oa + i * 5, none⟩) hga).trans p0
            replace p1 := (hbx.cell (p := ⟨ga, oa + i * 5 + 1, none⟩) hga).trans p1
            replace p2 := (hbx.cell (p := ⟨ga, oa + i * 5 + 2, none⟩) hga).trans p2
            replace p3 := (hbx.cell (p := ⟨ga, oa + i * 5 + 3, none⟩) hga).trans p3
            replace p4 := (hbx.cell (p := ⟨ga, oa + i * 5 + 4, none⟩) hga).trans p4
            replace hga := Nat.lt_of_lt_of_le hga hbx.size
            replace y0 := (hbx.cell (p := ⟨gb, ob + k * 5, none⟩) hgb).trans y0
            replace y1 := (hbx.cell (p := ⟨gb, ob + k * 5 + 1, none⟩) hgb).trans y1
            replace y2 := (hbx.cell (p := ⟨gb, ob + k * 5 + 2, none⟩) hgb).trans y2
            replace y3 := (hbx.cell (p := ⟨gb, ob + k * 5 + 3, none⟩) hgb).trans y3
            replace y4 := (hbx.cell (p := ⟨gb, ob + k * 5 + 4, none⟩) hgb).trans y4
            replace hgb := Nat.lt_of_lt_of_le hgb hbx.size
            clear hbx
            generalize over wz1 nx2 = wz2 at *
            go_upto_region 11 with fail
            refine wp_region_over (by kernel_rfl) (by kernel_rfl) ?_
            repeat (go_big_quiet_step ((fail)))
            refine wpQuiet_nil ?_
            intro _ hw'
            obtain ⟨nx3, hw''⟩ := hw'
            subst hw''
            have hbx := below_over wz2 nx3
            have HO3 := Lib.hid (own_only HO2.out (Only.of_below (F := fun _ => False) hbx) (fun _ _ h => h))
            have HB3 := Lib.hid (HB2.out.trans (hbx.mono HB2.out.size))
            replace p0 := (hbx.cell (p := ⟨ga, oa + i * 5, none⟩) hga).trans p0
            replace p1 := (hbx.cell (p := ⟨ga, oa + i * 5 + 1, none⟩) hga).trans p1
            replace p2 := (hbx.cell (p := ⟨ga, oa + i * 5 + 2, none⟩) hga).trans p2
            replace p3 := (hbx.cell (p := ⟨ga, oa + i * 5 + 3, none⟩) hga).trans p3
            replace p4 := (hbx.cell (p := ⟨ga, oa + i * 5 + 4, none⟩) hga).trans p4
            replace hga := Nat.lt_of_lt_of_le hga hbx.size
            replace y0 := (hbx.cell (p := ⟨gb, ob + k * 5, none⟩) hgb).trans y0
            replace y1 := (hbx.cell (p := ⟨gb, ob + k * 5 + 1, none⟩) hgb).trans y1
            replace y2 := (hbx.cell (p := ⟨gb, ob + k * 5 + 2, none⟩) hgb).trans y2
            replace y3 := (hbx.cell (p := ⟨gb, ob + k * 5 + 3, none⟩) hgb).trans y3
            replace y4 := (hbx.cell (p := ⟨gb, ob + k * 5 + 4, none⟩) hgb).trans y4
            replace hgb := Nat.lt_of_lt_of_le hgb hbx.size
            clear hbx
            generalize over wz2 nx3 = wz3 at *
            go_upto_region 12 with fail
            have hv1 := heap_alloc_new wz3 t.blk
            have hr1 : RowAt (wz3.alloc t.blk) (wz3.alloc t.blk).heap.size 5 (some ⟨wz3.heap.size, 0, none⟩) [t.cells] := rowAt_one (l := t.cells) (t := 28) (fr := (0, 0)) hv1 (lt_of_some hv1)
            have Hr1 := Lib.hid hr1
            have ho1 := own_only HO3.out (only_alloc (fun _ => False) wz3 t.blk) (fun _ _ h => h)
            have Ho1 := Lib.hid ho1
            have hb1 : Below w.heap.size w (wz3.alloc t.blk) := HB3.out.trans ((al (w := wz3) t.blk).mono HB3.out.size)
            have Hb1 := Lib.hid hb1
            have hone : ∀ u ∈ [t.cells].flatten, u.oneCell' = true := by simpa using one_seen t
            have hfive : ∀ c ∈ [t.cells], c.length = 5 := by simp [Seen.cells]
            have hmx : m.length + 1 ≤ maxLen := by unfold maxLen; omega
            have hby : (m.length + 1) * 56 ≤ 140737488355328 := by omega
            have hbs : w.heap.size ≤ (wz3.alloc t.blk).heap.size := Hb1.out.size
            clear hv1 hr1 ho1 hb1
            go_upto_region 14 with (at_builtin
                                    refine wpList_app _ rfl (.tmp 87) (.tmp 92) 22 rfl 28 i0 _ w.heap.size 5 56 Try.underlying22 hi0 hz0 hz1 hz2 rfl (by omega) (.slice M m.length mc) m.length ((m.map Seen.cells).flatten) rfl Ho1.out (wz3.alloc t.blk).heap.size (some ⟨wz3.heap.size, 0, none⟩) 1 1 [t.cells] rfl Hr1.out hfive rfl hone hmx hby hbs ?_
                                    intro M2 c2 w2 hO2 hg2 _
                                    have HO2 := Lib.hid hO2; have HB2 := Lib.hid (Hb1.out.grown hg2 hbs (fun q hq => (Ho1.out.lt q hq).1))
                                    clear hO2 hg2)
            go_wp2_with fail
            go_roundw
            case rel => exact ⟨i + 1, k + 1, m ++ [t], M2, c2, by omega, by omega, by simp, by go_num, by go_num, HM2.out, by have := HO2.out; simpa using this, HB2.out⟩
            case measure => simp [intOf]; omega
          · skip
            obtain ⟨ga, oa, rfl, hga, p0, p1, p2, p3, p4⟩ := seen_cells (HA.out.below HB.out).row i hia
            have i1 : (0 : Int) ≤ (i : Int) := by omega
            have i2 : (i : Int) < (a.length : Int) := by omega
            obtain ⟨gb, ob, rfl, hgb, y0, y1, y2, y3, y4⟩ := seen_cells (HBk.out.below HB.out).row k hkb
            have k1 : (0 : Int) ≤ (k : Int) := by omega
            have k2 : (k : Int) < (b.length : Int) := by omega
            have hmg := merge_both hia hkb heq
            obtain ⟨s, hs⟩ : ∃ s, a[i] = s := ⟨_, rfl⟩
            rw [hs] at p0 p1 p2 p3 p4 hmg
            obtain ⟨t, ht⟩ : ∃ t, b[k] = t := ⟨_, rfl⟩
            rw [ht] at y0 y1 y2 y3 y4 hmg
            have q1 : ((k : Int) == (b.length : Int)) = false := by simp; omega
            have q3 : ((i : Int) == (a.length : Int)) = false := by simp; omega
            rw [hs, ht] at heq h3
            have h1 : ¬ s.client < t.client := by omega
            have h1' : decide (s.client < t.client) = false := decide_eq_false h1
            have h2 : ¬ t.client < s.client := by omega
            have h2' : decide (t.client < s.client) = false := decide_eq_false h2
            clear hs ht heq
            have h3' : decide (s.seq < t.seq) = false := decide_eq_false h3
            rw [if_neg h3] at hmg
            have HM2 := Lib.hid (show mergeL a b = (m ++ [s]) ++ mergeL (a.drop (i + 1)) (b.drop (k + 1)) by rw [Hm.out, hmg, List.append_assoc]; rfl)
            clear hmg
            go_upto_region 5 with fail
            refine wp_region_over (by kernel_rfl) (by kernel_rfl) ?_
            repeat (go_big_quiet_step ((fail)))
            refine wpQuiet_nil ?_
            intro _ hw'
            obtain ⟨nx1, hw''⟩ := hw'
            subst hw''
            have hbx := below_over wr nx1
            have HO1 := Lib.hid (own_only HO.out (Only.of_below (F := fun _ => False) hbx) (fun _ _ h => h))
            have HB1 := Lib.hid (HB.out.trans (hbx.mono HB.out.size))
            replace p0 := (hbx.cell (p := ⟨ga, oa + i * 5, none⟩) hga).trans p0
            replace p1 := (hbx.cell (p := ⟨ga, oa + i * 5 + 1, none⟩) hga).trans p1
            replace p2 := (hbx.cell (p := ⟨ga, oa + i * 5 + 2, none⟩) hga).trans p2
            replace p3 := (hbx.cell (p := ⟨ga, oa + i * 5 + 3, none⟩) hga).trans p3
            replace p4 := (hbx.cell (p := ⟨ga, oa + i * 5 + 4, none⟩) hga).trans p4
            replace hga := Nat.lt_of_lt_of_le hga hbx.size
            replace y0 := (hbx.cell (p := ⟨gb, ob + k * 5, none⟩) hgb).trans y0
            replace y1 := (hbx.cell (p := ⟨gb, ob + k * 5 + 1, none⟩) hgb).trans y1
            replace y2 := (hbx.cell (p := ⟨gb, ob + k * 5 + 2, none⟩) hgb).trans y2
            replace y3 := (hbx.cell (p := ⟨gb, ob + k * 5 + 3, none⟩) hgb).trans y3
            replace y4 := (hbx.cell (p := ⟨gb, ob + k * 5 + 4, none⟩) hgb).trans y4
            replace hgb := Nat.lt_of_lt_of_le hgb hbx.size
            clear hbx
            generalize over wr nx1 = wz1 at *
            go_upto_region 8 with fail
            refine wp_region_over (by kernel_rfl) (by kernel_rfl) ?_
            repeat (go_big_quiet_step ((fail)))
            refine wpQuiet_nil ?_
            intro _ hw'
            obtain ⟨nx2, hw''⟩ := hw'
            subst hw''
            have hbx := below_over wz1 nx2
            have HO2 := Lib.hid (own_only HO1.out (Only.of_below (F := fun _ => False) hbx) (fun _ _ h => h))
            have HB2 := Lib.hid (HB1.out.trans (hbx.mono HB1.out.size))
            replace p0 := (hbx.cell (p := ⟨ga, oa + i * 5, none⟩) hga).trans p0
            replace p1 := (hbx.cell (p := ⟨ga, oa + i * 5 + 1, none⟩) hga).trans p1
            replace p2 := (hbx.cell (p := ⟨ga, oa + i * 5 + 2, none⟩) hga).trans p2
            replace p3 := (hbx.cell (p := ⟨ga, oa + i * 5 + 3, none⟩) hga).trans p3
            replace p4 := (hbx.cell (p := ⟨ga, oa + i * 5 + 4, none⟩) hga).trans p4
            replace hga := Nat.lt_of_lt_of_le hga hbx.size
            replace y0 := (hbx.cell (p := ⟨gb, ob + k * 5, none⟩) hgb).trans y0
            replace y1 := (hbx.cell (p := ⟨gb, ob + k * 5 + 1, none⟩) hgb).trans y1
            replace y2 := (hbx.cell (p := ⟨gb, ob + k * 5 + 2, none⟩) hgb).trans y2
            replace y3 := (hbx.cell (p := ⟨gb, ob + k * 5 + 3, none⟩) hgb).trans y3
            replace y4 := (hbx.cell (p := ⟨gb, ob + k * 5 + 4, none⟩) hgb).trans y4
            replace hgb := Nat.lt_of_lt_of_le hgb hbx.size
            clear hbx
            generalize over wz1 nx2 = wz2 at *
            go_upto_region 11 with fail
            refine wp_region_over (by kernel_rfl) (by kernel_rfl) ?_
            repeat (go_big_quiet_step ((fail)))
            refine wpQuiet_nil ?_
            intro _ hw'
            obtain ⟨nx3, hw''⟩ := hw'
            subst hw''
            have hbx := below_over wz2 nx3
            have HO3 := Lib.hid (own_only HO2.out (Only.of_below (F := fun _ => False) hbx) (fun _ _ h => h))
            have HB3 := Lib.hid (HB2.out.trans (hbx.mono HB2.out.size))
            replace p0 := (hbx.cell (p := ⟨ga, oa + i * 5, none⟩) hga).trans p0
            replace p1 := (hbx.cell (p := ⟨ga, oa + i * 5 + 1, none⟩) hga).trans p1
            replace p2 := (hbx.cell (p := ⟨ga, oa + i * 5 + 2, none⟩) hga).trans p2
            replace p3 := (hbx.cell (p := ⟨ga, oa + i * 5 + 3, none⟩) hga).trans p3
            replace p4 := (hbx.cell (p := ⟨ga, oa + i * 5 + 4, none⟩) hga).trans p4
            replace hga := Nat.lt_of_lt_of_le hga hbx.size
            replace y0 := (hbx.cell (p := ⟨gb, ob + k * 5, none⟩) hgb).trans y0
            replace y1 := (hbx.cell (p := ⟨gb, ob + k * 5 + 1, none⟩) hgb).trans y1
            replace y2 := (hbx.cell (p := ⟨gb, ob + k * 5 + 2, none⟩) hgb).trans y2
            replace y3 := (hbx.cell (p := ⟨gb, ob + k * 5 + 3, none⟩) hgb).trans y3
            replace y4 := (hbx.cell (p := ⟨gb, ob + k * 5 + 4, none⟩) hgb).trans y4
            replace hgb := Nat.lt_of_lt_of_le hgb hbx.size
            clear hbx
            generalize over wz2 nx3 = wz3 at *
            go_upto_region 13 with fail
            have hv1 := heap_alloc_new wz3 s.blk
            have hr1 : RowAt (wz3.alloc s.blk) (wz3.alloc s.blk).heap.size 5 (some ⟨wz3.heap.size, 0, none⟩) [s.cells] := rowAt_one (l := s.cells) (t := 28) (fr := (0, 0)) hv1 (lt_of_some hv1)
            have Hr1 := Lib.hid hr1
            have ho1 := own_only HO3.out (only_alloc (fun _ => False) wz3 s.blk) (fun _ _ h => h)
            have Ho1 := Lib.hid ho1
            have hb1 : Below w.heap.size w (wz3.alloc s.blk) := HB3.out.trans ((al (w := wz3) s.blk).mono HB3.out.size)
            have Hb1 := Lib.hid hb1
            have hone : ∀ u ∈ [s.cells].flatten, u.oneCell' = true := by simpa using one_seen s
            have hfive : ∀ c ∈ [s.cells], c.length = 5 := by simp [Seen.cells]
            have hmx : m.length + 1 ≤ maxLen := by unfold maxLen; omega
            have hby : (m.length + 1) * 56 ≤ 140737488355328 := by omega
            have hbs : w.heap.size ≤ (wz3.alloc s.blk).heap.size := Hb1.out.size
            clear hv1 hr1 ho1 hb1
            go_upto_region 14 with (at_builtin
                                    refine wpList_app _ rfl (.tmp 94) (.tmp 99) 22 rfl 28 i0 _ w.heap.size 5 56 Try.underlying22 hi0 hz0 hz1 hz2 rfl (by omega) (.slice M m.length mc) m.length ((m.map Seen.cells).flatten) rfl Ho1.out (wz3.alloc s.blk).heap.size (some ⟨wz3.heap.size, 0, none⟩) 1 1 [s.cells] rfl Hr1.out hfive rfl hone hmx hby hbs ?_
                                    intro M2 c2 w2 hO2 hg2 _
                                    have HO2 := Lib.hid hO2; have HB2 := Lib.hid (Hb1.out.grown hg2 hbs (fun q hq => (Ho1.out.lt q hq).1))
                                    clear hO2 hg2)
            go_wp2_with fail
            go_roundw
            case rel => exact ⟨i + 1, k + 1, m ++ [s], M2, c2, by omega, by omega, by simp, by go_num, by go_num, HM2.out, by have := HO2.out; simpa using this, HB2.out⟩
            case measure => simp [intOf]; omega
        · skip
          obtain ⟨ga, oa, rfl, hga, p0, p1, p2, p3, p4⟩ := seen_cells (HA.out.below HB.out).row i hia
          have i1 : (0 : Int) ≤ (i : Int) := by omega
          have i2 : (i : Int) < (a.length : Int) := by omega
          obtain ⟨gb, ob, rfl, hgb, y0, y1, y2, y3, y4⟩ := seen_cells (HBk.out.below HB.out).row k hkb
          have k1 : (0 : Int) ≤ (k : Int) := by omega
          have k2 : (k : Int) < (b.length : Int) := by omega
          have hmg := merge_b (a := a) (i := i) hi hkb (.inr ⟨hia, hlt⟩)
          obtain ⟨s, hs⟩ : ∃ s, a[i] = s := ⟨_, rfl⟩
          rw [hs] at p0 p1 p2 p3 p4
          obtain ⟨t, ht⟩ : ∃ t, b[k] = t := ⟨_, rfl⟩
          rw [ht] at y0 y1 y2 y3 y4 hmg
          have q1 : ((k : Int) == (b.length : Int)) = false := by simp; omega
          have q3 : ((i : Int) == (a.length : Int)) = false := by simp; omega
          rw [hs, ht] at hlt
          have h1 : ¬ s.client < t.client := by omega
          have h1' : decide (s.client < t.client) = false := decide_eq_false h1
          have hlt2 : decide (t.client < s.client) = true := decide_eq_true hlt
          clear hs ht
          have HM2 := Lib.hid (show mergeL a b = (m ++ [t]) ++ mergeL (a.drop (i)) (b.drop (k + 1)) by rw [Hm.out, hmg, List.append_assoc]; rfl)
          clear hmg
          go_upto_region 5 with fail
          refine wp_region_over (by kernel_rfl) (by kernel_rfl) ?_
          repeat (go_big_quiet_step ((fail)))
          refine wpQuiet_nil ?_
          intro _ hw'
          obtain ⟨nx1, hw''⟩ := hw'
          subst hw''
          have hbx := below_over wr nx1
          have HO1 := Lib.hid (own_only HO.out (Only.of_below (F := fun _ => False) hbx) (fun _ _ h => h))
          have HB1 := Lib.hid (HB.out.trans (hbx.mono HB.out.size))
          replace p0 := (hbx.cell (p := ⟨ga, oa + i * 5, none⟩) hga).trans p0
          replace p1 := (hbx.cell (p := ⟨ga, oa + i * 5 + 1, none⟩) hga).trans p1
          replace p2 := (hbx.cell (p := ⟨ga, oa + i * 5 + 2, none⟩) hga).trans p2
          replace p3 := (hbx.cell (p := ⟨ga, oa + i * 5 + 3, none⟩) hga).trans p3
          replace p4 := (hbx.cell (p := ⟨ga, oa + i * 5 + 4, none⟩) hga).trans p4
          replace hga := Nat.lt_of_lt_of_le hga hbx.size
          replace y0 := (hbx.cell (p := ⟨gb, ob + k * 5, none⟩) hgb).trans y0
          replace y1 := (hbx.cell (p := ⟨gb, ob + k * 5 + 1, none⟩) hgb).trans y1
          replace y2 := (hbx.cell (p := ⟨gb, ob + k * 5 + 2, none⟩) hgb).trans y2
          replace y3 := (hbx.cell (p := ⟨gb, ob + k * 5 + 3, none⟩) hgb).trans y3
          replace y4 := (hbx.cell (p := ⟨gb, ob + k * 5 + 4, none⟩) hgb).trans y4
          replace hgb := Nat.lt_of_lt_of_le hgb hbx.size
          clear hbx
          generalize over wr nx1 = wz1 at *
          go_upto_region 8 with fail
          refine wp_region_over (by kernel_rfl) (by kernel_rfl) ?_
          repeat (go_big_quiet_step ((fail)))
          refine wpQuiet_nil ?_
          intro _ hw'
          obtain ⟨nx2, hw''⟩ := hw'
          subst hw''
          have hbx := below_over wz1 nx2
          have HO2 := Lib.hid (own_only HO1.out (Only.of_below (F := fun _ => False) hbx) (fun _ _ h => h))
          have HB2 := Lib.hid (HB1.out.trans (hbx.mono HB1.out.size))
          replace p0 := (hbx.cell (p := ⟨ga, oa + i * 5, none⟩) hga).trans p0
          replace p1 := (hbx.cell (p := ⟨ga, oa + i * 5 + 1, none⟩) hga).trans p1
          replace p2 := (hbx.cell (p := ⟨ga, oa + i * 5 + 2, none⟩) hga).trans p2
          replace p3 := (hbx.cell (p := ⟨ga, oa + i * 5 + 3, none⟩) hga).trans p3
          replace p4 := (hbx.cell (p := ⟨ga, oa + i * 5 + 4, none⟩) hga).trans p4
          replace hga := Nat.lt_of_lt_of_le hga hbx.size
          replace y0 := (hbx.cell (p := ⟨gb, ob + k * 5, none⟩) hgb).trans y0
          replace y1 := (hbx.cell (p := ⟨gb, ob + k * 5 + 1, none⟩) hgb).trans y1
          replace y2 := (hbx.cell (p := ⟨gb, ob + k * 5 + 2, none⟩) hgb).trans y2
          replace y3 := (hbx.cell (p := ⟨gb, ob + k * 5 + 3, none⟩) hgb).trans y3
          replace y4 := (hbx.cell (p := ⟨gb, ob + k * 5 + 4, none⟩) hgb).trans y4
          replace hgb := Nat.lt_of_lt_of_le hgb hbx.size
          clear hbx
          generalize over wz1 nx2 = wz2 at *
          go_upto_region 9 with fail
          have hv1 := heap_alloc_new wz2 t.blk
          have hr1 : RowAt (wz2.alloc t.blk) (wz2.alloc t.blk).heap.size 5 (some ⟨wz2.heap.size, 0, none⟩) [t.cells] := rowAt_one (l := t.cells) (t := 28) (fr := (0, 0)) hv1 (lt_of_some hv1)
          have Hr1 := Lib.hid hr1
          have ho1 := own_only HO2.out (only_alloc (fun _ => False) wz2 t.blk) (fun _ _ h => h)
          have Ho1 := Lib.hid ho1
          have hb1 : Below w.heap.size w (wz2.alloc t.blk) := HB2.out.trans ((al (w := wz2) t.blk).mono HB2.out.size)
          have Hb1 := Lib.hid hb1
          have hone : ∀ u ∈ [t.cells].flatten, u.oneCell' = true := by simpa using one_seen t
          have hfive : ∀ c ∈ [t.cells], c.length = 5 := by simp [Seen.cells]
          have hmx : m.length + 1 ≤ maxLen := by unfold maxLen; omega
          have hby : (m.length + 1) * 56 ≤ 140737488355328 := by omega
          have hbs : w.heap.size ≤ (wz2.alloc t.blk).heap.size := Hb1.out.size
          clear hv1 hr1 ho1 hb1
          go_upto_region 10 with (at_builtin
                                  refine wpList_app _ rfl (.tmp 67) (.tmp 72) 22 rfl 28 i0 _ w.heap.size 5 56 Try.underlying22 hi0 hz0 hz1 hz2 rfl (by omega) (.slice M m.length mc) m.length ((m.map Seen.cells).flatten) rfl Ho1.out (wz2.alloc t.blk).heap.size (some ⟨wz2.heap.size, 0, none⟩) 1 1 [t.cells] rfl Hr1.out hfive rfl hone hmx hby hbs ?_
                                  intro M2 c2 w2 hO2 hg2 _
                                  have HO2 := Lib.hid hO2; have HB2 := Lib.hid (Hb1.out.grown hg2 hbs (fun q hq => (Ho1.out.lt q hq).1))
                                  clear hO2 hg2)
          go_wp2_with fail
          go_roundw
          case rel => exact ⟨i, k + 1, m ++ [t], M2, c2, by omega, by omega, by simp, by go_num, by go_num, HM2.out, by have := HO2.out; simpa using this, HB2.out⟩
          case measure => simp [intOf]; omega
      · skip
        obtain ⟨ga, oa, rfl, hga, p0, p1, p2, p3, p4⟩ := seen_cells (HA.out.below HB.out).row i hia
        have i1 : (0 : Int) ≤ (i : Int) := by omega
        have i2 : (i : Int) < (a.length : Int) := by omega
        have hmg := merge_a (b := b) (k := k) hia hk (.inl (by omega))
        obtain ⟨s, hs⟩ : ∃ s, a[i] = s := ⟨_, rfl⟩
        rw [hs] at p0 p1 p2 p3 p4 hmg
        have q1 : ((k : Int) == (b.length : Int)) = true := by simp; omega
        clear hs
        have HM2 := Lib.hid (show mergeL a b = (m ++ [s]) ++ mergeL (a.drop (i + 1)) (b.drop (k)) by rw [Hm.out, hmg, List.append_assoc]; rfl)
        clear hmg
        go_upto_region 5 with fail
        refine wp_region_over (by kernel_rfl) (by kernel_rfl) ?_
        repeat (go_big_quiet_step ((fail)))
        refine wpQuiet_nil ?_
        intro _ hw'
        obtain ⟨nx1, hw''⟩ := hw'
        subst hw''
        have hbx := below_over wr nx1
        have HO1 := Lib.hid (own_only HO.out (Only.of_below (F := fun _ => False) hbx) (fun _ _ h => h))
        have HB1 := Lib.hid (HB.out.trans (hbx.mono HB.out.size))
        replace p0 := (hbx.cell (p := ⟨ga, oa + i * 5, none⟩) hga).trans p0
        replace p1 := (hbx.cell (p := ⟨ga, oa + i * 5 + 1, none⟩) hga).trans p1
        replace p2 := (hbx.cell (p := ⟨ga, oa + i * 5 + 2, none⟩) hga).trans p2
        replace p3 := (hbx.cell (p := ⟨ga, oa + i * 5 + 3, none⟩) hga).trans p3
        replace p4 := (hbx.cell (p := ⟨ga, oa + i * 5 + 4, none⟩) hga).trans p4
        replace hga := Nat.lt_of_lt_of_le hga hbx.size
        clear hbx
        generalize over wr nx1 = wz1 at *
        go_upto_region 6 with fail
        have hv1 := heap_alloc_new wz1 s.blk
        have hr1 : RowAt (wz1.alloc s.blk) (wz1.alloc s.blk).heap.size 5 (some ⟨wz1.heap.size, 0, none⟩) [s.cells] := rowAt_one (l := s.cells) (t := 28) (fr := (0, 0)) hv1 (lt_of_some hv1)
        have Hr1 := Lib.hid hr1
        have ho1 := own_only HO1.out (only_alloc (fun _ => False) wz1 s.blk) (fun _ _ h => h)
        have Ho1 := Lib.hid ho1
        have hb1 : Below w.heap.size w (wz1.alloc s.blk) := HB1.out.trans ((al (w := wz1) s.blk).mono HB1.out.size)
        have Hb1 := Lib.hid hb1
        have hone : ∀ u ∈ [s.cells].flatten, u.oneCell' = true := by simpa using one_seen s
        have hfive : ∀ c ∈ [s.cells], c.length = 5 := by simp [Seen.cells]
        have hmx : m.length + 1 ≤ maxLen := by unfold maxLen; omega
        have hby : (m.length + 1) * 56 ≤ 140737488355328 := by omega
        have hbs : w.heap.size ≤ (wz1.alloc s.blk).heap.size := Hb1.out.size
        clear hv1 hr1 ho1 hb1
        go_upto_region 7 with (at_builtin
                               refine wpList_app _ rfl (.tmp 41) (.tmp 46) 22 rfl 28 i0 _ w.heap.size 5 56 Try.underlying22 hi0 hz0 hz1 hz2 rfl (by omega) (.slice M m.length mc) m.length ((m.map Seen.cells).flatten) rfl Ho1.out (wz1.alloc s.blk).heap.size (some ⟨wz1.heap.size, 0, none⟩) 1 1 [s.cells] rfl Hr1.out hfive rfl hone hmx hby hbs ?_
                               intro M2 c2 w2 hO2 hg2 _
                               have HO2 := Lib.hid hO2; have HB2 := Lib.hid (Hb1.out.grown hg2 hbs (fun q hq => (Ho1.out.lt q hq).1))
                               clear hO2 hg2)
        go_wp2_with fail
        go_roundw
        case rel => exact ⟨i + 1, k, m ++ [s], M2, c2, by omega, by omega, by simp, by go_num, by go_num, HM2.out, by have := HO2.out; simpa using this, HB2.out⟩
        case measure => simp [intOf]; omega
    · by_cases hkb : k < b.length
      · skip
        obtain ⟨gb, ob, rfl, hgb, y0, y1, y2, y3, y4⟩ := seen_cells (HBk.out.below HB.out).row k hkb
        have k1 : (0 : Int) ≤ (k : Int) := by omega
        have k2 : (k : Int) < (b.length : Int) := by omega
        have hmg := merge_b (a := a) (i := i) hi hkb (.inl (by omega))
        obtain ⟨t, ht⟩ : ∃ t, b[k] = t := ⟨_, rfl⟩
        rw [ht] at y0 y1 y2 y3 y4 hmg
        have q1 : ((k : Int) == (b.length : Int)) = false := by simp; omega
        have q3 : ((i : Int) == (a.length : Int)) = true := by simp; omega
        have i2 : ¬ (i : Int) < (a.length : Int) := by omega
        clear ht
        have HM2 := Lib.hid (show mergeL a b = (m ++ [t]) ++ mergeL (a.drop (i)) (b.drop (k + 1)) by rw [Hm.out, hmg, List.append_assoc]; rfl)
        clear hmg
        go_upto_region 5 with fail
        refine wp_region_over (by kernel_rfl) (by kernel_rfl) ?_
        repeat (go_big_quiet_step ((fail)))
        refine wpQuiet_nil ?_
        intro _ hw'
        obtain ⟨nx1, hw''⟩ := hw'
        subst hw''
        have hbx := below_over wr nx1
        have HO1 := Lib.hid (own_only HO.out (Only.of_below (F := fun _ => False) hbx) (fun _ _ h => h))
        have HB1 := Lib.hid (HB.out.trans (hbx.mono HB.out.size))
        replace y0 := (hbx.cell (p := ⟨gb, ob + k * 5, none⟩) hgb).trans y0
        replace y1 := (hbx.cell (p := ⟨gb, ob + k * 5 + 1, none⟩) hgb).trans y1
        replace y2 := (hbx.cell (p := ⟨gb, ob + k * 5 + 2, none⟩) hgb).trans y2
        replace y3 := (hbx.cell (p := ⟨gb, ob + k * 5 + 3, none⟩) hgb).trans y3
        replace y4 := (hbx.cell (p := ⟨gb, ob + k * 5 + 4, none⟩) hgb).trans y4
        replace hgb := Nat.lt_of_lt_of_le hgb hbx.size
        clear hbx
        generalize over wr nx1 = wz1 at *
        go_upto_region 8 with fail
        refine wp_region_over (by kernel_rfl) (by kernel_rfl) ?_
        repeat (go_big_quiet_step ((fail)))
        refine wpQuiet_nil ?_
        intro _ hw'
        obtain ⟨nx2, hw''⟩ := hw'
        subst hw''
        have hbx := below_over wz1 nx2
        have HO2 := Lib.hid (own_only HO1.out (Only.of_below (F := fun _ => False) hbx) (fun _ _ h => h))
        have HB2 := Lib.hid (HB1.out.trans (hbx.mono HB1.out.size))
        replace y0 := (hbx.cell (p := ⟨gb, ob + k * 5, none⟩) hgb).trans y0
        replace y1 := (hbx.cell (p := ⟨gb, ob + k * 5 + 1, none⟩) hgb).trans y1
        replace y2 := (hbx.cell (p := ⟨gb, ob + k * 5 + 2, none⟩) hgb).trans y2
        replace y3 := (hbx.cell (p := ⟨gb, ob + k * 5 + 3, none⟩) hgb).trans y3
        replace y4 := (hbx.cell (p := ⟨gb, ob + k * 5 + 4, none⟩) hgb).trans y4
        replace hgb := Nat.lt_of_lt_of_le hgb hbx.size
        clear hbx
        generalize over wz1 nx2 = wz2 at *
        go_upto_region 9 with fail
        have hv1 := heap_alloc_new wz2 t.blk
        have hr1 : RowAt (wz2.alloc t.blk) (wz2.alloc t.blk).heap.size 5 (some ⟨wz2.heap.size, 0, none⟩) [t.cells] := rowAt_one (l := t.cells) (t := 28) (fr := (0, 0)) hv1 (lt_of_some hv1)
        have Hr1 := Lib.hid hr1
        have ho1 := own_only HO2.out (only_alloc (fun _ => False) wz2 t.blk) (fun _ _ h => h)
        have Ho1 := Lib.hid ho1
        have hb1 : Below w.heap.size w (wz2.alloc t.blk) := HB2.out.trans ((al (w := wz2) t.blk).mono HB2.out.size)
        have Hb1 := Lib.hid hb1
        have hone : ∀ u ∈ [t.cells].flatten, u.oneCell' = true := by simpa using one_seen t
        have hfive : ∀ c ∈ [t.cells], c.length = 5 := by simp [Seen.cells]
        have hmx : m.length + 1 ≤ maxLen := by unfold maxLen; omega
        have hby : (m.length + 1) * 56 ≤ 140737488355328 := by omega
        have hbs : w.heap.size ≤ (wz2.alloc t.blk).heap.size := Hb1.out.size
        clear hv1 hr1 ho1 hb1
        go_upto_region 10 with (at_builtin
                                refine wpList_app _ rfl (.tmp 67) (.tmp 72) 22 rfl 28 i0 _ w.heap.size 5 56 Try.underlying22 hi0 hz0 hz1 hz2 rfl (by omega) (.slice M m.length mc) m.length ((m.map Seen.cells).flatten) rfl Ho1.out (wz2.alloc t.blk).heap.size (some ⟨wz2.heap.size, 0, none⟩) 1 1 [t.cells] rfl Hr1.out hfive rfl hone hmx hby hbs ?_
                                intro M2 c2 w2 hO2 hg2 _
                                have HO2 := Lib.hid hO2; have HB2 := Lib.hid (Hb1.out.grown hg2 hbs (fun q hq => (Ho1.out.lt q hq).1))
                                clear hO2 hg2)
        go_wp2_with fail
        go_roundw
        case rel => exact ⟨i, k + 1, m ++ [t], M2, c2, by omega, by omega, by simp, by go_num, by go_num, HM2.out, by have := HO2.out; simpa using this, HB2.out⟩
        case measure => simp [intOf]; omega
      · have i2 : ¬ (i : Int) < (a.length : Int) := by omega
        have k2 : ¬ (k : Int) < (b.length : Int) := by omega
        have hme : mergeL a b = m := by
          rw [Hm.out, List.drop_of_length_le (by omega), List.drop_of_length_le (by omega)]
          simp [mergeL]
        have Hme := Lib.hid hme
        clear hme
        go_wp2
        go_ret
        refine ⟨M, mc, by rw [Hme.out]; rfl, by rw [Hme.out]; exact HO.out, HB.out⟩
end Go.Proofs.Ytofdkincbhahfaa
