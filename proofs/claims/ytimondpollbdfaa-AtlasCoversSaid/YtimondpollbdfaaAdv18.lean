/- What is proved: what a phase that is done makes of a map: the document's Advance, case by case. -/
import Derived.Test.YtimondpollbdfaaAdv17
import Derived.Test.YtimondpollbdfaaChanged
set_option linter.unusedVariables false
set_option linter.unusedSimpArgs false
namespace Go.Proofs.Ytimondpollbdfaa
open Go.RowKit
attribute [local go_sem] Span.val Atl.val Plan.val

theorem changed_at (w : World) (A : Option Addr) (cap : Nat) (l : List Span) (i k : Nat) (x : Int) (hx : x = (k : Int)) (B : Option Addr) (m bc : Nat) (v : List Span) (hm : m = v.length) (hr : RowAt w w.heap.size 5 A (l.map Span.cells)) (hv : RowAt w w.heap.size 5 B (v.map Span.cells)) (hik : i ≤ k) (hk : k ≤ l.length) (h0 : 0 < l.length) (hlen : l.length ≤ 16) (hv2 : v.length ≤ 2) (hcap : l.length ≤ cap) (hcm : cap ≤ 9223372036854775807) :
    Calls Try.prog 46 #[.slice A l.length cap, .int .i64 i, .int .i64 x, .slice B m bc] w fun e w' => ∃ A' cap' n, n = (l.take i ++ v ++ l.drop k).length ∧ e = .returned (.slice A' n cap') ∧
      w'.ownsRow w.heap.size 50 5 (.slice A' n cap') n ((l.take i ++ v ++ l.drop k).map Span.cells).flatten ∧ Below w.heap.size w w' := by
  subst hx; subst hm
  refine (changed_any w A cap l i k B bc v hr hv hik hk h0 hlen hv2 hcap hcm).mono ?_
  rintro e w' ⟨A', cap', he, ho, hb⟩
  exact ⟨A', cap', _, rfl, he, ho, hb⟩
/-- A map whose spans are others: what is known of it. -/
theorem MapIn.respan {w w0 : World} {A0 A : Option Addr} {cap0 cap base : Nat} {a : Atl} {l : List Span} (h : MapIn w0 A0 cap0 a) (ho : w.ownsRow base 50 5 (.slice A l.length cap) l.length (l.map Span.cells).flatten) (hs : ∀ s ∈ l, s.to.size ≤ 9223372036854775807) (q : Plan) (hq : q.key.size ≤ 9223372036854775807) (z : Int) : MapIn w A cap { a with sp := l, plan := q, last := z } := by
  refine ⟨rowAt_of_own ho rfl (span_len _) (by simp), ?_, ?_, hs, hq⟩
  · obtain ⟨A2, c2, hv, hle, _⟩ := own_shape ho
    injection hv with _ _ h3
    show l.length ≤ _
    omega
  · rcases ho.2 with ⟨h1, _⟩ | ⟨g, c2, cur, h1, _, _, _, hm, _⟩
    · injection h1 with _ _ h3; omega
    · injection h1 with _ _ h3
      subst h3
      unfold maxLen at hm; exact hm
theorem rowAt_two {w : World} {B g t size : Nat} {fr : Nat × Nat} {l m : List Value} (hl : l.length = size) (hb : w.heap[g]? = some (.cells (l ++ m).toArray t fr)) (hB : g < B) : RowAt w B size (some ⟨g, 0, none⟩) [l, m] := by
  intro i c hi
  have hc : ∀ j u, (l ++ m)[j]? = some u → w.cell? ⟨g, j, none⟩ = some u := fun j u hu => by
    simp only [World.cell?, hb]
    simpa using hu
  match i, hi with
  | 0, hi =>
    have : l = c := by simpa using hi
    subst this
    refine ⟨g, 0, rfl, hB, fun j u hu => ?_⟩
    have := hc j u (by rw [List.getElem?_append_left (List.getElem?_eq_some_iff.1 hu).1]; exact hu)
    simpa using this
  | 1, hi =>
    have : m = c := by simpa using hi
    subst this
    refine ⟨g, 0, rfl, hB, fun j u hu => ?_⟩
    have := hc (size + j) u (by rw [List.getElem?_append_right (by omega), hl]; simpa using hu)
    simpa using this
set_option maxRecDepth 100000 in
set_option maxHeartbeats 4000000 in
theorem rAdvance_wrong (w : World) (A : Option Addr) (cap : Nat) (a : Atl) (ph : Int) (h : MapIn w A cap a) (hm : tr (MapOk a) = false)  :
    Calls Try.prog 18 #[a.val (.slice A a.sp.length cap), .int .i64 ph] w fun e w' => ∃ A' cap', e = .returned (.tuple #[zeroA.val (.slice A' zeroA.sp.length cap'), .int .i64 4]) ∧ MapIn w' A' cap' zeroA ∧ Below w.heap.size w w' := by
  have hck := fun w h => rCheck_any w A cap a h
  rw [hm] at hck
  have Hck := Lib.hid hck; have HI := Lib.hid h
  clear hck h hm
  go_enter Try.func18, Try.ntmps18
  go_upto_region 1 with fail
  have hat := al2_at w (a.blk (.slice A a.sp.length cap)) (zeroA.blk nilV)
  change Code.wp _ _ _ _ ((w.alloc (a.blk (.slice A a.sp.length cap))).alloc (zeroA.blk nilV))
  generalize (w.alloc (a.blk (.slice A a.sp.length cap))).alloc (zeroA.blk nilV) = w0 at *
  have HA0 := Lib.hid hat.1; have HZ0 := Lib.hid hat.2.1; have HB0 := Lib.hid hat.2.2
  clear hat
  refine wp_region_lit ?_
  refine wpList_load26 rfl (.tmp 2) rfl (w.heap.size) rfl HA0.out ?_
  simp only [Act.put, List.setIfInBounds_toArray, List.set_cons_zero, List.set_cons_succ]
  go_upto_region 2 with (go_at_call 39
                         refine (Hck.out _ (HI.out.below HB0.out)).mono ?_
                         rintro e w1 ⟨rfl, hb1⟩
                         have HA1 := Lib.hid (blk_below hb1 (lt_of_some HA0.out) HA0.out)
                         have HZ1 := Lib.hid (blk_below hb1 (lt_of_some HZ0.out) HZ0.out)
                         have HB1 := Lib.hid (HB0.out.trans (hb1.mono HB0.out.size))
                         clear hb1)
  refine wp_region_lit ?_
  refine wpList_step (fun K hK => ?_)
  go_simp
  refine hK _ _ ?_
  clear hK K
  refine wpList_store26 rfl (.tmp 4) (.tmp 14) rfl (w.heap.size + 1) rfl (m := zeroA) (v := nilV) (m0 := zeroA) (v0 := nilV) rfl rfl HZ1.out ?_
  intro w99 h9 ho9
  simp only [Act.put, List.setIfInBounds_toArray, List.set_cons_zero, List.set_cons_succ]
  go_wp2
  refine bodyPost_ret (results26 rfl _ _ (w.heap.size + 1) rfl h9) rfl ?_
  exact ⟨none, 0, rfl, ⟨rowAt_nil _ _ _ _, Nat.zero_le _, by decide, fun s hs => by simp [zeroA] at hs, by decide⟩, ho9.below HB1.out (fun k hk => by omega) HB1.out.size⟩
set_option maxRecDepth 100000 in
set_option maxHeartbeats 4000000 in
theorem rAdvance_none (w : World) (A : Option Addr) (cap : Nat) (a : Atl) (ph : Int) (h : MapIn w A cap a) (hm : tr (MapOk a) = true) (b0 : (a.plan.kind == 0) = true) :
    Calls Try.prog 18 #[a.val (.slice A a.sp.length cap), .int .i64 ph] w fun e w' => ∃ A' cap', e = .returned (.tuple #[a.val (.slice A' a.sp.length cap'), .int .i64 4]) ∧ MapIn w' A' cap' a ∧ Below w.heap.size w w' := by
  have hck := fun w h => rCheck_any w A cap a h
  rw [hm] at hck
  have hl3 : a.sp.length * 56 ≤ 140737488355328 := by have := (of_tr hm).2.2.2.1.1; omega
  have Hck := Lib.hid hck; have HI := Lib.hid h
  clear hck h hm
  have Hb0 := Lib.hid b0
  clear b0
  go_enter Try.func18, Try.ntmps18
  go_upto_region 1 with fail
  have hat := al2_at w (a.blk (.slice A a.sp.length cap)) (zeroA.blk nilV)
  change Code.wp _ _ _ _ ((w.alloc (a.blk (.slice A a.sp.length cap))).alloc (zeroA.blk nilV))
  generalize (w.alloc (a.blk (.slice A a.sp.length cap))).alloc (zeroA.blk nilV) = w0 at *
  have HA0 := Lib.hid hat.1; have HZ0 := Lib.hid hat.2.1; have HB0 := Lib.hid hat.2.2
  clear hat
  refine wp_region_lit ?_
  refine wpList_load26 rfl (.tmp 2) rfl (w.heap.size) rfl HA0.out ?_
  simp only [Act.put, List.setIfInBounds_toArray, List.set_cons_zero, List.set_cons_succ]
  go_upto_region 3 with (go_at_call 39
                         refine (Hck.out _ (HI.out.below HB0.out)).mono ?_
                         rintro e w1 ⟨rfl, hb1⟩
                         have HA1 := Lib.hid (blk_below hb1 (lt_of_some HA0.out) HA0.out)
                         have HZ1 := Lib.hid (blk_below hb1 (lt_of_some HZ0.out) HZ0.out)
                         have HB1 := Lib.hid (HB0.out.trans (hb1.mono HB0.out.size))
                         clear hb1)
  refine wp_region_lit ?_
  refine wpList_step (fun K hK => ?_)
  go_simp
  refine hK _ _ ?_
  clear hK K
  refine wpList_loadPlan rfl (.tmp 15) rfl w.heap.size rfl HA1.out ?_
  simp only [Act.put, List.setIfInBounds_toArray, List.set_cons_zero, List.set_cons_succ]
  refine wpList_step (fun K hK => ?_)
  go_simp
  refine hK _ _ ?_
  clear hK K
  refine wpList_store24 rfl (.tmp 6) (.tmp 16) rfl w1.heap.size rfl (p := a.plan) (p0 := zeroP) rfl (heap_alloc_new w1 _) ?_
  intro w2 hQ2 ho2
  simp only [Act.put, List.setIfInBounds_toArray, List.set_cons_zero, List.set_cons_succ]
  have hb2 : Below w1.heap.size w1 w2 := ho2.below (al _) (fun k hk => by omega) (by simp)
  have hA2 := blk_below hb2 (lt_of_some HA1.out) HA1.out
  have HZ2 := Lib.hid (blk_below hb2 (lt_of_some HZ1.out) HZ1.out)
  have HB2 := Lib.hid (HB1.out.trans (hb2.mono HB1.out.size))
  have Hl1 := Lib.hid (lt_of_some HZ1.out)
  obtain ⟨m0, m1, m2, m3, m4, m5, m6, m7, m8, m9, m10, mlt⟩ := map_cells hA2
  obtain ⟨q0, q1, q2, q3, q4, q5, q6, q7, qlt⟩ := plan_blk hQ2
  have HA2 := Lib.hid hA2; have HQ2 := Lib.hid hQ2
  clear hb2 hA2 hQ2 ho2
  have b0 := Hb0.out
  go_upto_region 5 with fail
  refine wp_region_lit ?_
  refine wpList_load26 rfl (.tmp 2) rfl (w.heap.size) rfl HA2.out ?_
  simp only [Act.put, List.setIfInBounds_toArray, List.set_cons_zero, List.set_cons_succ]
  refine wpList_store26 rfl (.tmp 4) (.tmp 26) rfl (w.heap.size + 1) rfl (m := a) (v := (.slice A a.sp.length cap)) (m0 := zeroA) (v0 := nilV) rfl rfl HZ2.out ?_
  intro w99 h9 ho9
  simp only [Act.put, List.setIfInBounds_toArray, List.set_cons_zero, List.set_cons_succ]
  go_wp2
  refine bodyPost_ret (results26 rfl _ _ (w.heap.size + 1) rfl h9) rfl ?_
  have hB9 := ho9.below HB2.out (fun k hk => by omega) HB2.out.size
  exact ⟨A, cap, rfl, HI.out.below hB9, hB9⟩
set_option maxRecDepth 100000 in
set_option maxHeartbeats 4000000 in
theorem rAdvance_phase (w : World) (A : Option Addr) (cap : Nat) (a : Atl) (ph : Int) (h : MapIn w A cap a) (hm : tr (MapOk a) = true) (b0' : (a.plan.kind == 0) = false) (b1' : (a.plan.phase == ph) = false) :
    Calls Try.prog 18 #[a.val (.slice A a.sp.length cap), .int .i64 ph] w fun e w' => ∃ A' cap', e = .returned (.tuple #[a.val (.slice A' a.sp.length cap'), .int .i64 4]) ∧ MapIn w' A' cap' a ∧ Below w.heap.size w w' := by
  have hck := fun w h => rCheck_any w A cap a h
  rw [hm] at hck
  have hl3 : a.sp.length * 56 ≤ 140737488355328 := by have := (of_tr hm).2.2.2.1.1; omega
  have Hck := Lib.hid hck; have HI := Lib.hid h
  clear hck h hm
  have Hb0' := Lib.hid b0'
  have Hb1' := Lib.hid b1'
  clear b0' b1'
  go_enter Try.func18, Try.ntmps18
  go_upto_region 1 with fail
  have hat := al2_at w (a.blk (.slice A a.sp.length cap)) (zeroA.blk nilV)
  change Code.wp _ _ _ _ ((w.alloc (a.blk (.slice A a.sp.length cap))).alloc (zeroA.blk nilV))
  generalize (w.alloc (a.blk (.slice A a.sp.length cap))).alloc (zeroA.blk nilV) = w0 at *
  have HA0 := Lib.hid hat.1; have HZ0 := Lib.hid hat.2.1; have HB0 := Lib.hid hat.2.2
  clear hat
  refine wp_region_lit ?_
  refine wpList_load26 rfl (.tmp 2) rfl (w.heap.size) rfl HA0.out ?_
  simp only [Act.put, List.setIfInBounds_toArray, List.set_cons_zero, List.set_cons_succ]
  go_upto_region 3 with (go_at_call 39
                         refine (Hck.out _ (HI.out.below HB0.out)).mono ?_
                         rintro e w1 ⟨rfl, hb1⟩
                         have HA1 := Lib.hid (blk_below hb1 (lt_of_some HA0.out) HA0.out)
                         have HZ1 := Lib.hid (blk_below hb1 (lt_of_some HZ0.out) HZ0.out)
                         have HB1 := Lib.hid (HB0.out.trans (hb1.mono HB0.out.size))
                         clear hb1)
  refine wp_region_lit ?_
  refine wpList_step (fun K hK => ?_)
  go_simp
  refine hK _ _ ?_
  clear hK K
  refine wpList_loadPlan rfl (.tmp 15) rfl w.heap.size rfl HA1.out ?_
  simp only [Act.put, List.setIfInBounds_toArray, List.set_cons_zero, List.set_cons_succ]
  refine wpList_step (fun K hK => ?_)
  go_simp
  refine hK _ _ ?_
  clear hK K
  refine wpList_store24 rfl (.tmp 6) (.tmp 16) rfl w1.heap.size rfl (p := a.plan) (p0 := zeroP) rfl (heap_alloc_new w1 _) ?_
  intro w2 hQ2 ho2
  simp only [Act.put, List.setIfInBounds_toArray, List.set_cons_zero, List.set_cons_succ]
  have hb2 : Below w1.heap.size w1 w2 := ho2.below (al _) (fun k hk => by omega) (by simp)
  have hA2 := blk_below hb2 (lt_of_some HA1.out) HA1.out
  have HZ2 := Lib.hid (blk_below hb2 (lt_of_some HZ1.out) HZ1.out)
  have HB2 := Lib.hid (HB1.out.trans (hb2.mono HB1.out.size))
  have Hl1 := Lib.hid (lt_of_some HZ1.out)
  obtain ⟨m0, m1, m2, m3, m4, m5, m6, m7, m8, m9, m10, mlt⟩ := map_cells hA2
  obtain ⟨q0, q1, q2, q3, q4, q5, q6, q7, qlt⟩ := plan_blk hQ2
  have HA2 := Lib.hid hA2; have HQ2 := Lib.hid hQ2
  clear hb2 hA2 hQ2 ho2
  have b0' := Hb0'.out
  have b1' := Hb1'.out
  go_upto_region 5 with fail
  refine wp_region_lit ?_
  refine wpList_load26 rfl (.tmp 2) rfl (w.heap.size) rfl HA2.out ?_
  simp only [Act.put, List.setIfInBounds_toArray, List.set_cons_zero, List.set_cons_succ]
  refine wpList_store26 rfl (.tmp 4) (.tmp 26) rfl (w.heap.size + 1) rfl (m := a) (v := (.slice A a.sp.length cap)) (m0 := zeroA) (v0 := nilV) rfl rfl HZ2.out ?_
  intro w99 h9 ho9
  simp only [Act.put, List.setIfInBounds_toArray, List.set_cons_zero, List.set_cons_succ]
  go_wp2
  refine bodyPost_ret (results26 rfl _ _ (w.heap.size + 1) rfl h9) rfl ?_
  have hB9 := ho9.below HB2.out (fun k hk => by omega) HB2.out.size
  exact ⟨A, cap, rfl, HI.out.below hB9, hB9⟩
set_option maxRecDepth 100000 in
set_option maxHeartbeats 4000000 in
theorem rAdvance_lost (w : World) (A : Option Addr) (cap : Nat) (a : Atl) (h : MapIn w A cap a) (hm : tr (MapOk a) = true) (k : Nat) (s : Span) (hk : k < a.sp.length) (hs : a.sp[k] = s) (hp : place a.sp a.plan.shard = (k : Int)) (he1 : 1 ≤ s.ep) (he2 : s.ep ≤ 1099511627776) (h16' : a.sp.length ≤ 16) (b0' : (a.plan.kind == 0) = false) (b1' : (a.plan.phase == 9) = true) :
    Calls Try.prog 18 #[a.val (.slice A a.sp.length cap), .int .i64 9] w fun e w' => ∃ A' cap', e = .returned (.tuple #[{ a with plan := zeroP }.val (.slice A' { a with plan := zeroP }.sp.length cap'), .int .i64 0]) ∧ MapIn w' A' cap' { a with plan := zeroP } ∧ Below w.heap.size w w' := by
  have hck := fun w h => rCheck_any w A cap a h
  rw [hm] at hck
  have hl3 : a.sp.length * 56 ≤ 140737488355328 := by have := (of_tr hm).2.2.2.1.1; omega
  have Hck := Lib.hid hck; have HI := Lib.hid h
  clear hck h hm
  have Hb0' := Lib.hid b0'
  have Hb1' := Lib.hid b1'
  clear b0' b1'
  obtain ⟨b, off, rfl, hbl, _, _, _, _, _⟩ := span_cells HI.out.row k hk
  have Hp := Lib.hid hp; clear hp
  have hk1 : (0 : Int) ≤ (k : Int) := by omega
  have hk2 : (k : Int) < (a.sp.length : Int) := by omega
  have h16 : a.sp.length ≤ 16 := h16'
  have hw1 : IntKind.i64.wrap ((k : Int) + 1) = (k : Int) + 1 := IntWalk.i64_in _ (by omega)
  have hw2 : IntKind.i64.wrap ((k : Int) + 2) = (k : Int) + 2 := IntWalk.i64_in _ (by omega)
  have hw3 : IntKind.i64.wrap (s.ep + 1) = s.ep + 1 := IntWalk.i64_in _ (by omega)
  go_enter Try.func18, Try.ntmps18
  go_upto_region 1 with fail
  have hat := al2_at w (a.blk (.slice (some ⟨b, off, none⟩) a.sp.length cap)) (zeroA.blk nilV)
  change Code.wp _ _ _ _ ((w.alloc (a.blk (.slice (some ⟨b, off, none⟩) a.sp.length cap))).alloc (zeroA.blk nilV))
  generalize (w.alloc (a.blk (.slice (some ⟨b, off, none⟩) a.sp.length cap))).alloc (zeroA.blk nilV) = w0 at *
  have HA0 := Lib.hid hat.1; have HZ0 := Lib.hid hat.2.1; have HB0 := Lib.hid hat.2.2
  clear hat
  refine wp_region_lit ?_
  refine wpList_load26 rfl (.tmp 2) rfl (w.heap.size) rfl HA0.out ?_
  simp only [Act.put, List.setIfInBounds_toArray, List.set_cons_zero, List.set_cons_succ]
  go_upto_region 3 with (go_at_call 39
                         refine (Hck.out _ (HI.out.below HB0.out)).mono ?_
                         rintro e w1 ⟨rfl, hb1⟩
                         have HA1 := Lib.hid (blk_below hb1 (lt_of_some HA0.out) HA0.out)
                         have HZ1 := Lib.hid (blk_below hb1 (lt_of_some HZ0.out) HZ0.out)
                         have HB1 := Lib.hid (HB0.out.trans (hb1.mono HB0.out.size))
                         clear hb1)
  refine wp_region_lit ?_
  refine wpList_step (fun K hK => ?_)
  go_simp
  refine hK _ _ ?_
  clear hK K
  refine wpList_loadPlan rfl (.tmp 15) rfl w.heap.size rfl HA1.out ?_
  simp only [Act.put, List.setIfInBounds_toArray, List.set_cons_zero, List.set_cons_succ]
  refine wpList_step (fun K hK => ?_)
  go_simp
  refine hK _ _ ?_
  clear hK K
  refine wpList_store24 rfl (.tmp 6) (.tmp 16) rfl w1.heap.size rfl (p := a.plan) (p0 := zeroP) rfl (heap_alloc_new w1 _) ?_
  intro w2 hQ2 ho2
  simp only [Act.put, List.setIfInBounds_toArray, List.set_cons_zero, List.set_cons_succ]
  have hb2 : Below w1.heap.size w1 w2 := ho2.below (al _) (fun k hk => by omega) (by simp)
  have hA2 := blk_below hb2 (lt_of_some HA1.out) HA1.out
  have HZ2 := Lib.hid (blk_below hb2 (lt_of_some HZ1.out) HZ1.out)
  have HB2 := Lib.hid (HB1.out.trans (hb2.mono HB1.out.size))
  have Hl1 := Lib.hid (lt_of_some HZ1.out)
  obtain ⟨m0, m1, m2, m3, m4, m5, m6, m7, m8, m9, m10, mlt⟩ := map_cells hA2
  obtain ⟨q0, q1, q2, q3, q4, q5, q6, q7, qlt⟩ := plan_blk hQ2
  have HA2 := Lib.hid hA2; have HQ2 := Lib.hid hQ2
  clear hb2 hA2 hQ2 ho2
  have b0' := Hb0'.out
  have b1' := Hb1'.out
  go_upto_region 6 with fail
  refine wp_region_lit ?_
  refine wpList_load26 rfl (.tmp 2) rfl (w.heap.size) rfl HA2.out ?_
  simp only [Act.put, List.setIfInBounds_toArray, List.set_cons_zero, List.set_cons_succ]
  go_upto_region 7 with (go_at_call 32
                         refine (rPlace_any _ (some ⟨b, off, none⟩) cap a _ (HI.out.below HB2.out).row (by omega)).mono ?_
                         rintro e w3 ⟨rfl, hb3⟩
                         rw [Hp.out]
                         have HA3 := Lib.hid (blk_below hb3 (lt_of_some HA2.out) HA2.out)
                         have HQ3 := Lib.hid (blk_below hb3 (lt_of_some HQ2.out) HQ2.out)
                         have HZ3 := Lib.hid (blk_below hb3 (lt_of_some HZ2.out) HZ2.out)
                         have HB3 := Lib.hid (HB2.out.trans (hb3.mono HB2.out.size))
                         clear hb3)
  clear m0 m1 m2 m3 m4 m5 m6 m7 m8 m9 m10 mlt q0 q1 q2 q3 q4 q5 q6 q7 qlt
  obtain ⟨m0, m1, m2, m3, m4, m5, m6, m7, m8, m9, m10, mlt⟩ := map_cells HA3.out
  obtain ⟨_, _, he, blt, p0, p1, p2, p3, p4⟩ := span_cells (HI.out.below HB3.out).row k hk
  injection he with he
  injection he with hx1 hx2
  subst hx1; subst hx2
  rw [hs] at p0 p1 p2 p3 p4
  go_upto_region 8 with fail
  change Code.wp _ _ _ _ (w3.alloc s.blk)
  have hS4 := heap_alloc_new w3 s.blk
  have hA4 := blk_below (al (w := w3) s.blk) (lt_of_some HA3.out) HA3.out
  have hQ4 := blk_below (al (w := w3) s.blk) (lt_of_some HQ3.out) HQ3.out
  have hZ4 := blk_below (al (w := w3) s.blk) (lt_of_some HZ3.out) HZ3.out
  have hB4 := HB3.out.trans ((al (w := w3) s.blk).mono HB3.out.size)
  have Hl3 := Lib.hid (lt_of_some HQ3.out)
  generalize w3.alloc s.blk = w4 at *
  clear m0 m1 m2 m3 m4 m5 m6 m7 m8 m9 m10 mlt p0 p1 p2 p3 p4
  refine wp_region_lit ?_
  refine wpList_step (fun K hK => ?_)
  go_simp
  refine hK _ _ ?_
  clear hK K
  refine wpList_step (fun K hK => ?_)
  go_simp
  refine hK _ _ ?_
  clear hK K
  refine wpList_store24_mid rfl (.tmp 37) (.tmp 36) rfl w.heap.size rfl (m := a) (q := zeroP) rfl hA4 ?_
  intro w5 hA5 ho5
  simp only [Act.put, List.setIfInBounds_toArray, List.set_cons_zero, List.set_cons_succ]
  have hl1 := Hl1.out
  have hl3 := Hl3.out
  have hlA := lt_of_some HA3.out
  have hQ5 := (ho5.block _ (lt_of_some hQ4) (by show ¬ _ = _; omega)).trans hQ4
  have hS5 := (ho5.block _ (lt_of_some hS4) (by show ¬ _ = _; omega)).trans hS4
  have hZ5 := (ho5.block _ (lt_of_some hZ4) (by show ¬ _ = _; omega)).trans hZ4
  have hB5 := ho5.below hB4 (fun k hk => by have hk : k = w.heap.size := hk; omega) hB4.size
  clear hl1 hl3 hlA
  obtain ⟨m0, m1, m2, m3, m4, m5, m6, m7, m8, m9, m10, mlt⟩ := map_cells hA5
  obtain ⟨q0, q1, q2, q3, q4, q5, q6, q7, qlt⟩ := plan_blk hQ5
  obtain ⟨s0, s1, s2, s3, s4, slt⟩ := span_blk hS5
  have fs0 := fz_blk hS5 0; have fs1 := fz_blk hS5 1; have fs2 := fz_blk hS5 2; have fs3 := fz_blk hS5 3; have fs4 := fz_blk hS5 4; have fq1 := fz_blk hQ5 1; have fa2 := map_frz hA5 2
  have HA5 := Lib.hid hA5; have HQ5 := Lib.hid hQ5; have HS5 := Lib.hid hS5; have HZ5 := Lib.hid hZ5; have HB5 := Lib.hid hB5
  clear hA4 hQ4 hZ4 hS4 hB4 hA5 hQ5 hS5 hZ5 hB5 ho5
  go_upto_region 10 with fail
  refine wp_region_lit ?_
  refine wpList_load26 rfl (.tmp 2) rfl (w.heap.size) rfl HA5.out ?_
  simp only [Act.put, List.setIfInBounds_toArray, List.set_cons_zero, List.set_cons_succ]
  refine wpList_store26 rfl (.tmp 4) (.tmp 40) rfl (w.heap.size + 1) rfl (m := { a with plan := zeroP }) (v := (.slice (some ⟨b, off, none⟩) a.sp.length cap)) (m0 := zeroA) (v0 := nilV) rfl rfl HZ5.out ?_
  intro w99 h9 ho9
  simp only [Act.put, List.setIfInBounds_toArray, List.set_cons_zero, List.set_cons_succ]
  go_wp2
  refine bodyPost_ret (results26 rfl _ _ (w.heap.size + 1) rfl h9) rfl ?_
  have hB9 := ho9.below HB5.out (fun k hk => by omega) HB5.out.size
  exact ⟨some ⟨b, off, none⟩, cap, rfl, (HI.out.below hB9).replan zeroP (by decide) a.last, hB9⟩
set_option maxRecDepth 100000 in
set_option maxHeartbeats 4000000 in
theorem rAdvance_move3 (w : World) (A : Option Addr) (cap : Nat) (a : Atl) (h : MapIn w A cap a) (hm : tr (MapOk a) = true) (k : Nat) (s : Span) (hk : k < a.sp.length) (hs : a.sp[k] = s) (hp : place a.sp a.plan.shard = (k : Int)) (he1 : 1 ≤ s.ep) (he2 : s.ep ≤ 1099511627776) (h16' : a.sp.length ≤ 16) (b0' : (a.plan.kind == 0) = false) (b1' : (a.plan.phase == 3) = true) (c1 : (a.plan.kind == 1) = true) (c2 : (a.plan.kind == 2) = false) (c3 : (a.plan.kind == 3) = false) :
    Calls Try.prog 18 #[a.val (.slice A a.sp.length cap), .int .i64 3] w fun e w' => ∃ A' cap', e = .returned (.tuple #[{ a with plan := zeroP }.val (.slice A' { a with plan := zeroP }.sp.length cap'), .int .i64 0]) ∧ MapIn w' A' cap' { a with plan := zeroP } ∧ Below w.heap.size w w' := by
  have hck := fun w h => rCheck_any w A cap a h
  rw [hm] at hck
  have hl3 : a.sp.length * 56 ≤ 140737488355328 := by have := (of_tr hm).2.2.2.1.1; omega
  have Hck := Lib.hid hck; have HI := Lib.hid h
  clear hck h hm
  have Hb0' := Lib.hid b0'
  have Hb1' := Lib.hid b1'
  have Hc1 := Lib.hid c1
  have Hc2 := Lib.hid c2
  have Hc3 := Lib.hid c3
  clear b0' b1' c1 c2 c3
  obtain ⟨b, off, rfl, hbl, _, _, _, _, _⟩ := span_cells HI.out.row k hk
  have Hp := Lib.hid hp; clear hp
  have hk1 : (0 : Int) ≤ (k : Int) := by omega
  have hk2 : (k : Int) < (a.sp.length : Int) := by omega
  have h16 : a.sp.length ≤ 16 := h16'
  have hw1 : IntKind.i64.wrap ((k : Int) + 1) = (k : Int) + 1 := IntWalk.i64_in _ (by omega)
  have hw2 : IntKind.i64.wrap ((k : Int) + 2) = (k : Int) + 2 := IntWalk.i64_in _ (by omega)
  have hw3 : IntKind.i64.wrap (s.ep + 1) = s.ep + 1 := IntWalk.i64_in _ (by omega)
  go_enter Try.func18, Try.ntmps18
  go_upto_region 1 with fail
  have hat := al2_at w (a.blk (.slice (some ⟨b, off, none⟩) a.sp.length cap)) (zeroA.blk nilV)
  change Code.wp _ _ _ _ ((w.alloc (a.blk (.slice (some ⟨b, off, none⟩) a.sp.length cap))).alloc (zeroA.blk nilV))
  generalize (w.alloc (a.blk (.slice (some ⟨b, off, none⟩) a.sp.length cap))).alloc (zeroA.blk nilV) = w0 at *
  have HA0 := Lib.hid hat.1; have HZ0 := Lib.hid hat.2.1; have HB0 := Lib.hid hat.2.2
  clear hat
  refine wp_region_lit ?_
  refine wpList_load26 rfl (.tmp 2) rfl (w.heap.size) rfl HA0.out ?_
  simp only [Act.put, List.setIfInBounds_toArray, List.set_cons_zero, List.set_cons_succ]
  go_upto_region 3 with (go_at_call 39
                         refine (Hck.out _ (HI.out.below HB0.out)).mono ?_
                         rintro e w1 ⟨rfl, hb1⟩
                         have HA1 := Lib.hid (blk_below hb1 (lt_of_some HA0.out) HA0.out)
                         have HZ1 := Lib.hid (blk_below hb1 (lt_of_some HZ0.out) HZ0.out)
                         have HB1 := Lib.hid (HB0.out.trans (hb1.mono HB0.out.size))
                         clear hb1)
  refine wp_region_lit ?_
  refine wpList_step (fun K hK => ?_)
  go_simp
  refine hK _ _ ?_
  clear hK K
  refine wpList_loadPlan rfl (.tmp 15) rfl w.heap.size rfl HA1.out ?_
  simp only [Act.put, List.setIfInBounds_toArray, List.set_cons_zero, List.set_cons_succ]
  refine wpList_step (fun K hK => ?_)
  go_simp
  refine hK _ _ ?_
  clear hK K
  refine wpList_store24 rfl (.tmp 6) (.tmp 16) rfl w1.heap.size rfl (p := a.plan) (p0 := zeroP) rfl (heap_alloc_new w1 _) ?_
  intro w2 hQ2 ho2
  simp only [Act.put, List.setIfInBounds_toArray, List.set_cons_zero, List.set_cons_succ]
  have hb2 : Below w1.heap.size w1 w2 := ho2.below (al _) (fun k hk => by omega) (by simp)
  have hA2 := blk_below hb2 (lt_of_some HA1.out) HA1.out
  have HZ2 := Lib.hid (blk_below hb2 (lt_of_some HZ1.out) HZ1.out)
  have HB2 := Lib.hid (HB1.out.trans (hb2.mono HB1.out.size))
  have Hl1 := Lib.hid (lt_of_some HZ1.out)
  obtain ⟨m0, m1, m2, m3, m4, m5, m6, m7, m8, m9, m10, mlt⟩ := map_cells hA2
  obtain ⟨q0, q1, q2, q3, q4, q5, q6, q7, qlt⟩ := plan_blk hQ2
  have HA2 := Lib.hid hA2; have HQ2 := Lib.hid hQ2
  clear hb2 hA2 hQ2 ho2
  have b0' := Hb0'.out
  have b1' := Hb1'.out
  have c1 := Hc1.out
  have c2 := Hc2.out
  have c3 := Hc3.out
  go_upto_region 6 with fail
  refine wp_region_lit ?_
  refine wpList_load26 rfl (.tmp 2) rfl (w.heap.size) rfl HA2.out ?_
  simp only [Act.put, List.setIfInBounds_toArray, List.set_cons_zero, List.set_cons_succ]
  go_upto_region 7 with (go_at_call 32
                         refine (rPlace_any _ (some ⟨b, off, none⟩) cap a _ (HI.out.below HB2.out).row (by omega)).mono ?_
                         rintro e w3 ⟨rfl, hb3⟩
                         rw [Hp.out]
                         have HA3 := Lib.hid (blk_below hb3 (lt_of_some HA2.out) HA2.out)
                         have HQ3 := Lib.hid (blk_below hb3 (lt_of_some HQ2.out) HQ2.out)
                         have HZ3 := Lib.hid (blk_below hb3 (lt_of_some HZ2.out) HZ2.out)
                         have HB3 := Lib.hid (HB2.out.trans (hb3.mono HB2.out.size))
                         clear hb3)
  clear m0 m1 m2 m3 m4 m5 m6 m7 m8 m9 m10 mlt q0 q1 q2 q3 q4 q5 q6 q7 qlt
  obtain ⟨m0, m1, m2, m3, m4, m5, m6, m7, m8, m9, m10, mlt⟩ := map_cells HA3.out
  obtain ⟨_, _, he, blt, p0, p1, p2, p3, p4⟩ := span_cells (HI.out.below HB3.out).row k hk
  injection he with he
  injection he with hx1 hx2
  subst hx1; subst hx2
  rw [hs] at p0 p1 p2 p3 p4
  go_upto_region 8 with fail
  change Code.wp _ _ _ _ (w3.alloc s.blk)
  have hS4 := heap_alloc_new w3 s.blk
  have hA4 := blk_below (al (w := w3) s.blk) (lt_of_some HA3.out) HA3.out
  have hQ4 := blk_below (al (w := w3) s.blk) (lt_of_some HQ3.out) HQ3.out
  have hZ4 := blk_below (al (w := w3) s.blk) (lt_of_some HZ3.out) HZ3.out
  have hB4 := HB3.out.trans ((al (w := w3) s.blk).mono HB3.out.size)
  have Hl3 := Lib.hid (lt_of_some HQ3.out)
  generalize w3.alloc s.blk = w4 at *
  clear m0 m1 m2 m3 m4 m5 m6 m7 m8 m9 m10 mlt p0 p1 p2 p3 p4
  refine wp_region_lit ?_
  refine wpList_step (fun K hK => ?_)
  go_simp
  refine hK _ _ ?_
  clear hK K
  refine wpList_step (fun K hK => ?_)
  go_simp
  refine hK _ _ ?_
  clear hK K
  refine wpList_store24_mid rfl (.tmp 37) (.tmp 36) rfl w.heap.size rfl (m := a) (q := zeroP) rfl hA4 ?_
  intro w5 hA5 ho5
  simp only [Act.put, List.setIfInBounds_toArray, List.set_cons_zero, List.set_cons_succ]
  have hl1 := Hl1.out
  have hl3 := Hl3.out
  have hlA := lt_of_some HA3.out
  have hQ5 := (ho5.block _ (lt_of_some hQ4) (by show ¬ _ = _; omega)).trans hQ4
  have hS5 := (ho5.block _ (lt_of_some hS4) (by show ¬ _ = _; omega)).trans hS4
  have hZ5 := (ho5.block _ (lt_of_some hZ4) (by show ¬ _ = _; omega)).trans hZ4
  have hB5 := ho5.below hB4 (fun k hk => by have hk : k = w.heap.size := hk; omega) hB4.size
  clear hl1 hl3 hlA
  obtain ⟨m0, m1, m2, m3, m4, m5, m6, m7, m8, m9, m10, mlt⟩ := map_cells hA5
  obtain ⟨q0, q1, q2, q3, q4, q5, q6, q7, qlt⟩ := plan_blk hQ5
  obtain ⟨s0, s1, s2, s3, s4, slt⟩ := span_blk hS5
  have fs0 := fz_blk hS5 0; have fs1 := fz_blk hS5 1; have fs2 := fz_blk hS5 2; have fs3 := fz_blk hS5 3; have fs4 := fz_blk hS5 4; have fq1 := fz_blk hQ5 1; have fa2 := map_frz hA5 2
  have HA5 := Lib.hid hA5; have HQ5 := Lib.hid hQ5; have HS5 := Lib.hid hS5; have HZ5 := Lib.hid hZ5; have HB5 := Lib.hid hB5
  clear hA4 hQ4 hZ4 hS4 hB4 hA5 hQ5 hS5 hZ5 hB5 ho5
  go_upto_region 35 with fail
  refine wp_region_lit ?_
  refine wpList_load26 rfl (.tmp 2) rfl (w.heap.size) rfl HA5.out ?_
  simp only [Act.put, List.setIfInBounds_toArray, List.set_cons_zero, List.set_cons_succ]
  refine wpList_store26 rfl (.tmp 4) (.tmp 132) rfl (w.heap.size + 1) rfl (m := { a with plan := zeroP }) (v := (.slice (some ⟨b, off, none⟩) a.sp.length cap)) (m0 := zeroA) (v0 := nilV) rfl rfl HZ5.out ?_
  intro w99 h9 ho9
  simp only [Act.put, List.setIfInBounds_toArray, List.set_cons_zero, List.set_cons_succ]
  go_wp2
  refine bodyPost_ret (results26 rfl _ _ (w.heap.size + 1) rfl h9) rfl ?_
  have hB9 := ho9.below HB5.out (fun k hk => by omega) HB5.out.size
  exact ⟨some ⟨b, off, none⟩, cap, rfl, (HI.out.below hB9).replan zeroP (by decide) a.last, hB9⟩
set_option maxRecDepth 100000 in
set_option maxHeartbeats 4000000 in
theorem rAdvance_move2 (w : World) (A : Option Addr) (cap : Nat) (a : Atl) (h : MapIn w A cap a) (hm : tr (MapOk a) = true) (k : Nat) (s : Span) (hk : k < a.sp.length) (hs : a.sp[k] = s) (hp : place a.sp a.plan.shard = (k : Int)) (he1 : 1 ≤ s.ep) (he2 : s.ep ≤ 1099511627776) (h16' : a.sp.length ≤ 16) (b0' : (a.plan.kind == 0) = false) (b1' : (a.plan.phase == 2) = true) (c1 : (a.plan.kind == 1) = true) (c2 : (a.plan.kind == 2) = false) (c3 : (a.plan.kind == 3) = false) :
    Calls Try.prog 18 #[a.val (.slice A a.sp.length cap), .int .i64 2] w fun e w' => ∃ A' cap', e = .returned (.tuple #[{ a with plan := { a.plan with phase := 3 } }.val (.slice A' { a with plan := { a.plan with phase := 3 } }.sp.length cap'), .int .i64 0]) ∧ MapIn w' A' cap' { a with plan := { a.plan with phase := 3 } } ∧ Below w.heap.size w w' := by
  have hck := fun w h => rCheck_any w A cap a h
  rw [hm] at hck
  have hl3 : a.sp.length * 56 ≤ 140737488355328 := by have := (of_tr hm).2.2.2.1.1; omega
  have Hck := Lib.hid hck; have HI := Lib.hid h
  clear hck h hm
  have Hb0' := Lib.hid b0'
  have Hb1' := Lib.hid b1'
  have Hc1 := Lib.hid c1
  have Hc2 := Lib.hid c2
  have Hc3 := Lib.hid c3
  clear b0' b1' c1 c2 c3
  obtain ⟨b, off, rfl, hbl, _, _, _, _, _⟩ := span_cells HI.out.row k hk
  have Hp := Lib.hid hp; clear hp
  have hk1 : (0 : Int) ≤ (k : Int) := by omega
  have hk2 : (k : Int) < (a.sp.length : Int) := by omega
  have h16 : a.sp.length ≤ 16 := h16'
  have hw1 : IntKind.i64.wrap ((k : Int) + 1) = (k : Int) + 1 := IntWalk.i64_in _ (by omega)
  have hw2 : IntKind.i64.wrap ((k : Int) + 2) = (k : Int) + 2 := IntWalk.i64_in _ (by omega)
  have hw3 : IntKind.i64.wrap (s.ep + 1) = s.ep + 1 := IntWalk.i64_in _ (by omega)
  go_enter Try.func18, Try.ntmps18
  go_upto_region 1 with fail
  have hat := al2_at w (a.blk (.slice (some ⟨b, off, none⟩) a.sp.length cap)) (zeroA.blk nilV)
  change Code.wp _ _ _ _ ((w.alloc (a.blk (.slice (some ⟨b, off, none⟩) a.sp.length cap))).alloc (zeroA.blk nilV))
  generalize (w.alloc (a.blk (.slice (some ⟨b, off, none⟩) a.sp.length cap))).alloc (zeroA.blk nilV) = w0 at *
  have HA0 := Lib.hid hat.1; have HZ0 := Lib.hid hat.2.1; have HB0 := Lib.hid hat.2.2
  clear hat
  refine wp_region_lit ?_
  refine wpList_load26 rfl (.tmp 2) rfl (w.heap.size) rfl HA0.out ?_
  simp only [Act.put, List.setIfInBounds_toArray, List.set_cons_zero, List.set_cons_succ]
  go_upto_region 3 with (go_at_call 39
                         refine (Hck.out _ (HI.out.below HB0.out)).mono ?_
                         rintro e w1 ⟨rfl, hb1⟩
                         have HA1 := Lib.hid (blk_below hb1 (lt_of_some HA0.out) HA0.out)
                         have HZ1 := Lib.hid (blk_below hb1 (lt_of_some HZ0.out) HZ0.out)
                         have HB1 := Lib.hid (HB0.out.trans (hb1.mono HB0.out.size))
                         clear hb1)
  refine wp_region_lit ?_
  refine wpList_step (fun K hK => ?_)
  go_simp
  refine hK _ _ ?_
  clear hK K
  refine wpList_loadPlan rfl (.tmp 15) rfl w.heap.size rfl HA1.out ?_
  simp only [Act.put, List.setIfInBounds_toArray, List.set_cons_zero, List.set_cons_succ]
  refine wpList_step (fun K hK => ?_)
  go_simp
  refine hK _ _ ?_
  clear hK K
  refine wpList_store24 rfl (.tmp 6) (.tmp 16) rfl w1.heap.size rfl (p := a.plan) (p0 := zeroP) rfl (heap_alloc_new w1 _) ?_
  intro w2 hQ2 ho2
  simp only [Act.put, List.setIfInBounds_toArray, List.set_cons_zero, List.set_cons_succ]
  have hb2 : Below w1.heap.size w1 w2 := ho2.below (al _) (fun k hk => by omega) (by simp)
  have hA2 := blk_below hb2 (lt_of_some HA1.out) HA1.out
  have HZ2 := Lib.hid (blk_below hb2 (lt_of_some HZ1.out) HZ1.out)
  have HB2 := Lib.hid (HB1.out.trans (hb2.mono HB1.out.size))
  have Hl1 := Lib.hid (lt_of_some HZ1.out)
  obtain ⟨m0, m1, m2, m3, m4, m5, m6, m7, m8, m9, m10, mlt⟩ := map_cells hA2
  obtain ⟨q0, q1, q2, q3, q4, q5, q6, q7, qlt⟩ := plan_blk hQ2
  have HA2 := Lib.hid hA2; have HQ2 := Lib.hid hQ2
  clear hb2 hA2 hQ2 ho2
  have b0' := Hb0'.out
  have b1' := Hb1'.out
  have c1 := Hc1.out
  have c2 := Hc2.out
  have c3 := Hc3.out
  go_upto_region 6 with fail
  refine wp_region_lit ?_
  refine wpList_load26 rfl (.tmp 2) rfl (w.heap.size) rfl HA2.out ?_
  simp only [Act.put, List.setIfInBounds_toArray, List.set_cons_zero, List.set_cons_succ]
  go_upto_region 7 with (go_at_call 32
                         refine (rPlace_any _ (some ⟨b, off, none⟩) cap a _ (HI.out.below HB2.out).row (by omega)).mono ?_
                         rintro e w3 ⟨rfl, hb3⟩
                         rw [Hp.out]
                         have HA3 := Lib.hid (blk_below hb3 (lt_of_some HA2.out) HA2.out)
                         have HQ3 := Lib.hid (blk_below hb3 (lt_of_some HQ2.out) HQ2.out)
                         have HZ3 := Lib.hid (blk_below hb3 (lt_of_some HZ2.out) HZ2.out)
                         have HB3 := Lib.hid (HB2.out.trans (hb3.mono HB2.out.size))
                         clear hb3)
  clear m0 m1 m2 m3 m4 m5 m6 m7 m8 m9 m10 mlt q0 q1 q2 q3 q4 q5 q6 q7 qlt
  obtain ⟨m0, m1, m2, m3, m4, m5, m6, m7, m8, m9, m10, mlt⟩ := map_cells HA3.out
  obtain ⟨_, _, he, blt, p0, p1, p2, p3, p4⟩ := span_cells (HI.out.below HB3.out).row k hk
  injection he with he
  injection he with hx1 hx2
  subst hx1; subst hx2
  rw [hs] at p0 p1 p2 p3 p4
  go_upto_region 8 with fail
  change Code.wp _ _ _ _ (w3.alloc s.blk)
  have hS4 := heap_alloc_new w3 s.blk
  have hA4 := blk_below (al (w := w3) s.blk) (lt_of_some HA3.out) HA3.out
  have hQ4 := blk_below (al (w := w3) s.blk) (lt_of_some HQ3.out) HQ3.out
  have hZ4 := blk_below (al (w := w3) s.blk) (lt_of_some HZ3.out) HZ3.out
  have hB4 := HB3.out.trans ((al (w := w3) s.blk).mono HB3.out.size)
  have Hl3 := Lib.hid (lt_of_some HQ3.out)
  generalize w3.alloc s.blk = w4 at *
  clear m0 m1 m2 m3 m4 m5 m6 m7 m8 m9 m10 mlt p0 p1 p2 p3 p4
  refine wp_region_lit ?_
  refine wpList_step (fun K hK => ?_)
  go_simp
  refine hK _ _ ?_
  clear hK K
  refine wpList_step (fun K hK => ?_)
  go_simp
  refine hK _ _ ?_
  clear hK K
  refine wpList_store24_mid rfl (.tmp 37) (.tmp 36) rfl w.heap.size rfl (m := a) (q := zeroP) rfl hA4 ?_
  intro w5 hA5 ho5
  simp only [Act.put, List.setIfInBounds_toArray, List.set_cons_zero, List.set_cons_succ]
  have hl1 := Hl1.out
  have hl3 := Hl3.out
  have hlA := lt_of_some HA3.out
  have hQ5 := (ho5.block _ (lt_of_some hQ4) (by show ¬ _ = _; omega)).trans hQ4
  have hS5 := (ho5.block _ (lt_of_some hS4) (by show ¬ _ = _; omega)).trans hS4
  have hZ5 := (ho5.block _ (lt_of_some hZ4) (by show ¬ _ = _; omega)).trans hZ4
  have hB5 := ho5.below hB4 (fun k hk => by have hk : k = w.heap.size := hk; omega) hB4.size
  clear hl1 hl3 hlA
  obtain ⟨m0, m1, m2, m3, m4, m5, m6, m7, m8, m9, m10, mlt⟩ := map_cells hA5
  obtain ⟨q0, q1, q2, q3, q4, q5, q6, q7, qlt⟩ := plan_blk hQ5
  obtain ⟨s0, s1, s2, s3, s4, slt⟩ := span_blk hS5
  have fs0 := fz_blk hS5 0; have fs1 := fz_blk hS5 1; have fs2 := fz_blk hS5 2; have fs3 := fz_blk hS5 3; have fs4 := fz_blk hS5 4; have fq1 := fz_blk hQ5 1; have fa2 := map_frz hA5 2
  have HA5 := Lib.hid hA5; have HQ5 := Lib.hid hQ5; have HS5 := Lib.hid hS5; have HZ5 := Lib.hid hZ5; have HB5 := Lib.hid hB5
  clear hA4 hQ4 hZ4 hS4 hB4 hA5 hQ5 hS5 hZ5 hB5 ho5
  go_upto_region 19 with fail
  have hl1 := Hl1.out; have hl3 := Hl3.out
  have hQ7 : (w5.setCell ⟨w1.heap.size, 1, none⟩ (.int .i64 3)).heap[w1.heap.size]? = some (Plan.blk { a.plan with phase := 3 }) := by
    have := heap_setCell_at (i := 1) HQ5.out (.int .i64 3)
    refine (show _ = _ from this).trans ?_
    simp only [Plan.blk, List.setIfInBounds_toArray, List.set_cons_zero, List.set_cons_succ]
  have ho7 := only_setCell w5 ⟨w1.heap.size, 1, none⟩ (.int .i64 3)
  have hA7 := (ho7.block _ (lt_of_some HA5.out) (by show ¬ _ = w1.heap.size; omega)).trans HA5.out
  have hZ7 := (ho7.block _ (lt_of_some HZ5.out) (by show ¬ _ = w1.heap.size; omega)).trans HZ5.out
  have hB7 := ho7.below HB5.out (fun k hk => by have hk : k = w1.heap.size := hk; omega) HB5.out.size
  generalize w5.setCell ⟨w1.heap.size, 1, none⟩ (.int .i64 3) = w7 at *
  clear ho7
  refine wp_region_lit ?_
  refine wpList_load24 (p := { a.plan with phase := 3 }) rfl (.tmp 6) rfl w1.heap.size rfl hQ7 ?_
  simp only [Act.put, List.setIfInBounds_toArray, List.set_cons_zero, List.set_cons_succ]
  refine wpList_step (fun K hK => ?_)
  go_simp
  refine hK _ _ ?_
  clear hK K
  refine wpList_store24_mid rfl (.tmp 69) (.tmp 68) rfl w.heap.size rfl (q := { a.plan with phase := 3 }) rfl hA7 ?_
  intro w8 hA8 ho8
  simp only [Act.put, List.setIfInBounds_toArray, List.set_cons_zero, List.set_cons_succ]
  have hZ8 := (ho8.block _ (lt_of_some hZ7) (by show ¬ _ = _; omega)).trans hZ7
  have hB8 := ho8.below hB7 (fun k hk => by have hk : k = w.heap.size := hk; omega) hB7.size
  have HA8 := Lib.hid hA8; have HZ8 := Lib.hid hZ8; have HB8 := Lib.hid hB8
  clear hA8 ho8 hZ8 hB8 hQ7 hA7 hZ7 hB7 hl1 hl3
  go_upto_region 35 with fail
  refine wp_region_lit ?_
  refine wpList_load26 rfl (.tmp 2) rfl (w.heap.size) rfl HA8.out ?_
  simp only [Act.put, List.setIfInBounds_toArray, List.set_cons_zero, List.set_cons_succ]
  refine wpList_store26 rfl (.tmp 4) (.tmp 132) rfl (w.heap.size + 1) rfl (m := { a with plan := { a.plan with phase := 3 } }) (v := (.slice (some ⟨b, off, none⟩) a.sp.length cap)) (m0 := zeroA) (v0 := nilV) rfl rfl HZ8.out ?_
  intro w99 h9 ho9
  simp only [Act.put, List.setIfInBounds_toArray, List.set_cons_zero, List.set_cons_succ]
  go_wp2
  refine bodyPost_ret (results26 rfl _ _ (w.heap.size + 1) rfl h9) rfl ?_
  have hB9 := ho9.below HB8.out (fun k hk => by omega) HB8.out.size
  exact ⟨some ⟨b, off, none⟩, cap, rfl, (HI.out.below hB9).replan { a.plan with phase := 3 } HI.out.key a.last, hB9⟩
set_option maxRecDepth 100000 in
set_option maxHeartbeats 4000000 in
theorem rAdvance_move1 (w : World) (A : Option Addr) (cap : Nat) (a : Atl) (h : MapIn w A cap a) (hm : tr (MapOk a) = true) (k : Nat) (s : Span) (hk : k < a.sp.length) (hs : a.sp[k] = s) (hp : place a.sp a.plan.shard = (k : Int)) (he1 : 1 ≤ s.ep) (he2 : s.ep ≤ 1099511627776) (h16' : a.sp.length ≤ 16) (b0' : (a.plan.kind == 0) = false) (b1' : (a.plan.phase == 1) = true) (c1 : (a.plan.kind == 1) = true) (c2 : (a.plan.kind == 2) = false) (c3 : (a.plan.kind == 3) = false) :
    Calls Try.prog 18 #[a.val (.slice A a.sp.length cap), .int .i64 1] w fun e w' => ∃ A' cap', e = .returned (.tuple #[{ a with sp := (a.sp.take k ++ { s with ep := s.ep + 1, gr := a.plan.group } :: a.sp.drop (k + 1)), plan := { a.plan with phase := 2 } }.val (.slice A' { a with sp := (a.sp.take k ++ { s with ep := s.ep + 1, gr := a.plan.group } :: a.sp.drop (k + 1)), plan := { a.plan with phase := 2 } }.sp.length cap'), .int .i64 0]) ∧ MapIn w' A' cap' { a with sp := (a.sp.take k ++ { s with ep := s.ep + 1, gr := a.plan.group } :: a.sp.drop (k + 1)), plan := { a.plan with phase := 2 } } ∧ Below w.heap.size w w' := by
  have hck := fun w h => rCheck_any w A cap a h
  rw [hm] at hck
  have hl3 : a.sp.length * 56 ≤ 140737488355328 := by have := (of_tr hm).2.2.2.1.1; omega
  have Hck := Lib.hid hck; have HI := Lib.hid h
  clear hck h hm
  have Hb0' := Lib.hid b0'
  have Hb1' := Lib.hid b1'
  have Hc1 := Lib.hid c1
  have Hc2 := Lib.hid c2
  have Hc3 := Lib.hid c3
  clear b0' b1' c1 c2 c3
  obtain ⟨b, off, rfl, hbl, _, _, _, _, _⟩ := span_cells HI.out.row k hk
  have Hp := Lib.hid hp; clear hp
  have hk1 : (0 : Int) ≤ (k : Int) := by omega
  have hk2 : (k : Int) < (a.sp.length : Int) := by omega
  have h16 : a.sp.length ≤ 16 := h16'
  have hw1 : IntKind.i64.wrap ((k : Int) + 1) = (k : Int) + 1 := IntWalk.i64_in _ (by omega)
  have hw2 : IntKind.i64.wrap ((k : Int) + 2) = (k : Int) + 2 := IntWalk.i64_in _ (by omega)
  have hw3 : IntKind.i64.wrap (s.ep + 1) = s.ep + 1 := IntWalk.i64_in _ (by omega)
  go_enter Try.func18, Try.ntmps18
  go_upto_region 1 with fail
  have hat := al2_at w (a.blk (.slice (some ⟨b, off, none⟩) a.sp.length cap)) (zeroA.blk nilV)
  change Code.wp _ _ _ _ ((w.alloc (a.blk (.slice (some ⟨b, off, none⟩) a.sp.length cap))).alloc (zeroA.blk nilV))
  generalize (w.alloc (a.blk (.slice (some ⟨b, off, none⟩) a.sp.length cap))).alloc (zeroA.blk nilV) = w0 at *
  have HA0 := Lib.hid hat.1; have HZ0 := Lib.hid hat.2.1; have HB0 := Lib.hid hat.2.2
  clear hat
  refine wp_region_lit ?_
  refine wpList_load26 rfl (.tmp 2) rfl (w.heap.size) rfl HA0.out ?_
  simp only [Act.put, List.setIfInBounds_toArray, List.set_cons_zero, List.set_cons_succ]
  go_upto_region 3 with (go_at_call 39
                         refine (Hck.out _ (HI.out.below HB0.out)).mono ?_
                         rintro e w1 ⟨rfl, hb1⟩
                         have HA1 := Lib.hid (blk_below hb1 (lt_of_some HA0.out) HA0.out)
                         have HZ1 := Lib.hid (blk_below hb1 (lt_of_some HZ0.out) HZ0.out)
                         have HB1 := Lib.hid (HB0.out.trans (hb1.mono HB0.out.size))
                         clear hb1)
  refine wp_region_lit ?_
  refine wpList_step (fun K hK => ?_)
  go_simp
  refine hK _ _ ?_
  clear hK K
  refine wpList_loadPlan rfl (.tmp 15) rfl w.heap.size rfl HA1.out ?_
  simp only [Act.put, List.setIfInBounds_toArray, List.set_cons_zero, List.set_cons_succ]
  refine wpList_step (fun K hK => ?_)
  go_simp
  refine hK _ _ ?_
  clear hK K
  refine wpList_store24 rfl (.tmp 6) (.tmp 16) rfl w1.heap.size rfl (p := a.plan) (p0 := zeroP) rfl (heap_alloc_new w1 _) ?_
  intro w2 hQ2 ho2
  simp only [Act.put, List.setIfInBounds_toArray, List.set_cons_zero, List.set_cons_succ]
  have hb2 : Below w1.heap.size w1 w2 := ho2.below (al _) (fun k hk => by omega) (by simp)
  have hA2 := blk_below hb2 (lt_of_some HA1.out) HA1.out
  have HZ2 := Lib.hid (blk_below hb2 (lt_of_some HZ1.out) HZ1.out)
  have HB2 := Lib.hid (HB1.out.trans (hb2.mono HB1.out.size))
  have Hl1 := Lib.hid (lt_of_some HZ1.out)
  obtain ⟨m0, m1, m2, m3, m4, m5, m6, m7, m8, m9, m10, mlt⟩ := map_cells hA2
  obtain ⟨q0, q1, q2, q3, q4, q5, q6, q7, qlt⟩ := plan_blk hQ2
  have HA2 := Lib.hid hA2; have HQ2 := Lib.hid hQ2
  clear hb2 hA2 hQ2 ho2
  have b0' := Hb0'.out
  have b1' := Hb1'.out
  have c1 := Hc1.out
  have c2 := Hc2.out
  have c3 := Hc3.out
  go_upto_region 6 with fail
  refine wp_region_lit ?_
  refine wpList_load26 rfl (.tmp 2) rfl (w.heap.size) rfl HA2.out ?_
  simp only [Act.put, List.setIfInBounds_toArray, List.set_cons_zero, List.set_cons_succ]
  go_upto_region 7 with (go_at_call 32
                         refine (rPlace_any _ (some ⟨b, off, none⟩) cap a _ (HI.out.below HB2.out).row (by omega)).mono ?_
                         rintro e w3 ⟨rfl, hb3⟩
                         rw [Hp.out]
                         have HA3 := Lib.hid (blk_below hb3 (lt_of_some HA2.out) HA2.out)
                         have HQ3 := Lib.hid (blk_below hb3 (lt_of_some HQ2.out) HQ2.out)
                         have HZ3 := Lib.hid (blk_below hb3 (lt_of_some HZ2.out) HZ2.out)
                         have HB3 := Lib.hid (HB2.out.trans (hb3.mono HB2.out.size))
                         clear hb3)
  clear m0 m1 m2 m3 m4 m5 m6 m7 m8 m9 m10 mlt q0 q1 q2 q3 q4 q5 q6 q7 qlt
  obtain ⟨m0, m1, m2, m3, m4, m5, m6, m7, m8, m9, m10, mlt⟩ := map_cells HA3.out
  obtain ⟨_, _, he, blt, p0, p1, p2, p3, p4⟩ := span_cells (HI.out.below HB3.out).row k hk
  injection he with he
  injection he with hx1 hx2
  subst hx1; subst hx2
  rw [hs] at p0 p1 p2 p3 p4
  go_upto_region 8 with fail
  change Code.wp _ _ _ _ (w3.alloc s.blk)
  have hS4 := heap_alloc_new w3 s.blk
  have hA4 := blk_below (al (w := w3) s.blk) (lt_of_some HA3.out) HA3.out
  have hQ4 := blk_below (al (w := w3) s.blk) (lt_of_some HQ3.out) HQ3.out
  have hZ4 := blk_below (al (w := w3) s.blk) (lt_of_some HZ3.out) HZ3.out
  have hB4 := HB3.out.trans ((al (w := w3) s.blk).mono HB3.out.size)
  have Hl3 := Lib.hid (lt_of_some HQ3.out)
  generalize w3.alloc s.blk = w4 at *
  clear m0 m1 m2 m3 m4 m5 m6 m7 m8 m9 m10 mlt p0 p1 p2 p3 p4
  refine wp_region_lit ?_
  refine wpList_step (fun K hK => ?_)
  go_simp
  refine hK _ _ ?_
  clear hK K
  refine wpList_step (fun K hK => ?_)
  go_simp
  refine hK _ _ ?_
  clear hK K
  refine wpList_store24_mid rfl (.tmp 37) (.tmp 36) rfl w.heap.size rfl (m := a) (q := zeroP) rfl hA4 ?_
  intro w5 hA5 ho5
  simp only [Act.put, List.setIfInBounds_toArray, List.set_cons_zero, List.set_cons_succ]
  have hl1 := Hl1.out
  have hl3 := Hl3.out
  have hlA := lt_of_some HA3.out
  have hQ5 := (ho5.block _ (lt_of_some hQ4) (by show ¬ _ = _; omega)).trans hQ4
  have hS5 := (ho5.block _ (lt_of_some hS4) (by show ¬ _ = _; omega)).trans hS4
  have hZ5 := (ho5.block _ (lt_of_some hZ4) (by show ¬ _ = _; omega)).trans hZ4
  have hB5 := ho5.below hB4 (fun k hk => by have hk : k = w.heap.size := hk; omega) hB4.size
  clear hl1 hl3 hlA
  obtain ⟨m0, m1, m2, m3, m4, m5, m6, m7, m8, m9, m10, mlt⟩ := map_cells hA5
  obtain ⟨q0, q1, q2, q3, q4, q5, q6, q7, qlt⟩ := plan_blk hQ5
  obtain ⟨s0, s1, s2, s3, s4, slt⟩ := span_blk hS5
  have fs0 := fz_blk hS5 0; have fs1 := fz_blk hS5 1; have fs2 := fz_blk hS5 2; have fs3 := fz_blk hS5 3; have fs4 := fz_blk hS5 4; have fq1 := fz_blk hQ5 1; have fa2 := map_frz hA5 2
  have HA5 := Lib.hid hA5; have HQ5 := Lib.hid hQ5; have HS5 := Lib.hid hS5; have HZ5 := Lib.hid hZ5; have HB5 := Lib.hid hB5
  clear hA4 hQ4 hZ4 hS4 hB4 hA5 hQ5 hS5 hZ5 hB5 ho5
  go_upto_region 16 with fail
  have hl1 := Hl1.out; have hl3 := Hl3.out
  have hon : Only (fun k => k = w3.heap.size) w5 ((w5.setCell ⟨w3.heap.size, 4, none⟩ (.int .i64 a.plan.group)).setCell ⟨w3.heap.size, 3, none⟩ (.int .i64 (s.ep + 1))) := (((only_setCell w5 ⟨w3.heap.size, 4, none⟩ (.int .i64 a.plan.group)).mono (fun k (hk : k = w3.heap.size) => (show k = w3.heap.size by omega))).trans ((only_setCell (w5.setCell ⟨w3.heap.size, 4, none⟩ (.int .i64 a.plan.group)) ⟨w3.heap.size, 3, none⟩ (.int .i64 (s.ep + 1))).mono (fun k (hk : k = w3.heap.size) => (show k = w3.heap.size by omega))) (fun _ _ h => h))
  have hS5n : ((w5.setCell ⟨w3.heap.size, 4, none⟩ (.int .i64 a.plan.group)).setCell ⟨w3.heap.size, 3, none⟩ (.int .i64 (s.ep + 1))).heap[w3.heap.size]? = some (Span.blk { s with ep := s.ep + 1, gr := a.plan.group }) := by
    have := (heap_setCell_at (i := 3) (heap_setCell_at (i := 4) HS5.out (.int .i64 a.plan.group)) (.int .i64 (s.ep + 1)))
    refine (show _ = _ from this).trans ?_
    simp only [Span.blk, List.setIfInBounds_toArray, List.set_cons_zero, List.set_cons_succ]
  have hA6 := (hon.block _ (lt_of_some HA5.out) (by show ¬ (_ = w3.heap.size); omega)).trans HA5.out
  have hQ6 := (hon.block _ (lt_of_some HQ5.out) (by show ¬ (_ = w3.heap.size); omega)).trans HQ5.out
  have hZ6 := (hon.block _ (lt_of_some HZ5.out) (by show ¬ (_ = w3.heap.size); omega)).trans HZ5.out
  have hB6 := hon.below HB5.out (fun k hk => by omega) HB5.out.size
  generalize ((w5.setCell ⟨w3.heap.size, 4, none⟩ (.int .i64 a.plan.group)).setCell ⟨w3.heap.size, 3, none⟩ (.int .i64 (s.ep + 1))) = w6 at *
  clear m0 m1 m2 m3 m4 m5 m6 m7 m8 m9 m10 mlt q0 q1 q2 q3 q4 q5 q6 q7 qlt s0 s1 s2 s3 s4 slt fs0 fs1 fs2 fs3 fs4 fq1 fa2 hon
  obtain ⟨m0, m1, m2, m3, m4, m5, m6, m7, m8, m9, m10, mlt⟩ := map_cells hA6
  obtain ⟨t00, t01, t02, t03, t04, t0lt⟩ := span_blk hS5n
  have HA6 := Lib.hid hA6; have HQ6 := Lib.hid hQ6; have HZ6 := Lib.hid hZ6; have HB6 := Lib.hid hB6
  have hl6 := lt_of_some hA6
  clear hA6 hQ6 hZ6 hB6 hl1 hl3 hS5n
  go_upto_region 17 with (go_at_call 46
                          have hb6 : Below w.heap.size w (w6.alloc (.cells #[.string s.fr, .string s.to, .int .i64 s.sh, .int .i64 (s.ep + 1), .int .i64 a.plan.group] 50)) := HB6.out.trans ((al _).mono HB6.out.size)
                          refine (changed_at _ (some ⟨b, off, none⟩) cap a.sp k (k + 1) _ (by omega) (some ⟨w6.heap.size, 0, none⟩) _ _ [{ s with ep := s.ep + 1, gr := a.plan.group }] rfl (HI.out.below hb6).row (rowAt_one (l := Span.cells { s with ep := s.ep + 1, gr := a.plan.group }) (heap_alloc_new w6 _) (by simp)) (by omega) (by omega) (by omega) h16 (by simp) HI.out.ncap HI.out.cmax).mono ?_
                          rintro e w9 ⟨A9, cap9, n9, hn9, rfl, hO9, hb9⟩
                          rw [show a.sp.take k ++ [{ s with ep := s.ep + 1, gr := a.plan.group }] ++ a.sp.drop (k + 1) = (a.sp.take k ++ { s with ep := s.ep + 1, gr := a.plan.group } :: a.sp.drop (k + 1)) by simp] at hn9 hO9
                          have HN9 := Lib.hid hn9
                          have hb69 : Below w6.heap.size w6 w9 := (al _).trans (hb9.mono (by simp))
                          have hA9 := blk_below hb69 (lt_of_some HA6.out) HA6.out
                          have HQ9 := Lib.hid (blk_below hb69 (lt_of_some HQ6.out) HQ6.out)
                          have HZ9 := Lib.hid (blk_below hb69 (lt_of_some HZ6.out) HZ6.out)
                          have HB9 := Lib.hid (HB6.out.trans (hb69.mono HB6.out.size))
                          have HO9 := Lib.hid (own_base (base' := w6.heap.size) hO9 (by simp))
                          have n2 := (map_cells hA9).2.2.1
                          have nlt := lt_of_some hA9
                          have nf2 := map_frz hA9 2
                          have HA9 := Lib.hid hA9
                          clear hb6 hO9 hb9 hb69 hA9 hn9)
  have hl1 := Hl1.out; have hl3 := Hl3.out
  have hlz := lt_of_some HZ6.out
  have hlq := lt_of_some HQ6.out
  have hA10 : (w9.setCell ⟨w.heap.size, 2, none⟩ (.slice A9 n9 cap9)).heap[w.heap.size]? = some (Atl.blk { a with sp := (a.sp.take k ++ { s with ep := s.ep + 1, gr := a.plan.group } :: a.sp.drop (k + 1)), plan := zeroP } (.slice A9 n9 cap9)) := by
    have := heap_setCell_at (i := 2) HA9.out (.slice A9 n9 cap9)
    refine (show _ = _ from this).trans ?_
    simp only [Atl.blk, List.setIfInBounds_toArray, List.set_cons_zero, List.set_cons_succ]
  have ho10 := only_setCell w9 ⟨w.heap.size, 2, none⟩ (.slice A9 n9 cap9)
  have hQ10 := (ho10.block _ (lt_of_some HQ9.out) (by show ¬ _ = w.heap.size; omega)).trans HQ9.out
  have hZ10 := (ho10.block _ (lt_of_some HZ9.out) (by show ¬ _ = w.heap.size; omega)).trans HZ9.out
  have hB10 := ho10.below HB9.out (fun k hk => by have hk : k = w.heap.size := hk; omega) HB9.out.size
  have hO10 := own_only HO9.out ho10 (fun k hk he => by have := (HO9.out.lt k hk).1; have he : k = w.heap.size := he; omega)
  generalize w9.setCell ⟨w.heap.size, 2, none⟩ (.slice A9 n9 cap9) = w10 at *
  clear m0 m1 m2 m3 m4 m5 m6 m7 m8 m9 m10 mlt n2 nlt nf2 ho10
  obtain ⟨q0, q1, q2, q3, q4, q5, q6, q7, qlt⟩ := plan_blk hQ10
  have fq1 := fz_blk hQ10 1
  have HA10 := Lib.hid hA10; have HQ10 := Lib.hid hQ10; have HZ10 := Lib.hid hZ10; have HB10 := Lib.hid hB10; have HO10 := Lib.hid hO10
  have Hlz := Lib.hid hlz; have Hlq := Lib.hid hlq
  clear hA10 hQ10 hZ10 hB10 hO10 hl1 hl3 hlz hlq
  go_upto_region 19 with fail
  have hl1 := Hl1.out; have hl3 := Hl3.out
  have hQ7 : (w10.setCell ⟨w1.heap.size, 1, none⟩ (.int .i64 2)).heap[w1.heap.size]? = some (Plan.blk { a.plan with phase := 2 }) := by
    have := heap_setCell_at (i := 1) HQ10.out (.int .i64 2)
    refine (show _ = _ from this).trans ?_
    simp only [Plan.blk, List.setIfInBounds_toArray, List.set_cons_zero, List.set_cons_succ]
  have ho7 := only_setCell w10 ⟨w1.heap.size, 1, none⟩ (.int .i64 2)
  have hA7 := (ho7.block _ (lt_of_some HA10.out) (by show ¬ _ = w1.heap.size; omega)).trans HA10.out
  have hZ7 := (ho7.block _ (lt_of_some HZ10.out) (by show ¬ _ = w1.heap.size; omega)).trans HZ10.out
  have hB7 := ho7.below HB10.out (fun k hk => by have hk : k = w1.heap.size := hk; omega) HB10.out.size
  have hO7 := own_only HO10.out ho7 (fun k hk he => by have := (HO10.out.lt k hk).1; have he : k = w1.heap.size := he; have := Hlq.out; omega)
  generalize w10.setCell ⟨w1.heap.size, 1, none⟩ (.int .i64 2) = w7 at *
  clear ho7
  refine wp_region_lit ?_
  refine wpList_load24 (p := { a.plan with phase := 2 }) rfl (.tmp 6) rfl w1.heap.size rfl hQ7 ?_
  simp only [Act.put, List.setIfInBounds_toArray, List.set_cons_zero, List.set_cons_succ]
  refine wpList_step (fun K hK => ?_)
  go_simp
  refine hK _ _ ?_
  clear hK K
  refine wpList_store24_mid rfl (.tmp 69) (.tmp 68) rfl w.heap.size rfl (q := { a.plan with phase := 2 }) rfl hA7 ?_
  intro w8 hA8 ho8
  simp only [Act.put, List.setIfInBounds_toArray, List.set_cons_zero, List.set_cons_succ]
  have hZ8 := (ho8.block _ (lt_of_some hZ7) (by show ¬ _ = _; omega)).trans hZ7
  have hB8 := ho8.below hB7 (fun k hk => by have hk : k = w.heap.size := hk; omega) hB7.size
  have HO8 := Lib.hid (own_only hO7 ho8 (fun k hk he => by have := (hO7.lt k hk).1; have he : k = w.heap.size := he; have := Hlz.out; omega))
  have HA8 := Lib.hid hA8; have HZ8 := Lib.hid hZ8; have HB8 := Lib.hid hB8
  clear hA8 ho8 hZ8 hB8 hQ7 hA7 hZ7 hB7 hl1 hl3
  go_upto_region 35 with fail
  refine wp_region_lit ?_
  refine wpList_load26 rfl (.tmp 2) rfl (w.heap.size) rfl HA8.out ?_
  simp only [Act.put, List.setIfInBounds_toArray, List.set_cons_zero, List.set_cons_succ]
  refine wpList_store26 rfl (.tmp 4) (.tmp 132) rfl (w.heap.size + 1) rfl (m := { a with sp := (a.sp.take k ++ { s with ep := s.ep + 1, gr := a.plan.group } :: a.sp.drop (k + 1)), plan := { a.plan with phase := 2 } }) (v := (.slice A9 n9 cap9)) (m0 := zeroA) (v0 := nilV) rfl rfl HZ8.out ?_
  intro w99 h9 ho9
  simp only [Act.put, List.setIfInBounds_toArray, List.set_cons_zero, List.set_cons_succ]
  go_wp2
  refine bodyPost_ret (results26 rfl _ _ (w.heap.size + 1) rfl h9) rfl ?_
  have hB9 := ho9.below HB8.out (fun k hk => by omega) HB8.out.size
  have hO99 := own_only HO8.out ho9 (fun k hk he => by have := (HO8.out.lt k hk).1; have := Hlz.out; omega)
  exact ⟨A9, cap9, by simp [HN9.out, Atl.val], HI.out.respan (by rw [← HN9.out]; exact hO99) (by
    intro t ht
    simp only [List.mem_append, List.mem_cons] at ht
    rcases ht with ht | ht | ht
    · exact HI.out.sz t (List.mem_of_mem_take ht)
    · rw [ht]; exact HI.out.sz s (by rw [← hs]; exact List.getElem_mem hk)
    · exact HI.out.sz t (List.mem_of_mem_drop ht)) { a.plan with phase := 2 } HI.out.key a.last, hB9⟩
set_option maxRecDepth 100000 in
set_option maxHeartbeats 4000000 in
theorem rAdvance_split (w : World) (A : Option Addr) (cap : Nat) (a : Atl) (h : MapIn w A cap a) (hm : tr (MapOk a) = true) (k : Nat) (s : Span) (hk : k < a.sp.length) (hs : a.sp[k] = s) (hp : place a.sp a.plan.shard = (k : Int)) (he1 : 1 ≤ s.ep) (he2 : s.ep ≤ 1099511627776) (h16' : a.sp.length ≤ 16) (b0' : (a.plan.kind == 0) = false) (b1' : (a.plan.phase == 1) = true) (c1 : (a.plan.kind == 1) = false) (c2 : (a.plan.kind == 2) = true) (c3 : (a.plan.kind == 3) = false) :
    Calls Try.prog 18 #[a.val (.slice A a.sp.length cap), .int .i64 1] w fun e w' => ∃ A' cap', e = .returned (.tuple #[{ a with sp := (a.sp.take k ++ (⟨s.fr, a.plan.key, s.sh, s.ep + 1, s.gr⟩ : Span) :: (⟨a.plan.key, s.to, a.plan.other, s.ep + 1, s.gr⟩ : Span) :: a.sp.drop (k + 1)), plan := zeroP }.val (.slice A' { a with sp := (a.sp.take k ++ (⟨s.fr, a.plan.key, s.sh, s.ep + 1, s.gr⟩ : Span) :: (⟨a.plan.key, s.to, a.plan.other, s.ep + 1, s.gr⟩ : Span) :: a.sp.drop (k + 1)), plan := zeroP }.sp.length cap'), .int .i64 0]) ∧ MapIn w' A' cap' { a with sp := (a.sp.take k ++ (⟨s.fr, a.plan.key, s.sh, s.ep + 1, s.gr⟩ : Span) :: (⟨a.plan.key, s.to, a.plan.other, s.ep + 1, s.gr⟩ : Span) :: a.sp.drop (k + 1)), plan := zeroP } ∧ Below w.heap.size w w' := by
  have hck := fun w h => rCheck_any w A cap a h
  rw [hm] at hck
  have hl3 : a.sp.length * 56 ≤ 140737488355328 := by have := (of_tr hm).2.2.2.1.1; omega
  have Hck := Lib.hid hck; have HI := Lib.hid h
  clear hck h hm
  have Hb0' := Lib.hid b0'
  have Hb1' := Lib.hid b1'
  have Hc1 := Lib.hid c1
  have Hc2 := Lib.hid c2
  have Hc3 := Lib.hid c3
  clear b0' b1' c1 c2 c3
  obtain ⟨b, off, rfl, hbl, _, _, _, _, _⟩ := span_cells HI.out.row k hk
  have Hp := Lib.hid hp; clear hp
  have hk1 : (0 : Int) ≤ (k : Int) := by omega
  have hk2 : (k : Int) < (a.sp.length : Int) := by omega
  have h16 : a.sp.length ≤ 16 := h16'
  have hw1 : IntKind.i64.wrap ((k : Int) + 1) = (k : Int) + 1 := IntWalk.i64_in _ (by omega)
  have hw2 : IntKind.i64.wrap ((k : Int) + 2) = (k : Int) + 2 := IntWalk.i64_in _ (by omega)
  have hw3 : IntKind.i64.wrap (s.ep + 1) = s.ep + 1 := IntWalk.i64_in _ (by omega)
  go_enter Try.func18, Try.ntmps18
  go_upto_region 1 with fail
  have hat := al2_at w (a.blk (.slice (some ⟨b, off, none⟩) a.sp.length cap)) (zeroA.blk nilV)
  change Code.wp _ _ _ _ ((w.alloc (a.blk (.slice (some ⟨b, off, none⟩) a.sp.length cap))).alloc (zeroA.blk nilV))
  generalize (w.alloc (a.blk (.slice (some ⟨b, off, none⟩) a.sp.length cap))).alloc (zeroA.blk nilV) = w0 at *
  have HA0 := Lib.hid hat.1; have HZ0 := Lib.hid hat.2.1; have HB0 := Lib.hid hat.2.2
  clear hat
  refine wp_region_lit ?_
  refine wpList_load26 rfl (.tmp 2) rfl (w.heap.size) rfl HA0.out ?_
  simp only [Act.put, List.setIfInBounds_toArray, List.set_cons_zero, List.set_cons_succ]
  go_upto_region 3 with (go_at_call 39
                         refine (Hck.out _ (HI.out.below HB0.out)).mono ?_
                         rintro e w1 ⟨rfl, hb1⟩
                         have HA1 := Lib.hid (blk_below hb1 (lt_of_some HA0.out) HA0.out)
                         have HZ1 := Lib.hid (blk_below hb1 (lt_of_some HZ0.out) HZ0.out)
                         have HB1 := Lib.hid (HB0.out.trans (hb1.mono HB0.out.size))
                         clear hb1)
  refine wp_region_lit ?_
  refine wpList_step (fun K hK => ?_)
  go_simp
  refine hK _ _ ?_
  clear hK K
  refine wpList_loadPlan rfl (.tmp 15) rfl w.heap.size rfl HA1.out ?_
  simp only [Act.put, List.setIfInBounds_toArray, List.set_cons_zero, List.set_cons_succ]
  refine wpList_step (fun K hK => ?_)
  go_simp
  refine hK _ _ ?_
  clear hK K
  refine wpList_store24 rfl (.tmp 6) (.tmp 16) rfl w1.heap.size rfl (p := a.plan) (p0 := zeroP) rfl (heap_alloc_new w1 _) ?_
  intro w2 hQ2 ho2
  simp only [Act.put, List.setIfInBounds_toArray, List.set_cons_zero, List.set_cons_succ]
  have hb2 : Below w1.heap.size w1 w2 := ho2.below (al _) (fun k hk => by omega) (by simp)
  have hA2 := blk_below hb2 (lt_of_some HA1.out) HA1.out
  have HZ2 := Lib.hid (blk_below hb2 (lt_of_some HZ1.out) HZ1.out)
  have HB2 := Lib.hid (HB1.out.trans (hb2.mono HB1.out.size))
  have Hl1 := Lib.hid (lt_of_some HZ1.out)
  obtain ⟨m0, m1, m2, m3, m4, m5, m6, m7, m8, m9, m10, mlt⟩ := map_cells hA2
  obtain ⟨q0, q1, q2, q3, q4, q5, q6, q7, qlt⟩ := plan_blk hQ2
  have HA2 := Lib.hid hA2; have HQ2 := Lib.hid hQ2
  clear hb2 hA2 hQ2 ho2
  have b0' := Hb0'.out
  have b1' := Hb1'.out
  have c1 := Hc1.out
  have c2 := Hc2.out
  have c3 := Hc3.out
  go_upto_region 6 with fail
  refine wp_region_lit ?_
  refine wpList_load26 rfl (.tmp 2) rfl (w.heap.size) rfl HA2.out ?_
  simp only [Act.put, List.setIfInBounds_toArray, List.set_cons_zero, List.set_cons_succ]
  go_upto_region 7 with (go_at_call 32
                         refine (rPlace_any _ (some ⟨b, off, none⟩) cap a _ (HI.out.below HB2.out).row (by omega)).mono ?_
                         rintro e w3 ⟨rfl, hb3⟩
                         rw [Hp.out]
                         have HA3 := Lib.hid (blk_below hb3 (lt_of_some HA2.out) HA2.out)
                         have HQ3 := Lib.hid (blk_below hb3 (lt_of_some HQ2.out) HQ2.out)
                         have HZ3 := Lib.hid (blk_below hb3 (lt_of_some HZ2.out) HZ2.out)
                         have HB3 := Lib.hid (HB2.out.trans (hb3.mono HB2.out.size))
                         clear hb3)
  clear m0 m1 m2 m3 m4 m5 m6 m7 m8 m9 m10 mlt q0 q1 q2 q3 q4 q5 q6 q7 qlt
  obtain ⟨m0, m1, m2, m3, m4, m5, m6, m7, m8, m9, m10, mlt⟩ := map_cells HA3.out
  obtain ⟨_, _, he, blt, p0, p1, p2, p3, p4⟩ := span_cells (HI.out.below HB3.out).row k hk
  injection he with he
  injection he with hx1 hx2
  subst hx1; subst hx2
  rw [hs] at p0 p1 p2 p3 p4
  go_upto_region 8 with fail
  change Code.wp _ _ _ _ (w3.alloc s.blk)
  have hS4 := heap_alloc_new w3 s.blk
  have hA4 := blk_below (al (w := w3) s.blk) (lt_of_some HA3.out) HA3.out
  have hQ4 := blk_below (al (w := w3) s.blk) (lt_of_some HQ3.out) HQ3.out
  have hZ4 := blk_below (al (w := w3) s.blk) (lt_of_some HZ3.out) HZ3.out
  have hB4 := HB3.out.trans ((al (w := w3) s.blk).mono HB3.out.size)
  have Hl3 := Lib.hid (lt_of_some HQ3.out)
  generalize w3.alloc s.blk = w4 at *
  clear m0 m1 m2 m3 m4 m5 m6 m7 m8 m9 m10 mlt p0 p1 p2 p3 p4
  refine wp_region_lit ?_
  refine wpList_step (fun K hK => ?_)
  go_simp
  refine hK _ _ ?_
  clear hK K
  refine wpList_step (fun K hK => ?_)
  go_simp
  refine hK _ _ ?_
  clear hK K
  refine wpList_store24_mid rfl (.tmp 37) (.tmp 36) rfl w.heap.size rfl (m := a) (q := zeroP) rfl hA4 ?_
  intro w5 hA5 ho5
  simp only [Act.put, List.setIfInBounds_toArray, List.set_cons_zero, List.set_cons_succ]
  have hl1 := Hl1.out
  have hl3 := Hl3.out
  have hlA := lt_of_some HA3.out
  have hQ5 := (ho5.block _ (lt_of_some hQ4) (by show ¬ _ = _; omega)).trans hQ4
  have hS5 := (ho5.block _ (lt_of_some hS4) (by show ¬ _ = _; omega)).trans hS4
  have hZ5 := (ho5.block _ (lt_of_some hZ4) (by show ¬ _ = _; omega)).trans hZ4
  have hB5 := ho5.below hB4 (fun k hk => by have hk : k = w.heap.size := hk; omega) hB4.size
  clear hl1 hl3 hlA
  obtain ⟨m0, m1, m2, m3, m4, m5, m6, m7, m8, m9, m10, mlt⟩ := map_cells hA5
  obtain ⟨q0, q1, q2, q3, q4, q5, q6, q7, qlt⟩ := plan_blk hQ5
  obtain ⟨s0, s1, s2, s3, s4, slt⟩ := span_blk hS5
  have fs0 := fz_blk hS5 0; have fs1 := fz_blk hS5 1; have fs2 := fz_blk hS5 2; have fs3 := fz_blk hS5 3; have fs4 := fz_blk hS5 4; have fq1 := fz_blk hQ5 1; have fa2 := map_frz hA5 2
  have HA5 := Lib.hid hA5; have HQ5 := Lib.hid hQ5; have HS5 := Lib.hid hS5; have HZ5 := Lib.hid hZ5; have HB5 := Lib.hid hB5
  clear hA4 hQ4 hZ4 hS4 hB4 hA5 hQ5 hS5 hZ5 hB5 ho5
  go_upto_region 22 with fail
  change Code.wp _ _ _ _ (w5.alloc s.blk)
  have hT6 := heap_alloc_new w5 s.blk
  have hb56 := al (w := w5) s.blk
  have hlS := lt_of_some HS5.out
  have hA6 := blk_below hb56 (lt_of_some HA5.out) HA5.out
  have hQ6 := blk_below hb56 (lt_of_some HQ5.out) HQ5.out
  have hS6 := blk_below hb56 (lt_of_some HS5.out) HS5.out
  have hZ6 := blk_below hb56 (lt_of_some HZ5.out) HZ5.out
  have hB6 := HB5.out.trans (hb56.mono HB5.out.size)
  generalize w5.alloc s.blk = wt at *
  clear m0 m1 m2 m3 m4 m5 m6 m7 m8 m9 m10 mlt q0 q1 q2 q3 q4 q5 q6 q7 qlt s0 s1 s2 s3 s4 slt fs0 fs1 fs2 fs3 fs4 fq1 fa2 hb56
  obtain ⟨m0, m1, m2, m3, m4, m5, m6, m7, m8, m9, m10, mlt⟩ := map_cells hA6
  obtain ⟨q0, q1, q2, q3, q4, q5, q6, q7, qlt⟩ := plan_blk hQ6
  obtain ⟨s0, s1, s2, s3, s4, slt⟩ := span_blk hS6
  obtain ⟨t0, t1, t2, t3, t4, tlt⟩ := span_blk hT6
  have fs0 := fz_blk hS6 0; have fs1 := fz_blk hS6 1; have fs2 := fz_blk hS6 2; have fs3 := fz_blk hS6 3; have fs4 := fz_blk hS6 4; have fq1 := fz_blk hQ6 1; have fa2 := map_frz hA6 2
  have ft0 := fz_blk hT6 0; have ft2 := fz_blk hT6 2; have ft3 := fz_blk hT6 3
  have hn1 : w3.heap.size ≠ w5.heap.size := by omega
  have hn2 : w5.heap.size ≠ w3.heap.size := Ne.symm hn1
  have hn3 : w1.heap.size ≠ w3.heap.size := by have := Hl3.out; omega
  have hn4 : w3.heap.size ≠ w1.heap.size := Ne.symm hn3
  have hn5 : w1.heap.size ≠ w5.heap.size := by have := Hl3.out; omega
  have hn6 : w5.heap.size ≠ w1.heap.size := Ne.symm hn5
  clear HA5 HQ5 HS5 HZ5 HB5
  have HA5 := Lib.hid hA6; have HQ5 := Lib.hid hQ6; have HS5 := Lib.hid hS6; have HT5 := Lib.hid hT6; have HZ5 := Lib.hid hZ6; have HB5 := Lib.hid hB6
  clear hA6 hQ6 hS6 hT6 hZ6 hB6
  go_upto_region 27 with fail
  have hl1 := Hl1.out; have hl3 := Hl3.out
  have hon : Only (fun k => k = w3.heap.size ∨ k = w5.heap.size) wt (((((wt.setCell ⟨w3.heap.size, 3, none⟩ (.int .i64 (s.ep + 1))).setCell ⟨w5.heap.size, 3, none⟩ (.int .i64 (s.ep + 1))).setCell ⟨w3.heap.size, 1, none⟩ (.string a.plan.key)).setCell ⟨w5.heap.size, 0, none⟩ (.string a.plan.key)).setCell ⟨w5.heap.size, 2, none⟩ (.int .i64 a.plan.other)) := ((((((only_setCell wt ⟨w3.heap.size, 3, none⟩ (.int .i64 (s.ep + 1))).mono (fun k (hk : k = w3.heap.size) => (show k = w3.heap.size ∨ k = w5.heap.size by omega))).trans ((only_setCell (wt.setCell ⟨w3.heap.size, 3, none⟩ (.int .i64 (s.ep + 1))) ⟨w5.heap.size, 3, none⟩ (.int .i64 (s.ep + 1))).mono (fun k (hk : k = w5.heap.size) => (show k = w3.heap.size ∨ k = w5.heap.size by omega))) (fun _ _ h => h)).trans ((only_setCell ((wt.setCell ⟨w3.heap.size, 3, none⟩ (.int .i64 (s.ep + 1))).setCell ⟨w5.heap.size, 3, none⟩ (.int .i64 (s.ep + 1))) ⟨w3.heap.size, 1, none⟩ (.string a.plan.key)).mono (fun k (hk : k = w3.heap.size) => (show k = w3.heap.size ∨ k = w5.heap.size by omega))) (fun _ _ h => h)).trans ((only_setCell (((wt.setCell ⟨w3.heap.size, 3, none⟩ (.int .i64 (s.ep + 1))).setCell ⟨w5.heap.size, 3, none⟩ (.int .i64 (s.ep + 1))).setCell ⟨w3.heap.size, 1, none⟩ (.string a.plan.key)) ⟨w5.heap.size, 0, none⟩ (.string a.plan.key)).mono (fun k (hk : k = w5.heap.size) => (show k = w3.heap.size ∨ k = w5.heap.size by omega))) (fun _ _ h => h)).trans ((only_setCell ((((wt.setCell ⟨w3.heap.size, 3, none⟩ (.int .i64 (s.ep + 1))).setCell ⟨w5.heap.size, 3, none⟩ (.int .i64 (s.ep + 1))).setCell ⟨w3.heap.size, 1, none⟩ (.string a.plan.key)).setCell ⟨w5.heap.size, 0, none⟩ (.string a.plan.key)) ⟨w5.heap.size, 2, none⟩ (.int .i64 a.plan.other)).mono (fun k (hk : k = w5.heap.size) => (show k = w3.heap.size ∨ k = w5.heap.size by omega))) (fun _ _ h => h))
  have hS5n : (((((wt.setCell ⟨w3.heap.size, 3, none⟩ (.int .i64 (s.ep + 1))).setCell ⟨w5.heap.size, 3, none⟩ (.int .i64 (s.ep + 1))).setCell ⟨w3.heap.size, 1, none⟩ (.string a.plan.key)).setCell ⟨w5.heap.size, 0, none⟩ (.string a.plan.key)).setCell ⟨w5.heap.size, 2, none⟩ (.int .i64 a.plan.other)).heap[w3.heap.size]? = some (Span.blk (⟨s.fr, a.plan.key, s.sh, s.ep + 1, s.gr⟩ : Span)) := by
    have := (((only_setCell ((((wt.setCell ⟨w3.heap.size, 3, none⟩ (.int .i64 (s.ep + 1))).setCell ⟨w5.heap.size, 3, none⟩ (.int .i64 (s.ep + 1))).setCell ⟨w3.heap.size, 1, none⟩ (.string a.plan.key)).setCell ⟨w5.heap.size, 0, none⟩ (.string a.plan.key)) ⟨w5.heap.size, 2, none⟩ (.int .i64 a.plan.other)).block _ (lt_of_some (((only_setCell (((wt.setCell ⟨w3.heap.size, 3, none⟩ (.int .i64 (s.ep + 1))).setCell ⟨w5.heap.size, 3, none⟩ (.int .i64 (s.ep + 1))).setCell ⟨w3.heap.size, 1, none⟩ (.string a.plan.key)) ⟨w5.heap.size, 0, none⟩ (.string a.plan.key)).block _ (lt_of_some (heap_setCell_at (i := 1) (((only_setCell (wt.setCell ⟨w3.heap.size, 3, none⟩ (.int .i64 (s.ep + 1))) ⟨w5.heap.size, 3, none⟩ (.int .i64 (s.ep + 1))).block _ (lt_of_some (heap_setCell_at (i := 3) HS5.out (.int .i64 (s.ep + 1)))) (by show ¬ _ = w5.heap.size; omega)).trans (heap_setCell_at (i := 3) HS5.out (.int .i64 (s.ep + 1)))) (.string a.plan.key))) (by show ¬ _ = w5.heap.size; omega)).trans (heap_setCell_at (i := 1) (((only_setCell (wt.setCell ⟨w3.heap.size, 3, none⟩ (.int .i64 (s.ep + 1))) ⟨w5.heap.size, 3, none⟩ (.int .i64 (s.ep + 1))).block _ (lt_of_some (heap_setCell_at (i := 3) HS5.out (.int .i64 (s.ep + 1)))) (by show ¬ _ = w5.heap.size; omega)).trans (heap_setCell_at (i := 3) HS5.out (.int .i64 (s.ep + 1)))) (.string a.plan.key)))) (by show ¬ _ = w5.heap.size; omega)).trans (((only_setCell (((wt.setCell ⟨w3.heap.size, 3, none⟩ (.int .i64 (s.ep + 1))).setCell ⟨w5.heap.size, 3, none⟩ (.int .i64 (s.ep + 1))).setCell ⟨w3.heap.size, 1, none⟩ (.string a.plan.key)) ⟨w5.heap.size, 0, none⟩ (.string a.plan.key)).block _ (lt_of_some (heap_setCell_at (i := 1) (((only_setCell (wt.setCell ⟨w3.heap.size, 3, none⟩ (.int .i64 (s.ep + 1))) ⟨w5.heap.size, 3, none⟩ (.int .i64 (s.ep + 1))).block _ (lt_of_some (heap_setCell_at (i := 3) HS5.out (.int .i64 (s.ep + 1)))) (by show ¬ _ = w5.heap.size; omega)).trans (heap_setCell_at (i := 3) HS5.out (.int .i64 (s.ep + 1)))) (.string a.plan.key))) (by show ¬ _ = w5.heap.size; omega)).trans (heap_setCell_at (i := 1) (((only_setCell (wt.setCell ⟨w3.heap.size, 3, none⟩ (.int .i64 (s.ep + 1))) ⟨w5.heap.size, 3, none⟩ (.int .i64 (s.ep + 1))).block _ (lt_of_some (heap_setCell_at (i := 3) HS5.out (.int .i64 (s.ep + 1)))) (by show ¬ _ = w5.heap.size; omega)).trans (heap_setCell_at (i := 3) HS5.out (.int .i64 (s.ep + 1)))) (.string a.plan.key))))
    refine (show _ = _ from this).trans ?_
    simp only [Span.blk, List.setIfInBounds_toArray, List.set_cons_zero, List.set_cons_succ]
  have hT5n : (((((wt.setCell ⟨w3.heap.size, 3, none⟩ (.int .i64 (s.ep + 1))).setCell ⟨w5.heap.size, 3, none⟩ (.int .i64 (s.ep + 1))).setCell ⟨w3.heap.size, 1, none⟩ (.string a.plan.key)).setCell ⟨w5.heap.size, 0, none⟩ (.string a.plan.key)).setCell ⟨w5.heap.size, 2, none⟩ (.int .i64 a.plan.other)).heap[w5.heap.size]? = some (Span.blk (⟨a.plan.key, s.to, a.plan.other, s.ep + 1, s.gr⟩ : Span)) := by
    have := (heap_setCell_at (i := 2) (heap_setCell_at (i := 0) (((only_setCell ((wt.setCell ⟨w3.heap.size, 3, none⟩ (.int .i64 (s.ep + 1))).setCell ⟨w5.heap.size, 3, none⟩ (.int .i64 (s.ep + 1))) ⟨w3.heap.size, 1, none⟩ (.string a.plan.key)).block _ (lt_of_some (heap_setCell_at (i := 3) (((only_setCell wt ⟨w3.heap.size, 3, none⟩ (.int .i64 (s.ep + 1))).block _ (lt_of_some HT5.out) (by show ¬ _ = w3.heap.size; omega)).trans HT5.out) (.int .i64 (s.ep + 1)))) (by show ¬ _ = w3.heap.size; omega)).trans (heap_setCell_at (i := 3) (((only_setCell wt ⟨w3.heap.size, 3, none⟩ (.int .i64 (s.ep + 1))).block _ (lt_of_some HT5.out) (by show ¬ _ = w3.heap.size; omega)).trans HT5.out) (.int .i64 (s.ep + 1)))) (.string a.plan.key)) (.int .i64 a.plan.other))
    refine (show _ = _ from this).trans ?_
    simp only [Span.blk, List.setIfInBounds_toArray, List.set_cons_zero, List.set_cons_succ]
  have hA6 := (hon.block _ (lt_of_some HA5.out) (by show ¬ (_ = w3.heap.size ∨ _ = w5.heap.size); omega)).trans HA5.out
  have hQ6 := (hon.block _ (lt_of_some HQ5.out) (by show ¬ (_ = w3.heap.size ∨ _ = w5.heap.size); omega)).trans HQ5.out
  have hZ6 := (hon.block _ (lt_of_some HZ5.out) (by show ¬ (_ = w3.heap.size ∨ _ = w5.heap.size); omega)).trans HZ5.out
  have hB6 := hon.below HB5.out (fun k hk => by omega) HB5.out.size
  generalize (((((wt.setCell ⟨w3.heap.size, 3, none⟩ (.int .i64 (s.ep + 1))).setCell ⟨w5.heap.size, 3, none⟩ (.int .i64 (s.ep + 1))).setCell ⟨w3.heap.size, 1, none⟩ (.string a.plan.key)).setCell ⟨w5.heap.size, 0, none⟩ (.string a.plan.key)).setCell ⟨w5.heap.size, 2, none⟩ (.int .i64 a.plan.other)) = w6 at *
  clear m0 m1 m2 m3 m4 m5 m6 m7 m8 m9 m10 mlt q0 q1 q2 q3 q4 q5 q6 q7 qlt s0 s1 s2 s3 s4 slt t0 t1 t2 t3 t4 tlt ft0 ft2 ft3 fs0 fs1 fs2 fs3 fs4 fq1 fa2 hon
  obtain ⟨m0, m1, m2, m3, m4, m5, m6, m7, m8, m9, m10, mlt⟩ := map_cells hA6
  obtain ⟨t00, t01, t02, t03, t04, t0lt⟩ := span_blk hS5n
  obtain ⟨t10, t11, t12, t13, t14, t1lt⟩ := span_blk hT5n
  have HA6 := Lib.hid hA6; have HQ6 := Lib.hid hQ6; have HZ6 := Lib.hid hZ6; have HB6 := Lib.hid hB6
  have hl6 := lt_of_some hA6
  clear hA6 hQ6 hZ6 hB6 hl1 hl3 hS5n hT5n
  go_upto_region 35 with (go_at_call 46
                          have hb6 : Below w.heap.size w (w6.alloc (.cells #[.string s.fr, .string a.plan.key, .int .i64 s.sh, .int .i64 (s.ep + 1), .int .i64 s.gr, .string a.plan.key, .string s.to, .int .i64 a.plan.other, .int .i64 (s.ep + 1), .int .i64 s.gr] 50)) := HB6.out.trans ((al _).mono HB6.out.size)
                          refine (changed_at _ (some ⟨b, off, none⟩) cap a.sp k (k + 1) _ (by omega) (some ⟨w6.heap.size, 0, none⟩) _ _ [(⟨s.fr, a.plan.key, s.sh, s.ep + 1, s.gr⟩ : Span), (⟨a.plan.key, s.to, a.plan.other, s.ep + 1, s.gr⟩ : Span)] rfl (HI.out.below hb6).row (rowAt_two (l := Span.cells (⟨s.fr, a.plan.key, s.sh, s.ep + 1, s.gr⟩ : Span)) (m := Span.cells (⟨a.plan.key, s.to, a.plan.other, s.ep + 1, s.gr⟩ : Span)) rfl (heap_alloc_new w6 _) (by simp)) (by omega) (by omega) (by omega) h16 (by simp) HI.out.ncap HI.out.cmax).mono ?_
                          rintro e w9 ⟨A9, cap9, n9, hn9, rfl, hO9, hb9⟩
                          rw [show a.sp.take k ++ [(⟨s.fr, a.plan.key, s.sh, s.ep + 1, s.gr⟩ : Span), (⟨a.plan.key, s.to, a.plan.other, s.ep + 1, s.gr⟩ : Span)] ++ a.sp.drop (k + 1) = (a.sp.take k ++ (⟨s.fr, a.plan.key, s.sh, s.ep + 1, s.gr⟩ : Span) :: (⟨a.plan.key, s.to, a.plan.other, s.ep + 1, s.gr⟩ : Span) :: a.sp.drop (k + 1)) by simp] at hn9 hO9
                          have HN9 := Lib.hid hn9
                          have hb69 : Below w6.heap.size w6 w9 := (al _).trans (hb9.mono (by simp))
                          have hA9 := blk_below hb69 (lt_of_some HA6.out) HA6.out
                          have HQ9 := Lib.hid (blk_below hb69 (lt_of_some HQ6.out) HQ6.out)
                          have HZ9 := Lib.hid (blk_below hb69 (lt_of_some HZ6.out) HZ6.out)
                          have HB9 := Lib.hid (HB6.out.trans (hb69.mono HB6.out.size))
                          have HO9 := Lib.hid (own_base (base' := w6.heap.size) hO9 (by simp))
                          have n2 := (map_cells hA9).2.2.1
                          have nlt := lt_of_some hA9
                          have nf2 := map_frz hA9 2
                          have HA9 := Lib.hid hA9
                          clear hb6 hO9 hb9 hb69 hA9 hn9)
  have hl1 := Hl1.out; have hl3 := Hl3.out
  have hlz := lt_of_some HZ6.out
  have hlq := lt_of_some HQ6.out
  have hA10 : (w9.setCell ⟨w.heap.size, 2, none⟩ (.slice A9 n9 cap9)).heap[w.heap.size]? = some (Atl.blk { a with sp := (a.sp.take k ++ (⟨s.fr, a.plan.key, s.sh, s.ep + 1, s.gr⟩ : Span) :: (⟨a.plan.key, s.to, a.plan.other, s.ep + 1, s.gr⟩ : Span) :: a.sp.drop (k + 1)), plan := zeroP } (.slice A9 n9 cap9)) := by
    have := heap_setCell_at (i := 2) HA9.out (.slice A9 n9 cap9)
    refine (show _ = _ from this).trans ?_
    simp only [Atl.blk, List.setIfInBounds_toArray, List.set_cons_zero, List.set_cons_succ]
  have ho10 := only_setCell w9 ⟨w.heap.size, 2, none⟩ (.slice A9 n9 cap9)
  have hQ10 := (ho10.block _ (lt_of_some HQ9.out) (by show ¬ _ = w.heap.size; omega)).trans HQ9.out
  have hZ10 := (ho10.block _ (lt_of_some HZ9.out) (by show ¬ _ = w.heap.size; omega)).trans HZ9.out
  have hB10 := ho10.below HB9.out (fun k hk => by have hk : k = w.heap.size := hk; omega) HB9.out.size
  have hO10 := own_only HO9.out ho10 (fun k hk he => by have := (HO9.out.lt k hk).1; have he : k = w.heap.size := he; omega)
  generalize w9.setCell ⟨w.heap.size, 2, none⟩ (.slice A9 n9 cap9) = w10 at *
  clear m0 m1 m2 m3 m4 m5 m6 m7 m8 m9 m10 mlt n2 nlt nf2 ho10
  obtain ⟨q0, q1, q2, q3, q4, q5, q6, q7, qlt⟩ := plan_blk hQ10
  have fq1 := fz_blk hQ10 1
  have HA10 := Lib.hid hA10; have HQ10 := Lib.hid hQ10; have HZ10 := Lib.hid hZ10; have HB10 := Lib.hid hB10; have HO10 := Lib.hid hO10
  have Hlz := Lib.hid hlz; have Hlq := Lib.hid hlq
  clear hA10 hQ10 hZ10 hB10 hO10 hl1 hl3 hlz hlq
  refine wp_region_lit ?_
  refine wpList_load26 rfl (.tmp 2) rfl (w.heap.size) rfl HA10.out ?_
  simp only [Act.put, List.setIfInBounds_toArray, List.set_cons_zero, List.set_cons_succ]
  refine wpList_store26 rfl (.tmp 4) (.tmp 132) rfl (w.heap.size + 1) rfl (m := { a with sp := (a.sp.take k ++ (⟨s.fr, a.plan.key, s.sh, s.ep + 1, s.gr⟩ : Span) :: (⟨a.plan.key, s.to, a.plan.other, s.ep + 1, s.gr⟩ : Span) :: a.sp.drop (k + 1)), plan := zeroP }) (v := (.slice A9 n9 cap9)) (m0 := zeroA) (v0 := nilV) rfl rfl HZ10.out ?_
  intro w99 h9 ho9
  simp only [Act.put, List.setIfInBounds_toArray, List.set_cons_zero, List.set_cons_succ]
  go_wp2
  refine bodyPost_ret (results26 rfl _ _ (w.heap.size + 1) rfl h9) rfl ?_
  have hB99 := ho9.below HB10.out (fun k hk => by omega) HB10.out.size
  have hO99 := own_only HO10.out ho9 (fun k hk he => by have := (HO10.out.lt k hk).1; have := Hlz.out; omega)
  exact ⟨A9, cap9, by simp [HN9.out, Atl.val], HI.out.respan (by rw [← HN9.out]; exact hO99) (by
    intro t ht
    simp only [List.mem_append, List.mem_cons] at ht
    rcases ht with ht | ht | ht | ht
    · exact HI.out.sz t (List.mem_of_mem_take ht)
    · rw [ht]; exact HI.out.key
    · rw [ht]; exact HI.out.sz s (by rw [← hs]; exact List.getElem_mem hk)
    · exact HI.out.sz t (List.mem_of_mem_drop ht)) zeroP (by decide) a.last, hB99⟩
end Go.Proofs.Ytimondpollbdfaa
