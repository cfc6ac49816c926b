/- What is proved: whether a map is right: the document's Check, the plain ways. -/
import Derived.Test.YtimondpollbdfaaRSpans
set_option linter.unusedVariables false
set_option linter.unusedSimpArgs false
namespace Go.Proofs.Ytimondpollbdfaa
open Go.RowKit
attribute [local go_sem] Span.val Atl.val Plan.val
attribute [local go_sem high] run_eql_eqP run_neq_eqP run_eql_eqS run_neq_eqS

structure KnownR (w w1 : World) (g b off cap : Nat) (a : Atl) : Prop where
  map : w1.heap[w.heap.size]? = some (a.blk (.slice (some ⟨b, off, none⟩) a.sp.length cap))
  plan : w1.heap[g]? = some a.plan.blk
  bel : Below w.heap.size w w1
  row : RowAt w1 w1.heap.size 5 (some ⟨b, off, none⟩) (a.sp.map Span.cells)
theorem KnownR.later {w w1 w2 : World} {g b off cap : Nat} {a : Atl} (h : KnownR w w1 g b off cap a) (hb : Below w1.heap.size w1 w2) : KnownR w w2 g b off cap a :=
  ⟨blk_below hb (lt_of_some h.map) h.map, blk_below hb (lt_of_some h.plan) h.plan, h.bel.trans (hb.mono h.bel.size), (h.row.below hb (Nat.le_refl _)).more hb.size⟩
theorem knownR_of {w w1 w2 : World} {b off cap : Nat} {a : Atl} (hrow : RowAt w w.heap.size 5 (some ⟨b, off, none⟩) (a.sp.map Span.cells)) (hB : Below w.heap.size w w1) (hM : w1.heap[w.heap.size]? = some (a.blk (.slice (some ⟨b, off, none⟩) a.sp.length cap)))
    (hb2 : Below (w1.alloc a.plan.blk).heap.size (w1.alloc a.plan.blk) w2) : KnownR w w2 w1.heap.size b off cap a := by
  have hbel := hB.trans (((al (w := w1) a.plan.blk).trans (hb2.mono (by simp))).mono hB.size)
  exact ⟨blk_below hb2 (by have := lt_of_some hM; simp; omega) ((Below.heap_alloc _ _ _ (lt_of_some hM)).trans hM), blk_below hb2 (by simp) (heap_alloc_new w1 _), hbel, (hrow.below hbel (Nat.le_refl _)).more hbel.size⟩
theorem rPlace_raw (w : World) (A : Option Addr) (cap : Nat) (sp : List Span) (x g l k ph sh ot gr pa ep : Int) (key : ByteArray) (hrow : RowAt w w.heap.size 5 A (sp.map Span.cells)) (hlen : sp.length ≤ 9223372036854775807) :
    Calls Try.prog 32 #[.agg #[.int .i64 g, .int .i64 l, .slice A sp.length cap, .int .i64 k, .int .i64 ph, .int .i64 sh, .int .i64 ot, .int .i64 gr, .int .i64 pa, .int .i64 ep, .string key], .int .i64 x] w fun e w' => e = .returned (.int .i64 (place sp x)) ∧ Below w.heap.size w w' :=
  rPlace_any w A cap ⟨g, l, sp, ⟨k, ph, sh, ot, gr, pa, ep, key⟩⟩ x hrow hlen
theorem rInside_raw (w : World) (fr tt key : ByteArray) (x y z : Int) (b : Bool) (s : Span) (h1 : s.fr = fr) (h2 : s.to = tt) (hb : inside s key = b) (hk : key.size ≤ 9223372036854775807) :
    Calls Try.prog 63 #[.agg #[.string fr, .string tt, .int .i64 x, .int .i64 y, .int .i64 z], .string key] w fun e w' => e = .returned (.bool b) ∧ Below w.heap.size w w' := by
  subst h1; subst h2; subst hb
  exact rInside_any ⟨s.fr, s.to, x, y, z⟩ key hk w
set_option maxRecDepth 100000 in
set_option maxHeartbeats 4000000 in
theorem rc_no (w : World) (A : Option Addr) (cap : Nat) (a : Atl) (hI : MapIn w A cap a) (hsp : ¬ SpansOk a) :
    Calls Try.prog 39 #[a.val (.slice A a.sp.length cap)] w fun e w' => e = .returned (.bool false) ∧ Below w.heap.size w w' := by
  have hspn := fun w hr => rSpans_any w A cap a hr
  rw [tr_false hsp] at hspn
  have Hsp := Lib.hid hspn; have HI := Lib.hid hI
  clear hspn hI
  go_enter Try.func39, Try.ntmps39
  go_wp2_with (first
    | (go_at_call 61
       refine (Hsp.out _ (HI.out.below (al _))).mono ?_
       rintro e w1 ⟨rfl, hb1⟩
       have hM := blk_below (o := a.blk (.slice A a.sp.length cap)) hb1 (by simp) (heap_alloc_new w _)
       have hB := (al (w := w) (a.blk (.slice A a.sp.length cap))).trans (hb1.mono (by simp))
       obtain ⟨m0, m1, m2, m3, m4, m5, m6, m7, m8, m9, m10, mlt⟩ := map_cells hM
       have HM := Lib.hid hM; have HB := Lib.hid hB
       clear hb1 hM hB))
  go_ret
  exact ⟨rfl, HB.out⟩
set_option maxRecDepth 100000 in
set_option maxHeartbeats 4000000 in
theorem rc_zero (w : World) (A : Option Addr) (cap : Nat) (a : Atl) (hI : MapIn w A cap a) (hsp : SpansOk a) (hz : isZ a.plan = true) :
    Calls Try.prog 39 #[a.val (.slice A a.sp.length cap)] w fun e w' => e = .returned (.bool true) ∧ Below w.heap.size w w' := by
  have hspn := fun w hr => rSpans_any w A cap a hr
  rw [tr_true hsp] at hspn
  have Hsp := Lib.hid hspn; have HI := Lib.hid hI
  clear hspn hI
  unfold isZ at hz
  go_enter Try.func39, Try.ntmps39
  go_wp2_with (first
    | (go_at_call 61
       refine (Hsp.out _ (HI.out.below (al _))).mono ?_
       rintro e w1 ⟨rfl, hb1⟩
       have hM := blk_below (o := a.blk (.slice A a.sp.length cap)) hb1 (by simp) (heap_alloc_new w _)
       have hB := (al (w := w) (a.blk (.slice A a.sp.length cap))).trans (hb1.mono (by simp))
       obtain ⟨m0, m1, m2, m3, m4, m5, m6, m7, m8, m9, m10, mlt⟩ := map_cells hM
       have HM := Lib.hid hM; have HB := Lib.hid hB
       clear hb1 hM hB))
  go_ret
  exact ⟨rfl, HB.out.trans ((al _).mono HB.out.size)⟩
set_option maxRecDepth 100000 in
set_option maxHeartbeats 4000000 in
theorem rc_none (w : World) (A : Option Addr) (cap : Nat) (a : Atl) (hI : MapIn w A cap a) (hsp : SpansOk a) (hz : isZ a.plan = false) (hp : place a.sp a.plan.shard = -1) :
    Calls Try.prog 39 #[a.val (.slice A a.sp.length cap)] w fun e w' => e = .returned (.bool false) ∧ Below w.heap.size w w' := by
  have hlen := hsp.2.2.2.1.1
  have hpl := fun w hr => rPlace_any w A cap a a.plan.shard hr (by omega)
  rw [hp] at hpl
  have hspn := fun w hr => rSpans_any w A cap a hr
  rw [tr_true hsp] at hspn
  have Hsp := Lib.hid hspn; have HI := Lib.hid hI; have Hpl := Lib.hid hpl
  clear hspn hI hpl hp
  unfold isZ at hz
  go_enter Try.func39, Try.ntmps39
  go_wp2_with (first
    | (go_at_call 61
       refine (Hsp.out _ (HI.out.below (al _))).mono ?_
       rintro e w1 ⟨rfl, hb1⟩
       have hM := blk_below (o := a.blk (.slice A a.sp.length cap)) hb1 (by simp) (heap_alloc_new w _)
       have hB := (al (w := w) (a.blk (.slice A a.sp.length cap))).trans (hb1.mono (by simp))
       obtain ⟨m0, m1, m2, m3, m4, m5, m6, m7, m8, m9, m10, mlt⟩ := map_cells hM
       have HM := Lib.hid hM; have HB := Lib.hid hB
       clear hb1 hM hB)
    | (go_at_call 32
       refine (Hpl.out _ ((HI.out.below HB.out).below (al _)).row).mono ?_
       rintro e w2 ⟨rfl, hb2⟩
       have HB2 := Lib.hid (HB.out.trans (((al (w := w1) a.plan.blk).trans (hb2.mono (by simp))).mono HB.out.size))
       clear hb2))
  go_ret
  exact ⟨rfl, HB2.out⟩
set_option maxRecDepth 100000 in
set_option maxHeartbeats 4000000 in
theorem rc_kind (w : World) (A : Option Addr) (cap : Nat) (a : Atl) (k : Nat) (s : Span) (hz : isZ a.plan = false) (hI : MapIn w A cap a) (hsp : SpansOk a) (he1 : 1 ≤ s.ep) (he2 : s.ep ≤ 1099511627776)
    (hk : k < a.sp.length) (hs : a.sp[k] = s) (hp : place a.sp a.plan.shard = (k : Int))  (f0 : a.plan.kind < 1 ∨ 3 < a.plan.kind) :
    Calls Try.prog 39 #[a.val (.slice A a.sp.length cap)] w fun e w' => e = .returned (.bool false) ∧ Below w.heap.size w w' := by
  unfold isZ at hz
  have hlen := hsp.2.2.2.1.1
  have hks := hI.key
  have hpl := fun w hr => rPlace_any w A cap a a.plan.shard hr (by omega)
  rw [hp] at hpl
  have hspn := fun w hr => rSpans_any w A cap a hr
  rw [tr_true hsp] at hspn
  obtain ⟨b, off, rfl, hb, p0, p1, p2, p3, p4⟩ := span_cells hI.row k hk
  have Hrow := Lib.hid hI.row; have Hpl := Lib.hid hpl; have Hsp := Lib.hid hspn; have HI := Lib.hid hI
  clear hI hpl hp p0 p1 p2 p3 p4 hspn hsp
  have hk1 : (0 : Int) ≤ (k : Int) := by omega
  have hk2 : (k : Int) < (a.sp.length : Int) := by omega
  have hw6 : IntKind.i64.wrap (s.ep - 2) = s.ep - 2 := IntWalk.i64_in _ (by omega)
  have F0 := Lib.hid f0; clear f0
  skip
  have tok : True := trivial
  go_enter Try.func39, Try.ntmps39
  go_wp2_with (first
    | (go_at_call 61
       refine (Hsp.out _ (HI.out.below (al _))).mono ?_
       rintro e w1 ⟨rfl, hb1⟩
       have hM := blk_below (o := a.blk (.slice (some ⟨b, off, none⟩) a.sp.length cap)) hb1 (by simp) (heap_alloc_new w _)
       have hB := (al (w := w) (a.blk (.slice (some ⟨b, off, none⟩) a.sp.length cap))).trans (hb1.mono (by simp))
       obtain ⟨m0, m1, m2, m3, m4, m5, m6, m7, m8, m9, m10, mlt⟩ := map_cells hM
       have HM := Lib.hid hM; have HB := Lib.hid hB
       clear hb1 hM hB)
    | (go_at_call 32
       have _h : True := tok
       refine (Hpl.out _ ((HI.out.below HB.out).below (al _)).row).mono ?_
       rintro e w2 ⟨rfl, hb2⟩
       have hK := knownR_of Hrow.out HB.out HM.out hb2
       obtain ⟨m0, m1, m2, m3, m4, m5, m6, m7, m8, m9, m10, mlt⟩ := map_cells hK.map
       obtain ⟨n0, n1, n2, n3, n4, n5, n6, n7, nlt⟩ := plan_blk hK.plan
       obtain ⟨_, _, he, blt, s0, s1, s2, s3, s4⟩ := span_cells hK.row k hk
       injection he with he
       injection he with hx1 hx2
       subst hx1; subst hx2
       rw [hs] at s0 s1 s2 s3 s4
       skip
       have HK := Lib.hid hK
       have f0 := F0.out; skip
       clear hb2 hK tok))
  all_goals first
    | (go_ret; exact ⟨rfl, HK.out.bel⟩)
    | (exfalso; have := F0.out; omega)
set_option maxRecDepth 100000 in
set_option maxHeartbeats 4000000 in
theorem rc_far (w : World) (A : Option Addr) (cap : Nat) (a : Atl) (k : Nat) (s : Span) (hz : isZ a.plan = false) (hI : MapIn w A cap a) (hsp : SpansOk a) (he1 : 1 ≤ s.ep) (he2 : s.ep ≤ 1099511627776)
    (hk : k < a.sp.length) (hs : a.sp[k] = s) (hp : place a.sp a.plan.shard = (k : Int))  (f0 : ¬ (1 ≤ a.plan.epoch ∧ a.plan.epoch ≤ 1099511627774)) :
    Calls Try.prog 39 #[a.val (.slice A a.sp.length cap)] w fun e w' => e = .returned (.bool false) ∧ Below w.heap.size w w' := by
  unfold isZ at hz
  have hlen := hsp.2.2.2.1.1
  have hks := hI.key
  have hpl := fun w hr => rPlace_any w A cap a a.plan.shard hr (by omega)
  rw [hp] at hpl
  have hspn := fun w hr => rSpans_any w A cap a hr
  rw [tr_true hsp] at hspn
  obtain ⟨b, off, rfl, hb, p0, p1, p2, p3, p4⟩ := span_cells hI.row k hk
  have Hrow := Lib.hid hI.row; have Hpl := Lib.hid hpl; have Hsp := Lib.hid hspn; have HI := Lib.hid hI
  clear hI hpl hp p0 p1 p2 p3 p4 hspn hsp
  have hk1 : (0 : Int) ≤ (k : Int) := by omega
  have hk2 : (k : Int) < (a.sp.length : Int) := by omega
  have hw6 : IntKind.i64.wrap (s.ep - 2) = s.ep - 2 := IntWalk.i64_in _ (by omega)
  have F0 := Lib.hid f0; clear f0
  skip
  have tok : True := trivial
  go_enter Try.func39, Try.ntmps39
  go_wp2_with (first
    | (go_at_call 61
       refine (Hsp.out _ (HI.out.below (al _))).mono ?_
       rintro e w1 ⟨rfl, hb1⟩
       have hM := blk_below (o := a.blk (.slice (some ⟨b, off, none⟩) a.sp.length cap)) hb1 (by simp) (heap_alloc_new w _)
       have hB := (al (w := w) (a.blk (.slice (some ⟨b, off, none⟩) a.sp.length cap))).trans (hb1.mono (by simp))
       obtain ⟨m0, m1, m2, m3, m4, m5, m6, m7, m8, m9, m10, mlt⟩ := map_cells hM
       have HM := Lib.hid hM; have HB := Lib.hid hB
       clear hb1 hM hB)
    | (go_at_call 32
       have _h : True := tok
       refine (Hpl.out _ ((HI.out.below HB.out).below (al _)).row).mono ?_
       rintro e w2 ⟨rfl, hb2⟩
       have hK := knownR_of Hrow.out HB.out HM.out hb2
       obtain ⟨m0, m1, m2, m3, m4, m5, m6, m7, m8, m9, m10, mlt⟩ := map_cells hK.map
       obtain ⟨n0, n1, n2, n3, n4, n5, n6, n7, nlt⟩ := plan_blk hK.plan
       obtain ⟨_, _, he, blt, s0, s1, s2, s3, s4⟩ := span_cells hK.row k hk
       injection he with he
       injection he with hx1 hx2
       subst hx1; subst hx2
       rw [hs] at s0 s1 s2 s3 s4
       skip
       have HK := Lib.hid hK
       have f0 := F0.out; skip
       clear hb2 hK tok))
  all_goals first
    | (go_ret; exact ⟨rfl, HK.out.bel⟩)
    | (exfalso; have := F0.out; omega)
set_option maxRecDepth 100000 in
set_option maxHeartbeats 4000000 in
theorem rc_move (w : World) (A : Option Addr) (cap : Nat) (a : Atl) (k : Nat) (s : Span) (hz : isZ a.plan = false) (hI : MapIn w A cap a) (hsp : SpansOk a) (he1 : 1 ≤ s.ep) (he2 : s.ep ≤ 1099511627776)
    (hk : k < a.sp.length) (hs : a.sp[k] = s) (hp : place a.sp a.plan.shard = (k : Int)) (hq1 : 1 ≤ a.plan.epoch) (hq2 : a.plan.epoch ≤ 1099511627774) (k0 : a.plan.kind = 1)  :
    Calls Try.prog 39 #[a.val (.slice A a.sp.length cap)] w fun e w' => e = .returned (.bool (moveOk a.groups s a.plan)) ∧ Below w.heap.size w w' := by
  unfold isZ at hz
  have hlen := hsp.2.2.2.1.1
  have hks := hI.key
  have hpl := fun w hr => rPlace_any w A cap a a.plan.shard hr (by omega)
  rw [hp] at hpl
  have hspn := fun w hr => rSpans_any w A cap a hr
  rw [tr_true hsp] at hspn
  obtain ⟨b, off, rfl, hb, p0, p1, p2, p3, p4⟩ := span_cells hI.row k hk
  have Hrow := Lib.hid hI.row; have Hpl := Lib.hid hpl; have Hsp := Lib.hid hspn; have HI := Lib.hid hI
  clear hI hpl hp p0 p1 p2 p3 p4 hspn hsp
  have hk1 : (0 : Int) ≤ (k : Int) := by omega
  have hk2 : (k : Int) < (a.sp.length : Int) := by omega
  have hw6 : IntKind.i64.wrap (s.ep - 2) = s.ep - 2 := IntWalk.i64_in _ (by omega)
  have hw7 : IntKind.i64.wrap (a.plan.epoch - 2) = a.plan.epoch - 2 := IntWalk.i64_in _ (by omega)
  have hw1 : IntKind.i64.wrap ((k : Int) + 1) = (k : Int) + 1 := IntWalk.i64_in _ (by omega)
  have hk3 : (0 : Int) ≤ (k : Int) + 1 := by omega
  have hk4 : ((k : Int) + 1).toNat = k + 1 := by omega
  skip
  have K0 := Lib.hid k0; clear k0
  have tok : True := trivial
  go_enter Try.func39, Try.ntmps39
  go_wp2_with (first
    | (go_at_call 62
       have _h := HK
       refine (rMove_any ⟨_, _, [], ⟨1, _, _, _, _, _, _, _⟩⟩ _ s he1 he2 _).mono ?_
       rintro e w3 ⟨rfl, hb3⟩)
    | (go_at_call 61
       refine (Hsp.out _ (HI.out.below (al _))).mono ?_
       rintro e w1 ⟨rfl, hb1⟩
       have hM := blk_below (o := a.blk (.slice (some ⟨b, off, none⟩) a.sp.length cap)) hb1 (by simp) (heap_alloc_new w _)
       have hB := (al (w := w) (a.blk (.slice (some ⟨b, off, none⟩) a.sp.length cap))).trans (hb1.mono (by simp))
       obtain ⟨m0, m1, m2, m3, m4, m5, m6, m7, m8, m9, m10, mlt⟩ := map_cells hM
       have HM := Lib.hid hM; have HB := Lib.hid hB
       clear hb1 hM hB)
    | (go_at_call 32
       have _h : True := tok
       refine (Hpl.out _ ((HI.out.below HB.out).below (al _)).row).mono ?_
       rintro e w2 ⟨rfl, hb2⟩
       have hK := knownR_of Hrow.out HB.out HM.out hb2
       obtain ⟨m0, m1, m2, m3, m4, m5, m6, m7, m8, m9, m10, mlt⟩ := map_cells hK.map
       obtain ⟨n0, n1, n2, n3, n4, n5, n6, n7, nlt⟩ := plan_blk hK.plan
       obtain ⟨_, _, he, blt, s0, s1, s2, s3, s4⟩ := span_cells hK.row k hk
       injection he with he
       injection he with hx1 hx2
       subst hx1; subst hx2
       rw [hs] at s0 s1 s2 s3 s4
       skip
       have HK := Lib.hid hK
       skip; have k0 := K0.out
       clear hb2 hK tok))
  go_ret
  exact ⟨ret_bool (by have := K0.out; simp [moveOk]), (HK.out.later ((al _).trans (hb3.mono (by simp)))).bel⟩
set_option maxRecDepth 100000 in
set_option maxHeartbeats 4000000 in
theorem rc_unfit0 (w : World) (A : Option Addr) (cap : Nat) (a : Atl) (k : Nat) (s : Span) (hz : isZ a.plan = false) (hI : MapIn w A cap a) (hsp : SpansOk a) (he1 : 1 ≤ s.ep) (he2 : s.ep ≤ 1099511627776)
    (hk : k < a.sp.length) (hs : a.sp[k] = s) (hp : place a.sp a.plan.shard = (k : Int)) (hq1 : 1 ≤ a.plan.epoch) (hq2 : a.plan.epoch ≤ 1099511627774) (k0 : 1 ≤ a.plan.kind) (k1 : a.plan.kind ≤ 3) (k2 : ¬ a.plan.kind = 1) (f0 : ¬ a.plan.past = 0) :
    Calls Try.prog 39 #[a.val (.slice A a.sp.length cap)] w fun e w' => e = .returned (.bool false) ∧ Below w.heap.size w w' := by
  unfold isZ at hz
  have hlen := hsp.2.2.2.1.1
  have hks := hI.key
  have hpl := fun w hr => rPlace_any w A cap a a.plan.shard hr (by omega)
  rw [hp] at hpl
  have hspn := fun w hr => rSpans_any w A cap a hr
  rw [tr_true hsp] at hspn
  obtain ⟨b, off, rfl, hb, p0, p1, p2, p3, p4⟩ := span_cells hI.row k hk
  have Hrow := Lib.hid hI.row; have Hpl := Lib.hid hpl; have Hsp := Lib.hid hspn; have HI := Lib.hid hI
  clear hI hpl hp p0 p1 p2 p3 p4 hspn hsp
  have hk1 : (0 : Int) ≤ (k : Int) := by omega
  have hk2 : (k : Int) < (a.sp.length : Int) := by omega
  have hw6 : IntKind.i64.wrap (s.ep - 2) = s.ep - 2 := IntWalk.i64_in _ (by omega)
  have hw7 : IntKind.i64.wrap (a.plan.epoch - 2) = a.plan.epoch - 2 := IntWalk.i64_in _ (by omega)
  have hw1 : IntKind.i64.wrap ((k : Int) + 1) = (k : Int) + 1 := IntWalk.i64_in _ (by omega)
  have hk3 : (0 : Int) ≤ (k : Int) + 1 := by omega
  have hk4 : ((k : Int) + 1).toNat = k + 1 := by omega
  have F0 := Lib.hid f0; clear f0
  have K0 := Lib.hid k0; have K1 := Lib.hid k1; have K2 := Lib.hid k2; clear k0 k1 k2
  have tok : True := trivial
  go_enter Try.func39, Try.ntmps39
  go_wp2_with (first
    | (go_at_call 61
       refine (Hsp.out _ (HI.out.below (al _))).mono ?_
       rintro e w1 ⟨rfl, hb1⟩
       have hM := blk_below (o := a.blk (.slice (some ⟨b, off, none⟩) a.sp.length cap)) hb1 (by simp) (heap_alloc_new w _)
       have hB := (al (w := w) (a.blk (.slice (some ⟨b, off, none⟩) a.sp.length cap))).trans (hb1.mono (by simp))
       obtain ⟨m0, m1, m2, m3, m4, m5, m6, m7, m8, m9, m10, mlt⟩ := map_cells hM
       have HM := Lib.hid hM; have HB := Lib.hid hB
       clear hb1 hM hB)
    | (go_at_call 32
       have _h : True := tok
       refine (Hpl.out _ ((HI.out.below HB.out).below (al _)).row).mono ?_
       rintro e w2 ⟨rfl, hb2⟩
       have hK := knownR_of Hrow.out HB.out HM.out hb2
       obtain ⟨m0, m1, m2, m3, m4, m5, m6, m7, m8, m9, m10, mlt⟩ := map_cells hK.map
       obtain ⟨n0, n1, n2, n3, n4, n5, n6, n7, nlt⟩ := plan_blk hK.plan
       obtain ⟨_, _, he, blt, s0, s1, s2, s3, s4⟩ := span_cells hK.row k hk
       injection he with he
       injection he with hx1 hx2
       subst hx1; subst hx2
       rw [hs] at s0 s1 s2 s3 s4
       skip
       have HK := Lib.hid hK
       have f0 := F0.out; have k0 := K0.out; have k1 := K1.out; have k2 := K2.out
       clear hb2 hK tok))
  all_goals
    go_ret
    exact ⟨rfl, (HK.out.later (al _)).bel⟩
set_option maxRecDepth 100000 in
set_option maxHeartbeats 4000000 in
theorem rc_unfit1 (w : World) (A : Option Addr) (cap : Nat) (a : Atl) (k : Nat) (s : Span) (hz : isZ a.plan = false) (hI : MapIn w A cap a) (hsp : SpansOk a) (he1 : 1 ≤ s.ep) (he2 : s.ep ≤ 1099511627776)
    (hk : k < a.sp.length) (hs : a.sp[k] = s) (hp : place a.sp a.plan.shard = (k : Int)) (hq1 : 1 ≤ a.plan.epoch) (hq2 : a.plan.epoch ≤ 1099511627774) (k0 : 1 ≤ a.plan.kind) (k1 : a.plan.kind ≤ 3) (k2 : ¬ a.plan.kind = 1) (f0 : ¬ s.gr = a.plan.group) (f1 : ¬ a.plan.group = s.gr) :
    Calls Try.prog 39 #[a.val (.slice A a.sp.length cap)] w fun e w' => e = .returned (.bool false) ∧ Below w.heap.size w w' := by
  unfold isZ at hz
  have hlen := hsp.2.2.2.1.1
  have hks := hI.key
  have hpl := fun w hr => rPlace_any w A cap a a.plan.shard hr (by omega)
  rw [hp] at hpl
  have hspn := fun w hr => rSpans_any w A cap a hr
  rw [tr_true hsp] at hspn
  obtain ⟨b, off, rfl, hb, p0, p1, p2, p3, p4⟩ := span_cells hI.row k hk
  have Hrow := Lib.hid hI.row; have Hpl := Lib.hid hpl; have Hsp := Lib.hid hspn; have HI := Lib.hid hI
  clear hI hpl hp p0 p1 p2 p3 p4 hspn hsp
  have hk1 : (0 : Int) ≤ (k : Int) := by omega
  have hk2 : (k : Int) < (a.sp.length : Int) := by omega
  have hw6 : IntKind.i64.wrap (s.ep - 2) = s.ep - 2 := IntWalk.i64_in _ (by omega)
  have hw7 : IntKind.i64.wrap (a.plan.epoch - 2) = a.plan.epoch - 2 := IntWalk.i64_in _ (by omega)
  have hw1 : IntKind.i64.wrap ((k : Int) + 1) = (k : Int) + 1 := IntWalk.i64_in _ (by omega)
  have hk3 : (0 : Int) ≤ (k : Int) + 1 := by omega
  have hk4 : ((k : Int) + 1).toNat = k + 1 := by omega
  have F0 := Lib.hid f0; have F1 := Lib.hid f1; clear f0 f1
  have K0 := Lib.hid k0; have K1 := Lib.hid k1; have K2 := Lib.hid k2; clear k0 k1 k2
  have tok : True := trivial
  go_enter Try.func39, Try.ntmps39
  go_wp2_with (first
    | (go_at_call 61
       refine (Hsp.out _ (HI.out.below (al _))).mono ?_
       rintro e w1 ⟨rfl, hb1⟩
       have hM := blk_below (o := a.blk (.slice (some ⟨b, off, none⟩) a.sp.length cap)) hb1 (by simp) (heap_alloc_new w _)
       have hB := (al (w := w) (a.blk (.slice (some ⟨b, off, none⟩) a.sp.length cap))).trans (hb1.mono (by simp))
       obtain ⟨m0, m1, m2, m3, m4, m5, m6, m7, m8, m9, m10, mlt⟩ := map_cells hM
       have HM := Lib.hid hM; have HB := Lib.hid hB
       clear hb1 hM hB)
    | (go_at_call 32
       have _h : True := tok
       refine (Hpl.out _ ((HI.out.below HB.out).below (al _)).row).mono ?_
       rintro e w2 ⟨rfl, hb2⟩
       have hK := knownR_of Hrow.out HB.out HM.out hb2
       obtain ⟨m0, m1, m2, m3, m4, m5, m6, m7, m8, m9, m10, mlt⟩ := map_cells hK.map
       obtain ⟨n0, n1, n2, n3, n4, n5, n6, n7, nlt⟩ := plan_blk hK.plan
       obtain ⟨_, _, he, blt, s0, s1, s2, s3, s4⟩ := span_cells hK.row k hk
       injection he with he
       injection he with hx1 hx2
       subst hx1; subst hx2
       rw [hs] at s0 s1 s2 s3 s4
       skip
       have HK := Lib.hid hK
       have f0 := F0.out; have f1 := F1.out; have k0 := K0.out; have k1 := K1.out; have k2 := K2.out
       clear hb2 hK tok))
  all_goals
    go_ret
    exact ⟨rfl, (HK.out.later (al _)).bel⟩
set_option maxRecDepth 100000 in
set_option maxHeartbeats 4000000 in
theorem rc_unfit2 (w : World) (A : Option Addr) (cap : Nat) (a : Atl) (k : Nat) (s : Span) (hz : isZ a.plan = false) (hI : MapIn w A cap a) (hsp : SpansOk a) (he1 : 1 ≤ s.ep) (he2 : s.ep ≤ 1099511627776)
    (hk : k < a.sp.length) (hs : a.sp[k] = s) (hp : place a.sp a.plan.shard = (k : Int)) (hq1 : 1 ≤ a.plan.epoch) (hq2 : a.plan.epoch ≤ 1099511627774) (k0 : 1 ≤ a.plan.kind) (k1 : a.plan.kind ≤ 3) (k2 : ¬ a.plan.kind = 1) (f0 : a.plan.past = 0) (f1 : s.gr = a.plan.group) (f2 : a.plan.phase = 1) (f3 : ¬ s.ep = a.plan.epoch) (f4 : ¬ a.plan.epoch = s.ep) :
    Calls Try.prog 39 #[a.val (.slice A a.sp.length cap)] w fun e w' => e = .returned (.bool false) ∧ Below w.heap.size w w' := by
  unfold isZ at hz
  have hlen := hsp.2.2.2.1.1
  have hks := hI.key
  have hpl := fun w hr => rPlace_any w A cap a a.plan.shard hr (by omega)
  rw [hp] at hpl
  have hspn := fun w hr => rSpans_any w A cap a hr
  rw [tr_true hsp] at hspn
  obtain ⟨b, off, rfl, hb, p0, p1, p2, p3, p4⟩ := span_cells hI.row k hk
  have Hrow := Lib.hid hI.row; have Hpl := Lib.hid hpl; have Hsp := Lib.hid hspn; have HI := Lib.hid hI
  clear hI hpl hp p0 p1 p2 p3 p4 hspn hsp
  have hk1 : (0 : Int) ≤ (k : Int) := by omega
  have hk2 : (k : Int) < (a.sp.length : Int) := by omega
  have hw6 : IntKind.i64.wrap (s.ep - 2) = s.ep - 2 := IntWalk.i64_in _ (by omega)
  have hw7 : IntKind.i64.wrap (a.plan.epoch - 2) = a.plan.epoch - 2 := IntWalk.i64_in _ (by omega)
  have hw1 : IntKind.i64.wrap ((k : Int) + 1) = (k : Int) + 1 := IntWalk.i64_in _ (by omega)
  have hk3 : (0 : Int) ≤ (k : Int) + 1 := by omega
  have hk4 : ((k : Int) + 1).toNat = k + 1 := by omega
  have F0 := Lib.hid f0; have F1 := Lib.hid f1; have F2 := Lib.hid f2; have F3 := Lib.hid f3; have F4 := Lib.hid f4; clear f0 f1 f2 f3 f4
  have K0 := Lib.hid k0; have K1 := Lib.hid k1; have K2 := Lib.hid k2; clear k0 k1 k2
  have tok : True := trivial
  go_enter Try.func39, Try.ntmps39
  go_wp2_with (first
    | (go_at_call 61
       refine (Hsp.out _ (HI.out.below (al _))).mono ?_
       rintro e w1 ⟨rfl, hb1⟩
       have hM := blk_below (o := a.blk (.slice (some ⟨b, off, none⟩) a.sp.length cap)) hb1 (by simp) (heap_alloc_new w _)
       have hB := (al (w := w) (a.blk (.slice (some ⟨b, off, none⟩) a.sp.length cap))).trans (hb1.mono (by simp))
       obtain ⟨m0, m1, m2, m3, m4, m5, m6, m7, m8, m9, m10, mlt⟩ := map_cells hM
       have HM := Lib.hid hM; have HB := Lib.hid hB
       clear hb1 hM hB)
    | (go_at_call 32
       have _h : True := tok
       refine (Hpl.out _ ((HI.out.below HB.out).below (al _)).row).mono ?_
       rintro e w2 ⟨rfl, hb2⟩
       have hK := knownR_of Hrow.out HB.out HM.out hb2
       obtain ⟨m0, m1, m2, m3, m4, m5, m6, m7, m8, m9, m10, mlt⟩ := map_cells hK.map
       obtain ⟨n0, n1, n2, n3, n4, n5, n6, n7, nlt⟩ := plan_blk hK.plan
       obtain ⟨_, _, he, blt, s0, s1, s2, s3, s4⟩ := span_cells hK.row k hk
       injection he with he
       injection he with hx1 hx2
       subst hx1; subst hx2
       rw [hs] at s0 s1 s2 s3 s4
       skip
       have HK := Lib.hid hK
       have f0 := F0.out; have f1 := F1.out; have f2 := F2.out; have f3 := F3.out; have f4 := F4.out; have k0 := K0.out; have k1 := K1.out; have k2 := K2.out
       clear hb2 hK tok))
  all_goals
    go_ret
    exact ⟨rfl, (HK.out.later (al _)).bel⟩
set_option maxRecDepth 100000 in
set_option maxHeartbeats 4000000 in
theorem rc_unfit3 (w : World) (A : Option Addr) (cap : Nat) (a : Atl) (k : Nat) (s : Span) (hz : isZ a.plan = false) (hI : MapIn w A cap a) (hsp : SpansOk a) (he1 : 1 ≤ s.ep) (he2 : s.ep ≤ 1099511627776)
    (hk : k < a.sp.length) (hs : a.sp[k] = s) (hp : place a.sp a.plan.shard = (k : Int)) (hq1 : 1 ≤ a.plan.epoch) (hq2 : a.plan.epoch ≤ 1099511627774) (k0 : 1 ≤ a.plan.kind) (k1 : a.plan.kind ≤ 3) (k2 : ¬ a.plan.kind = 1) (f0 : a.plan.past = 0) (f1 : s.gr = a.plan.group) (f2 : ¬ a.plan.phase = 1) (f3 : ¬ a.plan.phase = 9) :
    Calls Try.prog 39 #[a.val (.slice A a.sp.length cap)] w fun e w' => e = .returned (.bool false) ∧ Below w.heap.size w w' := by
  unfold isZ at hz
  have hlen := hsp.2.2.2.1.1
  have hks := hI.key
  have hpl := fun w hr => rPlace_any w A cap a a.plan.shard hr (by omega)
  rw [hp] at hpl
  have hspn := fun w hr => rSpans_any w A cap a hr
  rw [tr_true hsp] at hspn
  obtain ⟨b, off, rfl, hb, p0, p1, p2, p3, p4⟩ := span_cells hI.row k hk
  have Hrow := Lib.hid hI.row; have Hpl := Lib.hid hpl; have Hsp := Lib.hid hspn; have HI := Lib.hid hI
  clear hI hpl hp p0 p1 p2 p3 p4 hspn hsp
  have hk1 : (0 : Int) ≤ (k : Int) := by omega
  have hk2 : (k : Int) < (a.sp.length : Int) := by omega
  have hw6 : IntKind.i64.wrap (s.ep - 2) = s.ep - 2 := IntWalk.i64_in _ (by omega)
  have hw7 : IntKind.i64.wrap (a.plan.epoch - 2) = a.plan.epoch - 2 := IntWalk.i64_in _ (by omega)
  have hw1 : IntKind.i64.wrap ((k : Int) + 1) = (k : Int) + 1 := IntWalk.i64_in _ (by omega)
  have hk3 : (0 : Int) ≤ (k : Int) + 1 := by omega
  have hk4 : ((k : Int) + 1).toNat = k + 1 := by omega
  have F0 := Lib.hid f0; have F1 := Lib.hid f1; have F2 := Lib.hid f2; have F3 := Lib.hid f3; clear f0 f1 f2 f3
  have K0 := Lib.hid k0; have K1 := Lib.hid k1; have K2 := Lib.hid k2; clear k0 k1 k2
  have tok : True := trivial
  go_enter Try.func39, Try.ntmps39
  go_wp2_with (first
    | (go_at_call 61
       refine (Hsp.out _ (HI.out.below (al _))).mono ?_
       rintro e w1 ⟨rfl, hb1⟩
       have hM := blk_below (o := a.blk (.slice (some ⟨b, off, none⟩) a.sp.length cap)) hb1 (by simp) (heap_alloc_new w _)
       have hB := (al (w := w) (a.blk (.slice (some ⟨b, off, none⟩) a.sp.length cap))).trans (hb1.mono (by simp))
       obtain ⟨m0, m1, m2, m3, m4, m5, m6, m7, m8, m9, m10, mlt⟩ := map_cells hM
       have HM := Lib.hid hM; have HB := Lib.hid hB
       clear hb1 hM hB)
    | (go_at_call 32
       have _h : True := tok
       refine (Hpl.out _ ((HI.out.below HB.out).below (al _)).row).mono ?_
       rintro e w2 ⟨rfl, hb2⟩
       have hK := knownR_of Hrow.out HB.out HM.out hb2
       obtain ⟨m0, m1, m2, m3, m4, m5, m6, m7, m8, m9, m10, mlt⟩ := map_cells hK.map
       obtain ⟨n0, n1, n2, n3, n4, n5, n6, n7, nlt⟩ := plan_blk hK.plan
       obtain ⟨_, _, he, blt, s0, s1, s2, s3, s4⟩ := span_cells hK.row k hk
       injection he with he
       injection he with hx1 hx2
       subst hx1; subst hx2
       rw [hs] at s0 s1 s2 s3 s4
       skip
       have HK := Lib.hid hK
       have f0 := F0.out; have f1 := F1.out; have f2 := F2.out; have f3 := F3.out; have k0 := K0.out; have k1 := K1.out; have k2 := K2.out
       clear hb2 hK tok))
  all_goals
    go_ret
    exact ⟨rfl, (HK.out.later (al _)).bel⟩
set_option maxRecDepth 100000 in
set_option maxHeartbeats 4000000 in
theorem rc_unfit4 (w : World) (A : Option Addr) (cap : Nat) (a : Atl) (k : Nat) (s : Span) (hz : isZ a.plan = false) (hI : MapIn w A cap a) (hsp : SpansOk a) (he1 : 1 ≤ s.ep) (he2 : s.ep ≤ 1099511627776)
    (hk : k < a.sp.length) (hs : a.sp[k] = s) (hp : place a.sp a.plan.shard = (k : Int)) (hq1 : 1 ≤ a.plan.epoch) (hq2 : a.plan.epoch ≤ 1099511627774) (k0 : 1 ≤ a.plan.kind) (k1 : a.plan.kind ≤ 3) (k2 : ¬ a.plan.kind = 1) (f0 : a.plan.past = 0) (f1 : s.gr = a.plan.group) (f2 : ¬ a.plan.phase = 1) (f3 : a.plan.phase = 9) (f4 : ¬ s.ep - 2 = a.plan.epoch) (f5 : ¬ a.plan.epoch = s.ep - 2) :
    Calls Try.prog 39 #[a.val (.slice A a.sp.length cap)] w fun e w' => e = .returned (.bool false) ∧ Below w.heap.size w w' := by
  unfold isZ at hz
  have hlen := hsp.2.2.2.1.1
  have hks := hI.key
  have hpl := fun w hr => rPlace_any w A cap a a.plan.shard hr (by omega)
  rw [hp] at hpl
  have hspn := fun w hr => rSpans_any w A cap a hr
  rw [tr_true hsp] at hspn
  obtain ⟨b, off, rfl, hb, p0, p1, p2, p3, p4⟩ := span_cells hI.row k hk
  have Hrow := Lib.hid hI.row; have Hpl := Lib.hid hpl; have Hsp := Lib.hid hspn; have HI := Lib.hid hI
  clear hI hpl hp p0 p1 p2 p3 p4 hspn hsp
  have hk1 : (0 : Int) ≤ (k : Int) := by omega
  have hk2 : (k : Int) < (a.sp.length : Int) := by omega
  have hw6 : IntKind.i64.wrap (s.ep - 2) = s.ep - 2 := IntWalk.i64_in _ (by omega)
  have hw7 : IntKind.i64.wrap (a.plan.epoch - 2) = a.plan.epoch - 2 := IntWalk.i64_in _ (by omega)
  have hw1 : IntKind.i64.wrap ((k : Int) + 1) = (k : Int) + 1 := IntWalk.i64_in _ (by omega)
  have hk3 : (0 : Int) ≤ (k : Int) + 1 := by omega
  have hk4 : ((k : Int) + 1).toNat = k + 1 := by omega
  have F0 := Lib.hid f0; have F1 := Lib.hid f1; have F2 := Lib.hid f2; have F3 := Lib.hid f3; have F4 := Lib.hid f4; have F5 := Lib.hid f5; clear f0 f1 f2 f3 f4 f5
  have K0 := Lib.hid k0; have K1 := Lib.hid k1; have K2 := Lib.hid k2; clear k0 k1 k2
  have tok : True := trivial
  go_enter Try.func39, Try.ntmps39
  go_wp2_with (first
    | (go_at_call 61
       refine (Hsp.out _ (HI.out.below (al _))).mono ?_
       rintro e w1 ⟨rfl, hb1⟩
       have hM := blk_below (o := a.blk (.slice (some ⟨b, off, none⟩) a.sp.length cap)) hb1 (by simp) (heap_alloc_new w _)
       have hB := (al (w := w) (a.blk (.slice (some ⟨b, off, none⟩) a.sp.length cap))).trans (hb1.mono (by simp))
       obtain ⟨m0, m1, m2, m3, m4, m5, m6, m7, m8, m9, m10, mlt⟩ := map_cells hM
       have HM := Lib.hid hM; have HB := Lib.hid hB
       clear hb1 hM hB)
    | (go_at_call 32
       have _h : True := tok
       refine (Hpl.out _ ((HI.out.below HB.out).below (al _)).row).mono ?_
       rintro e w2 ⟨rfl, hb2⟩
       have hK := knownR_of Hrow.out HB.out HM.out hb2
       obtain ⟨m0, m1, m2, m3, m4, m5, m6, m7, m8, m9, m10, mlt⟩ := map_cells hK.map
       obtain ⟨n0, n1, n2, n3, n4, n5, n6, n7, nlt⟩ := plan_blk hK.plan
       obtain ⟨_, _, he, blt, s0, s1, s2, s3, s4⟩ := span_cells hK.row k hk
       injection he with he
       injection he with hx1 hx2
       subst hx1; subst hx2
       rw [hs] at s0 s1 s2 s3 s4
       skip
       have HK := Lib.hid hK
       have f0 := F0.out; have f1 := F1.out; have f2 := F2.out; have f3 := F3.out; have f4 := F4.out; have f5 := F5.out; have k0 := K0.out; have k1 := K1.out; have k2 := K2.out
       clear hb2 hK tok))
  all_goals
    go_ret
    exact ⟨rfl, (HK.out.later (al _)).bel⟩
end Go.Proofs.Ytimondpollbdfaa
