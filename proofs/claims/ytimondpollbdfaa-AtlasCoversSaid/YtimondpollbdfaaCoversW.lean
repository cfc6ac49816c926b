/- What is proved: AtlasCovers answers yes, whatever the map, the script and the name. -/
import Derived.Test.YtimondpollbdfaaDoW
import Derived.Deep.RegionHeld3
set_option linter.unusedVariables false
set_option linter.unusedSimpArgs false
namespace Go.Proofs.Ytimondpollbdfaa
open Go.RowKit
attribute [local go_sem] Span.val Atl.val Plan.val DoD.val cell_over frozen_over
attribute [local go_sem high] run_eql_eqP run_neq_eqP run_eql_eqS run_neq_eqS
attribute [local go_sem] eqP_refl eqS_refl

theorem sp_next' {l : List Span} (hc : CoversOk l) (i : Nat) (h : i + 1 < l.length) : sLt (l[i]'(by omega)).fr l[i+1].fr = true ∧ named l[i+1].fr = true := by
  obtain ⟨_, _, _, _, hl⟩ := hc
  obtain ⟨h1, h2, h3⟩ := hl i h
  rw [ba_ext h3]
  exact ⟨h2, h1⟩
theorem sp_sorted' {l : List Span} (hc : CoversOk l) (m : Nat) : ∀ n (hm : m < n) (hn : n < l.length), sLt (l[m]'(by omega)).fr l[n].fr = true
  | 0, hm, _ => by omega
  | n + 1, hm, hn => by
    have h1 := (sp_next' hc n hn).1
    rcases Nat.lt_succ_iff_lt_or_eq.1 hm with h | h
    · exact sLt_trans (sp_sorted' hc m n h (by omega)) h1
    · subst h; exact h1
/-- A name lies in the span that is found, and in no other. -/
theorem in_just {l : List Span} (hc : CoversOk l) {key : ByteArray} {j : Nat} (hj : j < l.length) (h1 : ∀ m (h : m < l.length), m ≤ j → sLt key l[m].fr = false) (h2 : ∀ h : j + 1 < l.length, sLt key l[j+1].fr = true) (k : Nat) (hk : k < l.length) :
    inSp key l[k] = decide (k = j) := by
  rcases Nat.lt_trichotomy k j with h | rfl | h
  · have hl := hc.2.2.2.2 k (by omega)
    have h3 := h1 (k + 1) (by omega) (by omega)
    unfold inSp
    rw [named_ne hl.1, ← sLt_congr hl.2.2, h3, decide_eq_false (by omega)]
    simp
  · unfold inSp
    rw [h1 k hk (Nat.le_refl _), decide_eq_true rfl]
    by_cases hn : k + 1 < l.length
    · rw [← sLt_congr (hc.2.2.2.2 k hn).2.2, h2 hn]; simp
    · have : l.length - 1 = k := by omega
      have hlast := hc.2.2.2.1
      have he : isE l[k].to = true := by unfold isE; simp only [this] at hlast; simp [hlast]
      rw [he]; rfl
  · have h3 : sLt key l[k].fr = true := by
      have h4 := h2 (by omega)
      rcases Nat.lt_or_eq_of_le (show j + 1 ≤ k by omega) with h5 | h5
      · exact sLt_trans h4 (sp_sorted' hc (j + 1) k h5 hk)
      · subst h5; exact h4
    unfold inSp
    rw [h3, decide_eq_false (by omega)]
    rfl
/-- What a name's search answers. -/
def FoundIn (A : Option Addr) (cap : Nat) (a : Atl) (key : ByteArray) (S : Span) (ok : Bool) : Prop :=
  ∀ w, MapIn w A cap a → Calls Try.prog 30 #[a.val (.slice A a.sp.length cap), .string key] w fun e w' => e = .returned (.tuple #[S.val, .bool ok]) ∧ Below w.heap.size w w'
theorem foundIn_ex (A : Option Addr) (cap : Nat) (a : Atl) (key : ByteArray) (hk : key.size ≤ 9223372036854775807) (hok : MapOk a) :
    FoundIn A cap a key zeroS false ∨ ∃ i : Nat, ∃ h : i < a.sp.length, FoundIn A cap a key a.sp[i] true ∧ ∀ k (hk : k < a.sp.length), inSp key a.sp[k] = decide (k = i) := by
  have hm := tr_true hok
  cases hn : named key
  · exact .inl fun w h => find_nameless w A cap a key h hm hk hn
  · obtain ⟨i, hi, hx, hy, hz⟩ := inSp_ex key hok.2.2.2.1
    exact .inr ⟨i, hi, fun w h => find_some w A cap a key i h hm hk hn hi hx, in_just hok.2.2.2.1 hi hy hz⟩
theorem dd_cells {w : World} {B : Nat} {A : Option Addr} {l : List DoD} (h : RowAt w B 10 A (l.map DoD.cells)) (k : Nat) (hk : k < l.length) :
    ∃ b off, A = some ⟨b, off, none⟩ ∧ b < B ∧ w.cell? ⟨b, off + k * 10, none⟩ = some (.int .i64 l[k].kind) ∧ w.cell? ⟨b, off + k * 10 + 1, none⟩ = some (.int .i64 l[k].plan.kind) ∧ w.cell? ⟨b, off + k * 10 + 2, none⟩ = some (.int .i64 l[k].plan.phase) ∧
      w.cell? ⟨b, off + k * 10 + 3, none⟩ = some (.int .i64 l[k].plan.shard) ∧ w.cell? ⟨b, off + k * 10 + 4, none⟩ = some (.int .i64 l[k].plan.other) ∧ w.cell? ⟨b, off + k * 10 + 5, none⟩ = some (.int .i64 l[k].plan.group) ∧ w.cell? ⟨b, off + k * 10 + 6, none⟩ = some (.int .i64 l[k].plan.past) ∧
      w.cell? ⟨b, off + k * 10 + 7, none⟩ = some (.int .i64 l[k].plan.epoch) ∧ w.cell? ⟨b, off + k * 10 + 8, none⟩ = some (.string l[k].plan.key) ∧ w.cell? ⟨b, off + k * 10 + 9, none⟩ = some (.int .i64 l[k].phase) := by
  obtain ⟨b, off, hA, hb, hc⟩ := h k (DoD.cells l[k]) (by simp [hk])
  exact ⟨b, off, hA, hb, hc 0 _ rfl, hc 1 _ rfl, hc 2 _ rfl, hc 3 _ rfl, hc 4 _ rfl, hc 5 _ rfl, hc 6 _ rfl, hc 7 _ rfl, hc 8 _ rfl, hc 9 _ rfl⟩
/-- What the round reads: the map, and the script's step. -/
def StepCells (g b o : Nat) (a : Atl) (V : Value) (d : DoD) (w : World) : Prop :=
  w.cell? ⟨g, 0, none⟩ = some (.int .i64 a.groups) ∧ w.cell? ⟨g, 1, none⟩ = some (.int .i64 a.last) ∧ w.cell? ⟨g, 2, none⟩ = some (V) ∧ w.cell? ⟨g, 3, none⟩ = some (.int .i64 a.plan.kind) ∧ w.cell? ⟨g, 4, none⟩ = some (.int .i64 a.plan.phase) ∧ w.cell? ⟨g, 5, none⟩ = some (.int .i64 a.plan.shard) ∧ w.cell? ⟨g, 6, none⟩ = some (.int .i64 a.plan.other) ∧ w.cell? ⟨g, 7, none⟩ = some (.int .i64 a.plan.group) ∧ w.cell? ⟨g, 8, none⟩ = some (.int .i64 a.plan.past) ∧ w.cell? ⟨g, 9, none⟩ = some (.int .i64 a.plan.epoch) ∧ w.cell? ⟨g, 10, none⟩ = some (.string a.plan.key) ∧ w.cell? ⟨b, o, none⟩ = some (.int .i64 d.kind) ∧ w.cell? ⟨b, o + 1, none⟩ = some (.int .i64 d.plan.kind) ∧ w.cell? ⟨b, o + 2, none⟩ = some (.int .i64 d.plan.phase) ∧ w.cell? ⟨b, o + 3, none⟩ = some (.int .i64 d.plan.shard) ∧ w.cell? ⟨b, o + 4, none⟩ = some (.int .i64 d.plan.other) ∧ w.cell? ⟨b, o + 5, none⟩ = some (.int .i64 d.plan.group) ∧ w.cell? ⟨b, o + 6, none⟩ = some (.int .i64 d.plan.past) ∧ w.cell? ⟨b, o + 7, none⟩ = some (.int .i64 d.plan.epoch) ∧ w.cell? ⟨b, o + 8, none⟩ = some (.string d.plan.key) ∧ w.cell? ⟨b, o + 9, none⟩ = some (.int .i64 d.phase)
theorem StepCells.below {g b o B : Nat} {a : Atl} {V : Value} {d : DoD} {w w' : World} (h : StepCells g b o a V d w) (hb : Below B w w') (h1 : g < B) (h2 : b < B) : StepCells g b o a V d w' := by
  unfold StepCells at *
  have e : ∀ i, w'.cell? ⟨g, i, none⟩ = w.cell? ⟨g, i, none⟩ := fun i => hb.cell h1
  have e2 : ∀ i, w'.cell? ⟨b, i, none⟩ = w.cell? ⟨b, i, none⟩ := fun i => hb.cell h2
  rw [e, e, e, e, e, e, e, e, e, e, e, e2, e2, e2, e2, e2, e2, e2, e2, e2, e2]
  exact h
theorem below_drewN' {B : Nat} {wr W : World} (h : Below B wr W) (n : Nat) : Below B wr (W.drewN n) :=
  h.trans ⟨rfl, rfl, rfl, Nat.le_refl _, fun _ _ => rfl⟩
set_option maxRecDepth 100000 in
set_option maxHeartbeats 8000000 in
theorem covers_wrong (w : World) (A : Option Addr) (cap : Nat) (a : Atl) (B : Option Addr) (bc : Nat) (ds : List DoD) (key : ByteArray) (h : MapIn w A cap a) (hm : tr (MapOk a) = false) :
    Calls Try.prog 5 #[a.val (.slice A a.sp.length cap), .slice B ds.length bc, .string key] w fun e w' => e = .returned (.bool true) ∧ Below w.heap.size w w' := by
  have hF := fun w h => find_bad w A cap a key h hm
  have HF := Lib.hid hF; clear hF
  have hC := fun w h => check_any w A cap a h
  rw [hm] at hC
  have HC := Lib.hid hC; have HI := Lib.hid h; have Hm := Lib.hid hm
  clear hC h hm
  go_enter Try.func5, Try.ntmps5
  go_upto_region 1 with fail
  change Code.wp _ _ _ _ (w.alloc (a.blk (.slice A a.sp.length cap)))
  have hX0 := heap_alloc_new w (a.blk (.slice A a.sp.length cap))
  have hB0 : Below w.heap.size w (w.alloc (a.blk (.slice A a.sp.length cap))) := al _
  generalize w.alloc (a.blk (.slice A a.sp.length cap)) = w0 at *
  have HA0 := Lib.hid hX0; have HB0 := Lib.hid hB0
  clear hX0 hB0
  go_upto_region 3 with (go_at_call 13
                         refine (awakeA _).mono ?_
                         rintro e w1 ⟨rfl, hb1⟩
                         have HA1 := Lib.hid (blk_below hb1 (lt_of_some HA0.out) HA0.out)
                         have HB1 := Lib.hid (HB0.out.trans (hb1.mono HB0.out.size))
                         clear hb1)
  refine wp_region_lit ?_
  refine wpList_load26 rfl (.tmp 3) rfl (w.heap.size) rfl HA1.out ?_
  simp only [Act.put, List.setIfInBounds_toArray, List.set_cons_zero, List.set_cons_succ]
  refine wpList_step (fun K hK => ?_)
  go_simp
  go_at_call 29
  refine (HC.out _ (HI.out.below HB1.out)).mono ?_
  rintro e w2 ⟨rfl, hb2⟩
  refine hK _ _ ?_
  clear hK K
  have HA2 := Lib.hid (blk_below hb2 (lt_of_some HA1.out) HA1.out)
  have HB2 := Lib.hid (HB1.out.trans (hb2.mono HB1.out.size))
  clear hb2
  go_upto_region 4 with fail
  refine wp_region_lit ?_
  refine wpList_load26 rfl (.tmp 3) rfl (w.heap.size) rfl HA2.out ?_
  simp only [Act.put, List.setIfInBounds_toArray, List.set_cons_zero, List.set_cons_succ]
  refine wpList_step (fun K hK => ?_)
  go_simp
  refine hK _ _ ?_
  clear hK K
  refine wpList_step (fun K hK => ?_)
  go_simp
  go_at_call 30
  refine (HF.out _ (HI.out.below HB2.out)).mono ?_
  rintro e w3 ⟨rfl, hb3⟩
  refine hK _ _ ?_
  clear hK K
  refine wpList_step (fun K hK => ?_)
  go_simp
  refine hK _ _ ?_
  clear hK K
  refine wpList_step (fun K hK => ?_)
  go_simp
  refine hK _ _ ?_
  clear hK K
  refine wpList_step (fun K hK => ?_)
  go_simp
  refine hK _ _ ?_
  clear hK K
  refine wpList_step (fun K hK => ?_)
  go_simp
  refine hK _ _ ?_
  clear hK K
  refine wpList_store50 rfl (.tmp 7) (.tmp 27) rfl w3.heap.size rfl (p := zeroS) (p0 := zeroS) rfl (heap_alloc_new w3 _) ?_
  intro w4 hN ho
  simp only [Act.put, List.setIfInBounds_toArray, List.set_cons_zero, List.set_cons_succ]
  have hb : Below w3.heap.size w3 w4 := ho.below (al _) (fun k hk => by omega) (by simp)
  have HB4 := Lib.hid (HB2.out.trans ((hb3.trans (hb.mono hb3.size)).mono HB2.out.size))
  clear hb3 hb hN ho
  go_wp2_with fail
  go_ret
  exact ⟨rfl, HB4.out⟩
set_option maxRecDepth 100000 in
set_option maxHeartbeats 32000000 in
theorem covers_right (w : World) (A : Option Addr) (cap : Nat) (a : Atl) (B : Option Addr) (bc : Nat) (ds : List DoD) (key : ByteArray) (h : MapIn w A cap a) (hrow : RowAt w w.heap.size 10 B (ds.map DoD.cells)) (hdk : ∀ d ∈ ds, d.plan.key.size ≤ 9223372036854775807) (hkey : key.size ≤ 9223372036854775807) (hm : tr (MapOk a) = true) :
    Calls Try.prog 5 #[a.val (.slice A a.sp.length cap), .slice B ds.length bc, .string key] w fun e w' => e = .returned (.bool true) ∧ Below w.heap.size w w' := by
  have Hrow := Lib.hid hrow; have Hdk := Lib.hid hdk; have Hkey := Lib.hid hkey
  clear hrow hdk hkey
  have hC := fun w h => check_any w A cap a h
  rw [hm] at hC
  have HC := Lib.hid hC; have HI := Lib.hid h; have Hm := Lib.hid hm
  clear hC h hm
  go_enter Try.func5, Try.ntmps5
  go_upto_region 1 with fail
  change Code.wp _ _ _ _ (w.alloc (a.blk (.slice A a.sp.length cap)))
  have hX0 := heap_alloc_new w (a.blk (.slice A a.sp.length cap))
  have hB0 : Below w.heap.size w (w.alloc (a.blk (.slice A a.sp.length cap))) := al _
  generalize w.alloc (a.blk (.slice A a.sp.length cap)) = w0 at *
  have HA0 := Lib.hid hX0; have HB0 := Lib.hid hB0
  clear hX0 hB0
  go_upto_region 3 with (go_at_call 13
                         refine (awakeA _).mono ?_
                         rintro e w1 ⟨rfl, hb1⟩
                         have HA1 := Lib.hid (blk_below hb1 (lt_of_some HA0.out) HA0.out)
                         have HB1 := Lib.hid (HB0.out.trans (hb1.mono HB0.out.size))
                         clear hb1)
  refine wp_region_lit ?_
  refine wpList_load26 rfl (.tmp 3) rfl (w.heap.size) rfl HA1.out ?_
  simp only [Act.put, List.setIfInBounds_toArray, List.set_cons_zero, List.set_cons_succ]
  refine wpList_step (fun K hK => ?_)
  go_simp
  go_at_call 29
  refine (HC.out _ (HI.out.below HB1.out)).mono ?_
  rintro e w2 ⟨rfl, hb2⟩
  refine hK _ _ ?_
  clear hK K
  have HA2 := Lib.hid (blk_below hb2 (lt_of_some HA1.out) HA1.out)
  have HB2 := Lib.hid (HB1.out.trans (hb2.mono HB1.out.size))
  clear hb2
  have HOk := Lib.hid (of_tr Hm.out)
  go_wp2_with fail
  go_loopw [9] (fun v wr => ∃ (i : Nat) (M : Atl) (A1 : Option Addr) (c1 : Nat), i ≤ ds.length ∧ v = .int .i64 i ∧ wr.heap[w.heap.size]? = some (M.blk (.slice A1 M.sp.length c1)) ∧ MapIn wr A1 c1 M ∧ MapOk M ∧ Below w.heap.size w wr) (fun v _ => ds.length - (intOf v).toNat)
  case atStart => exact ⟨0, a, A, cap, Nat.zero_le _, rfl, HA2.out, HI.out.below HB2.out, HOk.out, HB2.out⟩
  case round =>
    clear HA0 HA1 HA2 HB0 HB1 HB2 HI HC Hm HOk
    obtain ⟨i, M, A1, c1, hi, rfl, hX, hI, hok, hB⟩ := hrel
    obtain ⟨wo, rfl⟩ : ∃ x : World, x = wr := ⟨_, rfl⟩
    have HX := Lib.hid hX; have HI := Lib.hid hI; have Hok := Lib.hid hok; have HB := Lib.hid hB
    clear hX hI hok hB
    by_cases h1 : i < ds.length
    rotate_left
    · have i1 : ¬ (i : Int) < (ds.length : Int) := by omega
      go_wp2_with fail
      go_ret
      exact ⟨rfl, HB.out⟩
    have i0 : (0 : Int) ≤ (i : Int) := by omega
    have i1 : (i : Int) < (ds.length : Int) := by omega
    by_cases h2 : i < 200
    rotate_left
    · have i2 : ¬ (i : Int) < 200 := by omega
      go_wp2_with fail
      go_ret
      exact ⟨rfl, HB.out⟩
    have i2 : (i : Int) < 200 := by omega
    obtain ⟨b, off, rfl, hb, k0, k1, k2, k3, k4, k5, k6, k7, k8, k9⟩ := dd_cells Hrow.out i h1
    have hbw := HB.out.size
    have q0 := (HB.out.cell (p := ⟨b, off + i * 10, none⟩) hb).trans k0
    have q1 := (HB.out.cell (p := ⟨b, off + i * 10 + 1, none⟩) hb).trans k1
    have q2 := (HB.out.cell (p := ⟨b, off + i * 10 + 2, none⟩) hb).trans k2
    have q3 := (HB.out.cell (p := ⟨b, off + i * 10 + 3, none⟩) hb).trans k3
    have q4 := (HB.out.cell (p := ⟨b, off + i * 10 + 4, none⟩) hb).trans k4
    have q5 := (HB.out.cell (p := ⟨b, off + i * 10 + 5, none⟩) hb).trans k5
    have q6 := (HB.out.cell (p := ⟨b, off + i * 10 + 6, none⟩) hb).trans k6
    have q7 := (HB.out.cell (p := ⟨b, off + i * 10 + 7, none⟩) hb).trans k7
    have q8 := (HB.out.cell (p := ⟨b, off + i * 10 + 8, none⟩) hb).trans k8
    have q9 := (HB.out.cell (p := ⟨b, off + i * 10 + 9, none⟩) hb).trans k9
    clear k0 k1 k2 k3 k4 k5 k6 k7 k8 k9
    obtain ⟨m0, m1, m2, m3, m4, m5, m6, m7, m8, m9, m10, mlt⟩ := map_cells HX.out
    have blt : b < wo.heap.size := by omega
    obtain ⟨R, n, hG, hS⟩ := does_gives A1 c1 M ds[i] (Hdk.out _ (List.getElem_mem h1)) Hok.out
    have HG := Lib.hid hG; have HS := Lib.hid hS
    clear hG hS
    go_upto_region 9 with fail
    go_cut [10, 11] (fun p e wx => ∃ g A2 c2, p = .pointer (some ⟨g, 0, none⟩) ∧ e = .int .i64 n ∧ wx.heap[g]? = some (R.blk (.slice A2 R.sp.length c2)) ∧ wo.heap.size ≤ g ∧ MapIn wx A2 c2 R ∧ Below wo.heap.size wo wx)
    case first =>
      rename_i JJ KK hJJ hKK
      have hr0 : StepCells w.heap.size b (off + i * 10) M (.slice A1 M.sp.length c1) ds[i] wo := ⟨m0, m1, m2, m3, m4, m5, m6, m7, m8, m9, m10, q0, q1, q2, q3, q4, q5, q6, q7, q8, q9⟩
      have HR0 := Lib.hid (show wo.drew.cell? ⟨w.heap.size, 0, none⟩ = some (.int .i64 M.groups) ∧ wo.drew.cell? ⟨w.heap.size, 1, none⟩ = some (.int .i64 M.last) ∧ wo.drew.cell? ⟨w.heap.size, 2, none⟩ = some ((.slice A1 M.sp.length c1)) ∧ wo.drew.cell? ⟨w.heap.size, 3, none⟩ = some (.int .i64 M.plan.kind) ∧ wo.drew.cell? ⟨w.heap.size, 4, none⟩ = some (.int .i64 M.plan.phase) ∧ wo.drew.cell? ⟨w.heap.size, 5, none⟩ = some (.int .i64 M.plan.shard) ∧ wo.drew.cell? ⟨w.heap.size, 6, none⟩ = some (.int .i64 M.plan.other) ∧ wo.drew.cell? ⟨w.heap.size, 7, none⟩ = some (.int .i64 M.plan.group) ∧ wo.drew.cell? ⟨w.heap.size, 8, none⟩ = some (.int .i64 M.plan.past) ∧ wo.drew.cell? ⟨w.heap.size, 9, none⟩ = some (.int .i64 M.plan.epoch) ∧ wo.drew.cell? ⟨w.heap.size, 10, none⟩ = some (.string M.plan.key) ∧ wo.drew.cell? ⟨b, off + i * 10, none⟩ = some (.int .i64 ds[i].kind) ∧ wo.drew.cell? ⟨b, off + i * 10 + 1, none⟩ = some (.int .i64 ds[i].plan.kind) ∧ wo.drew.cell? ⟨b, off + i * 10 + 2, none⟩ = some (.int .i64 ds[i].plan.phase) ∧ wo.drew.cell? ⟨b, off + i * 10 + 3, none⟩ = some (.int .i64 ds[i].plan.shard) ∧ wo.drew.cell? ⟨b, off + i * 10 + 4, none⟩ = some (.int .i64 ds[i].plan.other) ∧ wo.drew.cell? ⟨b, off + i * 10 + 5, none⟩ = some (.int .i64 ds[i].plan.group) ∧ wo.drew.cell? ⟨b, off + i * 10 + 6, none⟩ = some (.int .i64 ds[i].plan.past) ∧ wo.drew.cell? ⟨b, off + i * 10 + 7, none⟩ = some (.int .i64 ds[i].plan.epoch) ∧ wo.drew.cell? ⟨b, off + i * 10 + 8, none⟩ = some (.string ds[i].plan.key) ∧ wo.drew.cell? ⟨b, off + i * 10 + 9, none⟩ = some (.int .i64 ds[i].phase) from hr0)
      have hrz : StepCells w.heap.size b (off + i * 10) M (.slice A1 M.sp.length c1) ds[i] (wo.alloc (zeroA.blk nilV)) := hr0.below (al _) mlt blt
      have HRz := Lib.hid (show (wo.alloc (.cells #[.int .i64 0, .int .i64 0, .slice none 0 0, .int .i64 0, .int .i64 0, .int .i64 0, .int .i64 0, .int .i64 0, .int .i64 0, .int .i64 0, .string ⟨#[]⟩] 26)).drew.cell? ⟨w.heap.size, 0, none⟩ = some (.int .i64 M.groups) ∧ (wo.alloc (.cells #[.int .i64 0, .int .i64 0, .slice none 0 0, .int .i64 0, .int .i64 0, .int .i64 0, .int .i64 0, .int .i64 0, .int .i64 0, .int .i64 0, .string ⟨#[]⟩] 26)).drew.cell? ⟨w.heap.size, 1, none⟩ = some (.int .i64 M.last) ∧ (wo.alloc (.cells #[.int .i64 0, .int .i64 0, .slice none 0 0, .int .i64 0, .int .i64 0, .int .i64 0, .int .i64 0, .int .i64 0, .int .i64 0, .int .i64 0, .string ⟨#[]⟩] 26)).drew.cell? ⟨w.heap.size, 2, none⟩ = some ((.slice A1 M.sp.length c1)) ∧ (wo.alloc (.cells #[.int .i64 0, .int .i64 0, .slice none 0 0, .int .i64 0, .int .i64 0, .int .i64 0, .int .i64 0, .int .i64 0, .int .i64 0, .int .i64 0, .string ⟨#[]⟩] 26)).drew.cell? ⟨w.heap.size, 3, none⟩ = some (.int .i64 M.plan.kind) ∧ (wo.alloc (.cells #[.int .i64 0, .int .i64 0, .slice none 0 0, .int .i64 0, .int .i64 0, .int .i64 0, .int .i64 0, .int .i64 0, .int .i64 0, .int .i64 0, .string ⟨#[]⟩] 26)).drew.cell? ⟨w.heap.size, 4, none⟩ = some (.int .i64 M.plan.phase) ∧ (wo.alloc (.cells #[.int .i64 0, .int .i64 0, .slice none 0 0, .int .i64 0, .int .i64 0, .int .i64 0, .int .i64 0, .int .i64 0, .int .i64 0, .int .i64 0, .string ⟨#[]⟩] 26)).drew.cell? ⟨w.heap.size, 5, none⟩ = some (.int .i64 M.plan.shard) ∧ (wo.alloc (.cells #[.int .i64 0, .int .i64 0, .slice none 0 0, .int .i64 0, .int .i64 0, .int .i64 0, .int .i64 0, .int .i64 0, .int .i64 0, .int .i64 0, .string ⟨#[]⟩] 26)).drew.cell? ⟨w.heap.size, 6, none⟩ = some (.int .i64 M.plan.other) ∧ (wo.alloc (.cells #[.int .i64 0, .int .i64 0, .slice none 0 0, .int .i64 0, .int .i64 0, .int .i64 0, .int .i64 0, .int .i64 0, .int .i64 0, .int .i64 0, .string ⟨#[]⟩] 26)).drew.cell? ⟨w.heap.size, 7, none⟩ = some (.int .i64 M.plan.group) ∧ (wo.alloc (.cells #[.int .i64 0, .int .i64 0, .slice none 0 0, .int .i64 0, .int .i64 0, .int .i64 0, .int .i64 0, .int .i64 0, .int .i64 0, .int .i64 0, .string ⟨#[]⟩] 26)).drew.cell? ⟨w.heap.size, 8, none⟩ = some (.int .i64 M.plan.past) ∧ (wo.alloc (.cells #[.int .i64 0, .int .i64 0, .slice none 0 0, .int .i64 0, .int .i64 0, .int .i64 0, .int .i64 0, .int .i64 0, .int .i64 0, .int .i64 0, .string ⟨#[]⟩] 26)).drew.cell? ⟨w.heap.size, 9, none⟩ = some (.int .i64 M.plan.epoch) ∧ (wo.alloc (.cells #[.int .i64 0, .int .i64 0, .slice none 0 0, .int .i64 0, .int .i64 0, .int .i64 0, .int .i64 0, .int .i64 0, .int .i64 0, .int .i64 0, .string ⟨#[]⟩] 26)).drew.cell? ⟨w.heap.size, 10, none⟩ = some (.string M.plan.key) ∧ (wo.alloc (.cells #[.int .i64 0, .int .i64 0, .slice none 0 0, .int .i64 0, .int .i64 0, .int .i64 0, .int .i64 0, .int .i64 0, .int .i64 0, .int .i64 0, .string ⟨#[]⟩] 26)).drew.cell? ⟨b, off + i * 10, none⟩ = some (.int .i64 ds[i].kind) ∧ (wo.alloc (.cells #[.int .i64 0, .int .i64 0, .slice none 0 0, .int .i64 0, .int .i64 0, .int .i64 0, .int .i64 0, .int .i64 0, .int .i64 0, .int .i64 0, .string ⟨#[]⟩] 26)).drew.cell? ⟨b, off + i * 10 + 1, none⟩ = some (.int .i64 ds[i].plan.kind) ∧ (wo.alloc (.cells #[.int .i64 0, .int .i64 0, .slice none 0 0, .int .i64 0, .int .i64 0, .int .i64 0, .int .i64 0, .int .i64 0, .int .i64 0, .int .i64 0, .string ⟨#[]⟩] 26)).drew.cell? ⟨b, off + i * 10 + 2, none⟩ = some (.int .i64 ds[i].plan.phase) ∧ (wo.alloc (.cells #[.int .i64 0, .int .i64 0, .slice none 0 0, .int .i64 0, .int .i64 0, .int .i64 0, .int .i64 0, .int .i64 0, .int .i64 0, .int .i64 0, .string ⟨#[]⟩] 26)).drew.cell? ⟨b, off + i * 10 + 3, none⟩ = some (.int .i64 ds[i].plan.shard) ∧ (wo.alloc (.cells #[.int .i64 0, .int .i64 0, .slice none 0 0, .int .i64 0, .int .i64 0, .int .i64 0, .int .i64 0, .int .i64 0, .int .i64 0, .int .i64 0, .string ⟨#[]⟩] 26)).drew.cell? ⟨b, off + i * 10 + 4, none⟩ = some (.int .i64 ds[i].plan.other) ∧ (wo.alloc (.cells #[.int .i64 0, .int .i64 0, .slice none 0 0, .int .i64 0, .int .i64 0, .int .i64 0, .int .i64 0, .int .i64 0, .int .i64 0, .int .i64 0, .string ⟨#[]⟩] 26)).drew.cell? ⟨b, off + i * 10 + 5, none⟩ = some (.int .i64 ds[i].plan.group) ∧ (wo.alloc (.cells #[.int .i64 0, .int .i64 0, .slice none 0 0, .int .i64 0, .int .i64 0, .int .i64 0, .int .i64 0, .int .i64 0, .int .i64 0, .int .i64 0, .string ⟨#[]⟩] 26)).drew.cell? ⟨b, off + i * 10 + 6, none⟩ = some (.int .i64 ds[i].plan.past) ∧ (wo.alloc (.cells #[.int .i64 0, .int .i64 0, .slice none 0 0, .int .i64 0, .int .i64 0, .int .i64 0, .int .i64 0, .int .i64 0, .int .i64 0, .int .i64 0, .string ⟨#[]⟩] 26)).drew.cell? ⟨b, off + i * 10 + 7, none⟩ = some (.int .i64 ds[i].plan.epoch) ∧ (wo.alloc (.cells #[.int .i64 0, .int .i64 0, .slice none 0 0, .int .i64 0, .int .i64 0, .int .i64 0, .int .i64 0, .int .i64 0, .int .i64 0, .int .i64 0, .string ⟨#[]⟩] 26)).drew.cell? ⟨b, off + i * 10 + 8, none⟩ = some (.string ds[i].plan.key) ∧ (wo.alloc (.cells #[.int .i64 0, .int .i64 0, .slice none 0 0, .int .i64 0, .int .i64 0, .int .i64 0, .int .i64 0, .int .i64 0, .int .i64 0, .int .i64 0, .string ⟨#[]⟩] 26)).drew.cell? ⟨b, off + i * 10 + 9, none⟩ = some (.int .i64 ds[i].phase) from hrz)
      have hbz : Below wo.heap.size wo (wo.alloc (.cells #[.int .i64 0, .int .i64 0, .slice none 0 0, .int .i64 0, .int .i64 0, .int .i64 0, .int .i64 0, .int .i64 0, .int .i64 0, .int .i64 0, .string ⟨#[]⟩] 26)).drew := (al (w := wo) (zeroA.blk nilV)).drew
      have hzz : (wo.alloc (.cells #[.int .i64 0, .int .i64 0, .slice none 0 0, .int .i64 0, .int .i64 0, .int .i64 0, .int .i64 0, .int .i64 0, .int .i64 0, .int .i64 0, .string ⟨#[]⟩] 26)).drew.heap[wo.heap.size]? = some (zeroA.blk nilV) := heap_alloc_new wo _
      have Hbz := Lib.hid hbz; have Hzz := Lib.hid hzz
      clear hrz hbz hzz hr0
      go_region_held3 (fun w' => w'.cell? ⟨w.heap.size, 0, none⟩ = some (.int .i64 M.groups) ∧ w'.cell? ⟨w.heap.size, 1, none⟩ = some (.int .i64 M.last) ∧ w'.cell? ⟨w.heap.size, 2, none⟩ = some ((.slice A1 M.sp.length c1)) ∧ w'.cell? ⟨w.heap.size, 3, none⟩ = some (.int .i64 M.plan.kind) ∧ w'.cell? ⟨w.heap.size, 4, none⟩ = some (.int .i64 M.plan.phase) ∧ w'.cell? ⟨w.heap.size, 5, none⟩ = some (.int .i64 M.plan.shard) ∧ w'.cell? ⟨w.heap.size, 6, none⟩ = some (.int .i64 M.plan.other) ∧ w'.cell? ⟨w.heap.size, 7, none⟩ = some (.int .i64 M.plan.group) ∧ w'.cell? ⟨w.heap.size, 8, none⟩ = some (.int .i64 M.plan.past) ∧ w'.cell? ⟨w.heap.size, 9, none⟩ = some (.int .i64 M.plan.epoch) ∧ w'.cell? ⟨w.heap.size, 10, none⟩ = some (.string M.plan.key) ∧ w'.cell? ⟨b, off + i * 10, none⟩ = some (.int .i64 ds[i].kind) ∧ w'.cell? ⟨b, off + i * 10 + 1, none⟩ = some (.int .i64 ds[i].plan.kind) ∧ w'.cell? ⟨b, off + i * 10 + 2, none⟩ = some (.int .i64 ds[i].plan.phase) ∧ w'.cell? ⟨b, off + i * 10 + 3, none⟩ = some (.int .i64 ds[i].plan.shard) ∧ w'.cell? ⟨b, off + i * 10 + 4, none⟩ = some (.int .i64 ds[i].plan.other) ∧ w'.cell? ⟨b, off + i * 10 + 5, none⟩ = some (.int .i64 ds[i].plan.group) ∧ w'.cell? ⟨b, off + i * 10 + 6, none⟩ = some (.int .i64 ds[i].plan.past) ∧ w'.cell? ⟨b, off + i * 10 + 7, none⟩ = some (.int .i64 ds[i].plan.epoch) ∧ w'.cell? ⟨b, off + i * 10 + 8, none⟩ = some (.string ds[i].plan.key) ∧ w'.cell? ⟨b, off + i * 10 + 9, none⟩ = some (.int .i64 ds[i].phase))
        (first | with_reducible exact HR0.out | with_reducible exact HRz.out | with_reducible exact HR1.out | with_reducible exact HR2.out | with_reducible exact HR3.out)
        (first
          | (go_at_call 31
             refine (HG.out wo.drew (HI.out.below ((Below.refl _ wo).drew))).mono ?_
             rintro e wc ⟨A2, c2, rfl, hI2, hbc⟩
             have hbc' : Below wo.heap.size wo wc := ((Below.refl _ wo).drew).trans hbc
             have hr1 : StepCells w.heap.size b (off + i * 10) M (.slice A1 M.sp.length c1) ds[i] wc := StepCells.below (w := wo.drew) HR0.out hbc mlt blt
             have HR1 := Lib.hid (show wc.cell? ⟨w.heap.size, 0, none⟩ = some (.int .i64 M.groups) ∧ wc.cell? ⟨w.heap.size, 1, none⟩ = some (.int .i64 M.last) ∧ wc.cell? ⟨w.heap.size, 2, none⟩ = some ((.slice A1 M.sp.length c1)) ∧ wc.cell? ⟨w.heap.size, 3, none⟩ = some (.int .i64 M.plan.kind) ∧ wc.cell? ⟨w.heap.size, 4, none⟩ = some (.int .i64 M.plan.phase) ∧ wc.cell? ⟨w.heap.size, 5, none⟩ = some (.int .i64 M.plan.shard) ∧ wc.cell? ⟨w.heap.size, 6, none⟩ = some (.int .i64 M.plan.other) ∧ wc.cell? ⟨w.heap.size, 7, none⟩ = some (.int .i64 M.plan.group) ∧ wc.cell? ⟨w.heap.size, 8, none⟩ = some (.int .i64 M.plan.past) ∧ wc.cell? ⟨w.heap.size, 9, none⟩ = some (.int .i64 M.plan.epoch) ∧ wc.cell? ⟨w.heap.size, 10, none⟩ = some (.string M.plan.key) ∧ wc.cell? ⟨b, off + i * 10, none⟩ = some (.int .i64 ds[i].kind) ∧ wc.cell? ⟨b, off + i * 10 + 1, none⟩ = some (.int .i64 ds[i].plan.kind) ∧ wc.cell? ⟨b, off + i * 10 + 2, none⟩ = some (.int .i64 ds[i].plan.phase) ∧ wc.cell? ⟨b, off + i * 10 + 3, none⟩ = some (.int .i64 ds[i].plan.shard) ∧ wc.cell? ⟨b, off + i * 10 + 4, none⟩ = some (.int .i64 ds[i].plan.other) ∧ wc.cell? ⟨b, off + i * 10 + 5, none⟩ = some (.int .i64 ds[i].plan.group) ∧ wc.cell? ⟨b, off + i * 10 + 6, none⟩ = some (.int .i64 ds[i].plan.past) ∧ wc.cell? ⟨b, off + i * 10 + 7, none⟩ = some (.int .i64 ds[i].plan.epoch) ∧ wc.cell? ⟨b, off + i * 10 + 8, none⟩ = some (.string ds[i].plan.key) ∧ wc.cell? ⟨b, off + i * 10 + 9, none⟩ = some (.int .i64 ds[i].phase) from hr1)
             have hr2 : StepCells w.heap.size b (off + i * 10) M (.slice A1 M.sp.length c1) ds[i] (wc.alloc (zeroA.blk nilV)) := hr1.below (al _) (Nat.lt_of_lt_of_le mlt hbc'.size) (Nat.lt_of_lt_of_le blt hbc'.size)
             have HR2 := Lib.hid (show (wc.alloc (.cells #[.int .i64 0, .int .i64 0, .slice none 0 0, .int .i64 0, .int .i64 0, .int .i64 0, .int .i64 0, .int .i64 0, .int .i64 0, .int .i64 0, .string ⟨#[]⟩] 26)).cell? ⟨w.heap.size, 0, none⟩ = some (.int .i64 M.groups) ∧ (wc.alloc (.cells #[.int .i64 0, .int .i64 0, .slice none 0 0, .int .i64 0, .int .i64 0, .int .i64 0, .int .i64 0, .int .i64 0, .int .i64 0, .int .i64 0, .string ⟨#[]⟩] 26)).cell? ⟨w.heap.size, 1, none⟩ = some (.int .i64 M.last) ∧ (wc.alloc (.cells #[.int .i64 0, .int .i64 0, .slice none 0 0, .int .i64 0, .int .i64 0, .int .i64 0, .int .i64 0, .int .i64 0, .int .i64 0, .int .i64 0, .string ⟨#[]⟩] 26)).cell? ⟨w.heap.size, 2, none⟩ = some ((.slice A1 M.sp.length c1)) ∧ (wc.alloc (.cells #[.int .i64 0, .int .i64 0, .slice none 0 0, .int .i64 0, .int .i64 0, .int .i64 0, .int .i64 0, .int .i64 0, .int .i64 0, .int .i64 0, .string ⟨#[]⟩] 26)).cell? ⟨w.heap.size, 3, none⟩ = some (.int .i64 M.plan.kind) ∧ (wc.alloc (.cells #[.int .i64 0, .int .i64 0, .slice none 0 0, .int .i64 0, .int .i64 0, .int .i64 0, .int .i64 0, .int .i64 0, .int .i64 0, .int .i64 0, .string ⟨#[]⟩] 26)).cell? ⟨w.heap.size, 4, none⟩ = some (.int .i64 M.plan.phase) ∧ (wc.alloc (.cells #[.int .i64 0, .int .i64 0, .slice none 0 0, .int .i64 0, .int .i64 0, .int .i64 0, .int .i64 0, .int .i64 0, .int .i64 0, .int .i64 0, .string ⟨#[]⟩] 26)).cell? ⟨w.heap.size, 5, none⟩ = some (.int .i64 M.plan.shard) ∧ (wc.alloc (.cells #[.int .i64 0, .int .i64 0, .slice none 0 0, .int .i64 0, .int .i64 0, .int .i64 0, .int .i64 0, .int .i64 0, .int .i64 0, .int .i64 0, .string ⟨#[]⟩] 26)).cell? ⟨w.heap.size, 6, none⟩ = some (.int .i64 M.plan.other) ∧ (wc.alloc (.cells #[.int .i64 0, .int .i64 0, .slice none 0 0, .int .i64 0, .int .i64 0, .int .i64 0, .int .i64 0, .int .i64 0, .int .i64 0, .int .i64 0, .string ⟨#[]⟩] 26)).cell? ⟨w.heap.size, 7, none⟩ = some (.int .i64 M.plan.group) ∧ (wc.alloc (.cells #[.int .i64 0, .int .i64 0, .slice none 0 0, .int .i64 0, .int .i64 0, .int .i64 0, .int .i64 0, .int .i64 0, .int .i64 0, .int .i64 0, .string ⟨#[]⟩] 26)).cell? ⟨w.heap.size, 8, none⟩ = some (.int .i64 M.plan.past) ∧ (wc.alloc (.cells #[.int .i64 0, .int .i64 0, .slice none 0 0, .int .i64 0, .int .i64 0, .int .i64 0, .int .i64 0, .int .i64 0, .int .i64 0, .int .i64 0, .string ⟨#[]⟩] 26)).cell? ⟨w.heap.size, 9, none⟩ = some (.int .i64 M.plan.epoch) ∧ (wc.alloc (.cells #[.int .i64 0, .int .i64 0, .slice none 0 0, .int .i64 0, .int .i64 0, .int .i64 0, .int .i64 0, .int .i64 0, .int .i64 0, .int .i64 0, .string ⟨#[]⟩] 26)).cell? ⟨w.heap.size, 10, none⟩ = some (.string M.plan.key) ∧ (wc.alloc (.cells #[.int .i64 0, .int .i64 0, .slice none 0 0, .int .i64 0, .int .i64 0, .int .i64 0, .int .i64 0, .int .i64 0, .int .i64 0, .int .i64 0, .string ⟨#[]⟩] 26)).cell? ⟨b, off + i * 10, none⟩ = some (.int .i64 ds[i].kind) ∧ (wc.alloc (.cells #[.int .i64 0, .int .i64 0, .slice none 0 0, .int .i64 0, .int .i64 0, .int .i64 0, .int .i64 0, .int .i64 0, .int .i64 0, .int .i64 0, .string ⟨#[]⟩] 26)).cell? ⟨b, off + i * 10 + 1, none⟩ = some (.int .i64 ds[i].plan.kind) ∧ (wc.alloc (.cells #[.int .i64 0, .int .i64 0, .slice none 0 0, .int .i64 0, .int .i64 0, .int .i64 0, .int .i64 0, .int .i64 0, .int .i64 0, .int .i64 0, .string ⟨#[]⟩] 26)).cell? ⟨b, off + i * 10 + 2, none⟩ = some (.int .i64 ds[i].plan.phase) ∧ (wc.alloc (.cells #[.int .i64 0, .int .i64 0, .slice none 0 0, .int .i64 0, .int .i64 0, .int .i64 0, .int .i64 0, .int .i64 0, .int .i64 0, .int .i64 0, .string ⟨#[]⟩] 26)).cell? ⟨b, off + i * 10 + 3, none⟩ = some (.int .i64 ds[i].plan.shard) ∧ (wc.alloc (.cells #[.int .i64 0, .int .i64 0, .slice none 0 0, .int .i64 0, .int .i64 0, .int .i64 0, .int .i64 0, .int .i64 0, .int .i64 0, .int .i64 0, .string ⟨#[]⟩] 26)).cell? ⟨b, off + i * 10 + 4, none⟩ = some (.int .i64 ds[i].plan.other) ∧ (wc.alloc (.cells #[.int .i64 0, .int .i64 0, .slice none 0 0, .int .i64 0, .int .i64 0, .int .i64 0, .int .i64 0, .int .i64 0, .int .i64 0, .int .i64 0, .string ⟨#[]⟩] 26)).cell? ⟨b, off + i * 10 + 5, none⟩ = some (.int .i64 ds[i].plan.group) ∧ (wc.alloc (.cells #[.int .i64 0, .int .i64 0, .slice none 0 0, .int .i64 0, .int .i64 0, .int .i64 0, .int .i64 0, .int .i64 0, .int .i64 0, .int .i64 0, .string ⟨#[]⟩] 26)).cell? ⟨b, off + i * 10 + 6, none⟩ = some (.int .i64 ds[i].plan.past) ∧ (wc.alloc (.cells #[.int .i64 0, .int .i64 0, .slice none 0 0, .int .i64 0, .int .i64 0, .int .i64 0, .int .i64 0, .int .i64 0, .int .i64 0, .int .i64 0, .string ⟨#[]⟩] 26)).cell? ⟨b, off + i * 10 + 7, none⟩ = some (.int .i64 ds[i].plan.epoch) ∧ (wc.alloc (.cells #[.int .i64 0, .int .i64 0, .slice none 0 0, .int .i64 0, .int .i64 0, .int .i64 0, .int .i64 0, .int .i64 0, .int .i64 0, .int .i64 0, .string ⟨#[]⟩] 26)).cell? ⟨b, off + i * 10 + 8, none⟩ = some (.string ds[i].plan.key) ∧ (wc.alloc (.cells #[.int .i64 0, .int .i64 0, .slice none 0 0, .int .i64 0, .int .i64 0, .int .i64 0, .int .i64 0, .int .i64 0, .int .i64 0, .int .i64 0, .string ⟨#[]⟩] 26)).cell? ⟨b, off + i * 10 + 9, none⟩ = some (.int .i64 ds[i].phase) from hr2)
             have hr3 : StepCells w.heap.size b (off + i * 10) M (.slice A1 M.sp.length c1) ds[i] (wc.alloc (R.blk (.slice A2 R.sp.length c2))) := hr1.below (al _) (Nat.lt_of_lt_of_le mlt hbc'.size) (Nat.lt_of_lt_of_le blt hbc'.size)
             have HR3 := Lib.hid (show (wc.alloc (.cells #[.int .i64 R.groups, .int .i64 R.last, (.slice A2 R.sp.length c2), .int .i64 R.plan.kind, .int .i64 R.plan.phase, .int .i64 R.plan.shard, .int .i64 R.plan.other, .int .i64 R.plan.group, .int .i64 R.plan.past, .int .i64 R.plan.epoch, .string R.plan.key] 26)).cell? ⟨w.heap.size, 0, none⟩ = some (.int .i64 M.groups) ∧ (wc.alloc (.cells #[.int .i64 R.groups, .int .i64 R.last, (.slice A2 R.sp.length c2), .int .i64 R.plan.kind, .int .i64 R.plan.phase, .int .i64 R.plan.shard, .int .i64 R.plan.other, .int .i64 R.plan.group, .int .i64 R.plan.past, .int .i64 R.plan.epoch, .string R.plan.key] 26)).cell? ⟨w.heap.size, 1, none⟩ = some (.int .i64 M.last) ∧ (wc.alloc (.cells #[.int .i64 R.groups, .int .i64 R.last, (.slice A2 R.sp.length c2), .int .i64 R.plan.kind, .int .i64 R.plan.phase, .int .i64 R.plan.shard, .int .i64 R.plan.other, .int .i64 R.plan.group, .int .i64 R.plan.past, .int .i64 R.plan.epoch, .string R.plan.key] 26)).cell? ⟨w.heap.size, 2, none⟩ = some ((.slice A1 M.sp.length c1)) ∧ (wc.alloc (.cells #[.int .i64 R.groups, .int .i64 R.last, (.slice A2 R.sp.length c2), .int .i64 R.plan.kind, .int .i64 R.plan.phase, .int .i64 R.plan.shard, .int .i64 R.plan.other, .int .i64 R.plan.group, .int .i64 R.plan.past, .int .i64 R.plan.epoch, .string R.plan.key] 26)).cell? ⟨w.heap.size, 3, none⟩ = some (.int .i64 M.plan.kind) ∧ (wc.alloc (.cells #[.int .i64 R.groups, .int .i64 R.last, (.slice A2 R.sp.length c2), .int .i64 R.plan.kind, .int .i64 R.plan.phase, .int .i64 R.plan.shard, .int .i64 R.plan.other, .int .i64 R.plan.group, .int .i64 R.plan.past, .int .i64 R.plan.epoch, .string R.plan.key] 26)).cell? ⟨w.heap.size, 4, none⟩ = some (.int .i64 M.plan.phase) ∧ (wc.alloc (.cells #[.int .i64 R.groups, .int .i64 R.last, (.slice A2 R.sp.length c2), .int .i64 R.plan.kind, .int .i64 R.plan.phase, .int .i64 R.plan.shard, .int .i64 R.plan.other, .int .i64 R.plan.group, .int .i64 R.plan.past, .int .i64 R.plan.epoch, .string R.plan.key] 26)).cell? ⟨w.heap.size, 5, none⟩ = some (.int .i64 M.plan.shard) ∧ (wc.alloc (.cells #[.int .i64 R.groups, .int .i64 R.last, (.slice A2 R.sp.length c2), .int .i64 R.plan.kind, .int .i64 R.plan.phase, .int .i64 R.plan.shard, .int .i64 R.plan.other, .int .i64 R.plan.group, .int .i64 R.plan.past, .int .i64 R.plan.epoch, .string R.plan.key] 26)).cell? ⟨w.heap.size, 6, none⟩ = some (.int .i64 M.plan.other) ∧ (wc.alloc (.cells #[.int .i64 R.groups, .int .i64 R.last, (.slice A2 R.sp.length c2), .int .i64 R.plan.kind, .int .i64 R.plan.phase, .int .i64 R.plan.shard, .int .i64 R.plan.other, .int .i64 R.plan.group, .int .i64 R.plan.past, .int .i64 R.plan.epoch, .string R.plan.key] 26)).cell? ⟨w.heap.size, 7, none⟩ = some (.int .i64 M.plan.group) ∧ (wc.alloc (.cells #[.int .i64 R.groups, .int .i64 R.last, (.slice A2 R.sp.length c2), .int .i64 R.plan.kind, .int .i64 R.plan.phase, .int .i64 R.plan.shard, .int .i64 R.plan.other, .int .i64 R.plan.group, .int .i64 R.plan.past, .int .i64 R.plan.epoch, .string R.plan.key] 26)).cell? ⟨w.heap.size, 8, none⟩ = some (.int .i64 M.plan.past) ∧ (wc.alloc (.cells #[.int .i64 R.groups, .int .i64 R.last, (.slice A2 R.sp.length c2), .int .i64 R.plan.kind, .int .i64 R.plan.phase, .int .i64 R.plan.shard, .int .i64 R.plan.other, .int .i64 R.plan.group, .int .i64 R.plan.past, .int .i64 R.plan.epoch, .string R.plan.key] 26)).cell? ⟨w.heap.size, 9, none⟩ = some (.int .i64 M.plan.epoch) ∧ (wc.alloc (.cells #[.int .i64 R.groups, .int .i64 R.last, (.slice A2 R.sp.length c2), .int .i64 R.plan.kind, .int .i64 R.plan.phase, .int .i64 R.plan.shard, .int .i64 R.plan.other, .int .i64 R.plan.group, .int .i64 R.plan.past, .int .i64 R.plan.epoch, .string R.plan.key] 26)).cell? ⟨w.heap.size, 10, none⟩ = some (.string M.plan.key) ∧ (wc.alloc (.cells #[.int .i64 R.groups, .int .i64 R.last, (.slice A2 R.sp.length c2), .int .i64 R.plan.kind, .int .i64 R.plan.phase, .int .i64 R.plan.shard, .int .i64 R.plan.other, .int .i64 R.plan.group, .int .i64 R.plan.past, .int .i64 R.plan.epoch, .string R.plan.key] 26)).cell? ⟨b, off + i * 10, none⟩ = some (.int .i64 ds[i].kind) ∧ (wc.alloc (.cells #[.int .i64 R.groups, .int .i64 R.last, (.slice A2 R.sp.length c2), .int .i64 R.plan.kind, .int .i64 R.plan.phase, .int .i64 R.plan.shard, .int .i64 R.plan.other, .int .i64 R.plan.group, .int .i64 R.plan.past, .int .i64 R.plan.epoch, .string R.plan.key] 26)).cell? ⟨b, off + i * 10 + 1, none⟩ = some (.int .i64 ds[i].plan.kind) ∧ (wc.alloc (.cells #[.int .i64 R.groups, .int .i64 R.last, (.slice A2 R.sp.length c2), .int .i64 R.plan.kind, .int .i64 R.plan.phase, .int .i64 R.plan.shard, .int .i64 R.plan.other, .int .i64 R.plan.group, .int .i64 R.plan.past, .int .i64 R.plan.epoch, .string R.plan.key] 26)).cell? ⟨b, off + i * 10 + 2, none⟩ = some (.int .i64 ds[i].plan.phase) ∧ (wc.alloc (.cells #[.int .i64 R.groups, .int .i64 R.last, (.slice A2 R.sp.length c2), .int .i64 R.plan.kind, .int .i64 R.plan.phase, .int .i64 R.plan.shard, .int .i64 R.plan.other, .int .i64 R.plan.group, .int .i64 R.plan.past, .int .i64 R.plan.epoch, .string R.plan.key] 26)).cell? ⟨b, off + i * 10 + 3, none⟩ = some (.int .i64 ds[i].plan.shard) ∧ (wc.alloc (.cells #[.int .i64 R.groups, .int .i64 R.last, (.slice A2 R.sp.length c2), .int .i64 R.plan.kind, .int .i64 R.plan.phase, .int .i64 R.plan.shard, .int .i64 R.plan.other, .int .i64 R.plan.group, .int .i64 R.plan.past, .int .i64 R.plan.epoch, .string R.plan.key] 26)).cell? ⟨b, off + i * 10 + 4, none⟩ = some (.int .i64 ds[i].plan.other) ∧ (wc.alloc (.cells #[.int .i64 R.groups, .int .i64 R.last, (.slice A2 R.sp.length c2), .int .i64 R.plan.kind, .int .i64 R.plan.phase, .int .i64 R.plan.shard, .int .i64 R.plan.other, .int .i64 R.plan.group, .int .i64 R.plan.past, .int .i64 R.plan.epoch, .string R.plan.key] 26)).cell? ⟨b, off + i * 10 + 5, none⟩ = some (.int .i64 ds[i].plan.group) ∧ (wc.alloc (.cells #[.int .i64 R.groups, .int .i64 R.last, (.slice A2 R.sp.length c2), .int .i64 R.plan.kind, .int .i64 R.plan.phase, .int .i64 R.plan.shard, .int .i64 R.plan.other, .int .i64 R.plan.group, .int .i64 R.plan.past, .int .i64 R.plan.epoch, .string R.plan.key] 26)).cell? ⟨b, off + i * 10 + 6, none⟩ = some (.int .i64 ds[i].plan.past) ∧ (wc.alloc (.cells #[.int .i64 R.groups, .int .i64 R.last, (.slice A2 R.sp.length c2), .int .i64 R.plan.kind, .int .i64 R.plan.phase, .int .i64 R.plan.shard, .int .i64 R.plan.other, .int .i64 R.plan.group, .int .i64 R.plan.past, .int .i64 R.plan.epoch, .string R.plan.key] 26)).cell? ⟨b, off + i * 10 + 7, none⟩ = some (.int .i64 ds[i].plan.epoch) ∧ (wc.alloc (.cells #[.int .i64 R.groups, .int .i64 R.last, (.slice A2 R.sp.length c2), .int .i64 R.plan.kind, .int .i64 R.plan.phase, .int .i64 R.plan.shard, .int .i64 R.plan.other, .int .i64 R.plan.group, .int .i64 R.plan.past, .int .i64 R.plan.epoch, .string R.plan.key] 26)).cell? ⟨b, off + i * 10 + 8, none⟩ = some (.string ds[i].plan.key) ∧ (wc.alloc (.cells #[.int .i64 R.groups, .int .i64 R.last, (.slice A2 R.sp.length c2), .int .i64 R.plan.kind, .int .i64 R.plan.phase, .int .i64 R.plan.shard, .int .i64 R.plan.other, .int .i64 R.plan.group, .int .i64 R.plan.past, .int .i64 R.plan.epoch, .string R.plan.key] 26)).cell? ⟨b, off + i * 10 + 9, none⟩ = some (.int .i64 ds[i].phase) from hr3)
             have hbw2 : Below wo.heap.size wo (wc.alloc (.cells #[.int .i64 R.groups, .int .i64 R.last, (.slice A2 R.sp.length c2), .int .i64 R.plan.kind, .int .i64 R.plan.phase, .int .i64 R.plan.shard, .int .i64 R.plan.other, .int .i64 R.plan.group, .int .i64 R.plan.past, .int .i64 R.plan.epoch, .string R.plan.key] 26)) := hbc'.trans ((al (w := wc) (R.blk (.slice A2 R.sp.length c2))).mono hbc'.size)
             have hsw : (wc.alloc (.cells #[.int .i64 R.groups, .int .i64 R.last, (.slice A2 R.sp.length c2), .int .i64 R.plan.kind, .int .i64 R.plan.phase, .int .i64 R.plan.shard, .int .i64 R.plan.other, .int .i64 R.plan.group, .int .i64 R.plan.past, .int .i64 R.plan.epoch, .string R.plan.key] 26)).heap[wc.heap.size]? = some (R.blk (.slice A2 R.sp.length c2)) := heap_alloc_new wc _
             have hiw : MapIn (wc.alloc (.cells #[.int .i64 R.groups, .int .i64 R.last, (.slice A2 R.sp.length c2), .int .i64 R.plan.kind, .int .i64 R.plan.phase, .int .i64 R.plan.shard, .int .i64 R.plan.other, .int .i64 R.plan.group, .int .i64 R.plan.past, .int .i64 R.plan.epoch, .string R.plan.key] 26)) A2 c2 R := hI2.below (al (w := wc) (R.blk (.slice A2 R.sp.length c2)))
             have Hbw := Lib.hid hbw2; have Hsw := Lib.hid hsw; have Hiw := Lib.hid hiw; have Hgs := Lib.hid hbc'.size
             clear hr1 hr2 hr3 hbc hbc' hbw2 hsw hiw hI2)
          | (go_at_call 31
             refine (HG.out (wo.alloc (.cells #[.int .i64 0, .int .i64 0, .slice none 0 0, .int .i64 0, .int .i64 0, .int .i64 0, .int .i64 0, .int .i64 0, .int .i64 0, .int .i64 0, .string ⟨#[]⟩] 26)).drew (HI.out.below Hbz.out)).mono ?_
             rintro e wc ⟨A2, c2, rfl, hI2, hbc⟩
             have hbc' : Below wo.heap.size wo wc := Hbz.out.trans (hbc.mono Hbz.out.size)
             have hr1 : StepCells w.heap.size b (off + i * 10) M (.slice A1 M.sp.length c1) ds[i] wc := StepCells.below (w := (wo.alloc (.cells #[.int .i64 0, .int .i64 0, .slice none 0 0, .int .i64 0, .int .i64 0, .int .i64 0, .int .i64 0, .int .i64 0, .int .i64 0, .int .i64 0, .string ⟨#[]⟩] 26)).drew) HRz.out hbc (Nat.lt_of_lt_of_le mlt Hbz.out.size) (Nat.lt_of_lt_of_le blt Hbz.out.size)
             have HR1 := Lib.hid (show wc.cell? ⟨w.heap.size, 0, none⟩ = some (.int .i64 M.groups) ∧ wc.cell? ⟨w.heap.size, 1, none⟩ = some (.int .i64 M.last) ∧ wc.cell? ⟨w.heap.size, 2, none⟩ = some ((.slice A1 M.sp.length c1)) ∧ wc.cell? ⟨w.heap.size, 3, none⟩ = some (.int .i64 M.plan.kind) ∧ wc.cell? ⟨w.heap.size, 4, none⟩ = some (.int .i64 M.plan.phase) ∧ wc.cell? ⟨w.heap.size, 5, none⟩ = some (.int .i64 M.plan.shard) ∧ wc.cell? ⟨w.heap.size, 6, none⟩ = some (.int .i64 M.plan.other) ∧ wc.cell? ⟨w.heap.size, 7, none⟩ = some (.int .i64 M.plan.group) ∧ wc.cell? ⟨w.heap.size, 8, none⟩ = some (.int .i64 M.plan.past) ∧ wc.cell? ⟨w.heap.size, 9, none⟩ = some (.int .i64 M.plan.epoch) ∧ wc.cell? ⟨w.heap.size, 10, none⟩ = some (.string M.plan.key) ∧ wc.cell? ⟨b, off + i * 10, none⟩ = some (.int .i64 ds[i].kind) ∧ wc.cell? ⟨b, off + i * 10 + 1, none⟩ = some (.int .i64 ds[i].plan.kind) ∧ wc.cell? ⟨b, off + i * 10 + 2, none⟩ = some (.int .i64 ds[i].plan.phase) ∧ wc.cell? ⟨b, off + i * 10 + 3, none⟩ = some (.int .i64 ds[i].plan.shard) ∧ wc.cell? ⟨b, off + i * 10 + 4, none⟩ = some (.int .i64 ds[i].plan.other) ∧ wc.cell? ⟨b, off + i * 10 + 5, none⟩ = some (.int .i64 ds[i].plan.group) ∧ wc.cell? ⟨b, off + i * 10 + 6, none⟩ = some (.int .i64 ds[i].plan.past) ∧ wc.cell? ⟨b, off + i * 10 + 7, none⟩ = some (.int .i64 ds[i].plan.epoch) ∧ wc.cell? ⟨b, off + i * 10 + 8, none⟩ = some (.string ds[i].plan.key) ∧ wc.cell? ⟨b, off + i * 10 + 9, none⟩ = some (.int .i64 ds[i].phase) from hr1)
             have hzc := blk_below hbc (lt_of_some Hzz.out) Hzz.out
             obtain ⟨z0, z1, z2, z3, z4, z5, z6, z7, z8, z9, z10, zlt⟩ := map_cells hzc
             have fz0 := fz_blk hzc 0; have fz1 := fz_blk hzc 1; have fz2 := fz_blk hzc 2; have fz3 := fz_blk hzc 3; have fz4 := fz_blk hzc 4; have fz5 := fz_blk hzc 5; have fz6 := fz_blk hzc 6; have fz7 := fz_blk hzc 7; have fz8 := fz_blk hzc 8; have fz9 := fz_blk hzc 9; have fz10 := fz_blk hzc 10
             simp only [zeroA, zeroP] at z0 z1 z2 z3 z4 z5 z6 z7 z8 z9 z10
             have hon : Only (· = wo.heap.size) wc (((((((((((wc.setCell ⟨wo.heap.size, 0, none⟩ (.int .i64 R.groups)).setCell ⟨wo.heap.size, 1, none⟩ (.int .i64 R.last)).setCell ⟨wo.heap.size, 2, none⟩ ((.slice A2 R.sp.length c2))).setCell ⟨wo.heap.size, 3, none⟩ (.int .i64 R.plan.kind)).setCell ⟨wo.heap.size, 4, none⟩ (.int .i64 R.plan.phase)).setCell ⟨wo.heap.size, 5, none⟩ (.int .i64 R.plan.shard)).setCell ⟨wo.heap.size, 6, none⟩ (.int .i64 R.plan.other)).setCell ⟨wo.heap.size, 7, none⟩ (.int .i64 R.plan.group)).setCell ⟨wo.heap.size, 8, none⟩ (.int .i64 R.plan.past)).setCell ⟨wo.heap.size, 9, none⟩ (.int .i64 R.plan.epoch)).setCell ⟨wo.heap.size, 10, none⟩ (.string R.plan.key)) := (((((((((((only_setCell wc ⟨wo.heap.size, 0, none⟩ (.int .i64 R.groups)).trans (only_setCell (wc.setCell ⟨wo.heap.size, 0, none⟩ (.int .i64 R.groups)) ⟨wo.heap.size, 1, none⟩ (.int .i64 R.last)) (fun _ _ h => h)).trans (only_setCell ((wc.setCell ⟨wo.heap.size, 0, none⟩ (.int .i64 R.groups)).setCell ⟨wo.heap.size, 1, none⟩ (.int .i64 R.last)) ⟨wo.heap.size, 2, none⟩ ((.slice A2 R.sp.length c2))) (fun _ _ h => h)).trans (only_setCell (((wc.setCell ⟨wo.heap.size, 0, none⟩ (.int .i64 R.groups)).setCell ⟨wo.heap.size, 1, none⟩ (.int .i64 R.last)).setCell ⟨wo.heap.size, 2, none⟩ ((.slice A2 R.sp.length c2))) ⟨wo.heap.size, 3, none⟩ (.int .i64 R.plan.kind)) (fun _ _ h => h)).trans (only_setCell ((((wc.setCell ⟨wo.heap.size, 0, none⟩ (.int .i64 R.groups)).setCell ⟨wo.heap.size, 1, none⟩ (.int .i64 R.last)).setCell ⟨wo.heap.size, 2, none⟩ ((.slice A2 R.sp.length c2))).setCell ⟨wo.heap.size, 3, none⟩ (.int .i64 R.plan.kind)) ⟨wo.heap.size, 4, none⟩ (.int .i64 R.plan.phase)) (fun _ _ h => h)).trans (only_setCell (((((wc.setCell ⟨wo.heap.size, 0, none⟩ (.int .i64 R.groups)).setCell ⟨wo.heap.size, 1, none⟩ (.int .i64 R.last)).setCell ⟨wo.heap.size, 2, none⟩ ((.slice A2 R.sp.length c2))).setCell ⟨wo.heap.size, 3, none⟩ (.int .i64 R.plan.kind)).setCell ⟨wo.heap.size, 4, none⟩ (.int .i64 R.plan.phase)) ⟨wo.heap.size, 5, none⟩ (.int .i64 R.plan.shard)) (fun _ _ h => h)).trans (only_setCell ((((((wc.setCell ⟨wo.heap.size, 0, none⟩ (.int .i64 R.groups)).setCell ⟨wo.heap.size, 1, none⟩ (.int .i64 R.last)).setCell ⟨wo.heap.size, 2, none⟩ ((.slice A2 R.sp.length c2))).setCell ⟨wo.heap.size, 3, none⟩ (.int .i64 R.plan.kind)).setCell ⟨wo.heap.size, 4, none⟩ (.int .i64 R.plan.phase)).setCell ⟨wo.heap.size, 5, none⟩ (.int .i64 R.plan.shard)) ⟨wo.heap.size, 6, none⟩ (.int .i64 R.plan.other)) (fun _ _ h => h)).trans (only_setCell (((((((wc.setCell ⟨wo.heap.size, 0, none⟩ (.int .i64 R.groups)).setCell ⟨wo.heap.size, 1, none⟩ (.int .i64 R.last)).setCell ⟨wo.heap.size, 2, none⟩ ((.slice A2 R.sp.length c2))).setCell ⟨wo.heap.size, 3, none⟩ (.int .i64 R.plan.kind)).setCell ⟨wo.heap.size, 4, none⟩ (.int .i64 R.plan.phase)).setCell ⟨wo.heap.size, 5, none⟩ (.int .i64 R.plan.shard)).setCell ⟨wo.heap.size, 6, none⟩ (.int .i64 R.plan.other)) ⟨wo.heap.size, 7, none⟩ (.int .i64 R.plan.group)) (fun _ _ h => h)).trans (only_setCell ((((((((wc.setCell ⟨wo.heap.size, 0, none⟩ (.int .i64 R.groups)).setCell ⟨wo.heap.size, 1, none⟩ (.int .i64 R.last)).setCell ⟨wo.heap.size, 2, none⟩ ((.slice A2 R.sp.length c2))).setCell ⟨wo.heap.size, 3, none⟩ (.int .i64 R.plan.kind)).setCell ⟨wo.heap.size, 4, none⟩ (.int .i64 R.plan.phase)).setCell ⟨wo.heap.size, 5, none⟩ (.int .i64 R.plan.shard)).setCell ⟨wo.heap.size, 6, none⟩ (.int .i64 R.plan.other)).setCell ⟨wo.heap.size, 7, none⟩ (.int .i64 R.plan.group)) ⟨wo.heap.size, 8, none⟩ (.int .i64 R.plan.past)) (fun _ _ h => h)).trans (only_setCell (((((((((wc.setCell ⟨wo.heap.size, 0, none⟩ (.int .i64 R.groups)).setCell ⟨wo.heap.size, 1, none⟩ (.int .i64 R.last)).setCell ⟨wo.heap.size, 2, none⟩ ((.slice A2 R.sp.length c2))).setCell ⟨wo.heap.size, 3, none⟩ (.int .i64 R.plan.kind)).setCell ⟨wo.heap.size, 4, none⟩ (.int .i64 R.plan.phase)).setCell ⟨wo.heap.size, 5, none⟩ (.int .i64 R.plan.shard)).setCell ⟨wo.heap.size, 6, none⟩ (.int .i64 R.plan.other)).setCell ⟨wo.heap.size, 7, none⟩ (.int .i64 R.plan.group)).setCell ⟨wo.heap.size, 8, none⟩ (.int .i64 R.plan.past)) ⟨wo.heap.size, 9, none⟩ (.int .i64 R.plan.epoch)) (fun _ _ h => h)).trans (only_setCell ((((((((((wc.setCell ⟨wo.heap.size, 0, none⟩ (.int .i64 R.groups)).setCell ⟨wo.heap.size, 1, none⟩ (.int .i64 R.last)).setCell ⟨wo.heap.size, 2, none⟩ ((.slice A2 R.sp.length c2))).setCell ⟨wo.heap.size, 3, none⟩ (.int .i64 R.plan.kind)).setCell ⟨wo.heap.size, 4, none⟩ (.int .i64 R.plan.phase)).setCell ⟨wo.heap.size, 5, none⟩ (.int .i64 R.plan.shard)).setCell ⟨wo.heap.size, 6, none⟩ (.int .i64 R.plan.other)).setCell ⟨wo.heap.size, 7, none⟩ (.int .i64 R.plan.group)).setCell ⟨wo.heap.size, 8, none⟩ (.int .i64 R.plan.past)).setCell ⟨wo.heap.size, 9, none⟩ (.int .i64 R.plan.epoch)) ⟨wo.heap.size, 10, none⟩ (.string R.plan.key)) (fun _ _ h => h))
             have hr2 : StepCells w.heap.size b (off + i * 10) M (.slice A1 M.sp.length c1) ds[i] (((((((((((wc.setCell ⟨wo.heap.size, 0, none⟩ (.int .i64 R.groups)).setCell ⟨wo.heap.size, 1, none⟩ (.int .i64 R.last)).setCell ⟨wo.heap.size, 2, none⟩ ((.slice A2 R.sp.length c2))).setCell ⟨wo.heap.size, 3, none⟩ (.int .i64 R.plan.kind)).setCell ⟨wo.heap.size, 4, none⟩ (.int .i64 R.plan.phase)).setCell ⟨wo.heap.size, 5, none⟩ (.int .i64 R.plan.shard)).setCell ⟨wo.heap.size, 6, none⟩ (.int .i64 R.plan.other)).setCell ⟨wo.heap.size, 7, none⟩ (.int .i64 R.plan.group)).setCell ⟨wo.heap.size, 8, none⟩ (.int .i64 R.plan.past)).setCell ⟨wo.heap.size, 9, none⟩ (.int .i64 R.plan.epoch)).setCell ⟨wo.heap.size, 10, none⟩ (.string R.plan.key)) := hr1.below (hon.below (B := wo.heap.size) (Below.refl _ _) (fun q hq => by omega) hbc'.size) mlt blt
             have HR2 := Lib.hid (show (((((((((((wc.setCell ⟨wo.heap.size, 0, none⟩ (.int .i64 R.groups)).setCell ⟨wo.heap.size, 1, none⟩ (.int .i64 R.last)).setCell ⟨wo.heap.size, 2, none⟩ ((.slice A2 R.sp.length c2))).setCell ⟨wo.heap.size, 3, none⟩ (.int .i64 R.plan.kind)).setCell ⟨wo.heap.size, 4, none⟩ (.int .i64 R.plan.phase)).setCell ⟨wo.heap.size, 5, none⟩ (.int .i64 R.plan.shard)).setCell ⟨wo.heap.size, 6, none⟩ (.int .i64 R.plan.other)).setCell ⟨wo.heap.size, 7, none⟩ (.int .i64 R.plan.group)).setCell ⟨wo.heap.size, 8, none⟩ (.int .i64 R.plan.past)).setCell ⟨wo.heap.size, 9, none⟩ (.int .i64 R.plan.epoch)).setCell ⟨wo.heap.size, 10, none⟩ (.string R.plan.key)).cell? ⟨w.heap.size, 0, none⟩ = some (.int .i64 M.groups) ∧ (((((((((((wc.setCell ⟨wo.heap.size, 0, none⟩ (.int .i64 R.groups)).setCell ⟨wo.heap.size, 1, none⟩ (.int .i64 R.last)).setCell ⟨wo.heap.size, 2, none⟩ ((.slice A2 R.sp.length c2))).setCell ⟨wo.heap.size, 3, none⟩ (.int .i64 R.plan.kind)).setCell ⟨wo.heap.size, 4, none⟩ (.int .i64 R.plan.phase)).setCell ⟨wo.heap.size, 5, none⟩ (.int .i64 R.plan.shard)).setCell ⟨wo.heap.size, 6, none⟩ (.int .i64 R.plan.other)).setCell ⟨wo.heap.size, 7, none⟩ (.int .i64 R.plan.group)).setCell ⟨wo.heap.size, 8, none⟩ (.int .i64 R.plan.past)).setCell ⟨wo.heap.size, 9, none⟩ (.int .i64 R.plan.epoch)).setCell ⟨wo.heap.size, 10, none⟩ (.string R.plan.key)).cell? ⟨w.heap.size, 1, none⟩ = some (.int .i64 M.last) ∧ (((((((((((wc.setCell ⟨wo.heap.size, 0, none⟩ (.int .i64 R.groups)).setCell ⟨wo.heap.size, 1, none⟩ (.int .i64 R.last)).setCell ⟨wo.heap.size, 2, none⟩ ((.slice A2 R.sp.length c2))).setCell ⟨wo.heap.size, 3, none⟩ (.int .i64 R.plan.kind)).setCell ⟨wo.heap.size, 4, none⟩ (.int .i64 R.plan.phase)).setCell ⟨wo.heap.size, 5, none⟩ (.int .i64 R.plan.shard)).setCell ⟨wo.heap.size, 6, none⟩ (.int .i64 R.plan.other)).setCell ⟨wo.heap.size, 7, none⟩ (.int .i64 R.plan.group)).setCell ⟨wo.heap.size, 8, none⟩ (.int .i64 R.plan.past)).setCell ⟨wo.heap.size, 9, none⟩ (.int .i64 R.plan.epoch)).setCell ⟨wo.heap.size, 10, none⟩ (.string R.plan.key)).cell? ⟨w.heap.size, 2, none⟩ = some ((.slice A1 M.sp.length c1)) ∧ (((((((((((wc.setCell ⟨wo.heap.size, 0, none⟩ (.int .i64 R.groups)).setCell ⟨wo.heap.size, 1, none⟩ (.int .i64 R.last)).setCell ⟨wo.heap.size, 2, none⟩ ((.slice A2 R.sp.length c2))).setCell ⟨wo.heap.size, 3, none⟩ (.int .i64 R.plan.kind)).setCell ⟨wo.heap.size, 4, none⟩ (.int .i64 R.plan.phase)).setCell ⟨wo.heap.size, 5, none⟩ (.int .i64 R.plan.shard)).setCell ⟨wo.heap.size, 6, none⟩ (.int .i64 R.plan.other)).setCell ⟨wo.heap.size, 7, none⟩ (.int .i64 R.plan.group)).setCell ⟨wo.heap.size, 8, none⟩ (.int .i64 R.plan.past)).setCell ⟨wo.heap.size, 9, none⟩ (.int .i64 R.plan.epoch)).setCell ⟨wo.heap.size, 10, none⟩ (.string R.plan.key)).cell? ⟨w.heap.size, 3, none⟩ = some (.int .i64 M.plan.kind) ∧ (((((((((((wc.setCell ⟨wo.heap.size, 0, none⟩ (.int .i64 R.groups)).setCell ⟨wo.heap.size, 1, none⟩ (.int .i64 R.last)).setCell ⟨wo.heap.size, 2, none⟩ ((.slice A2 R.sp.length c2))).setCell ⟨wo.heap.size, 3, none⟩ (.int .i64 R.plan.kind)).setCell ⟨wo.heap.size, 4, none⟩ (.int .i64 R.plan.phase)).setCell ⟨wo.heap.size, 5, none⟩ (.int .i64 R.plan.shard)).setCell ⟨wo.heap.size, 6, none⟩ (.int .i64 R.plan.other)).setCell ⟨wo.heap.size, 7, none⟩ (.int .i64 R.plan.group)).setCell ⟨wo.heap.size, 8, none⟩ (.int .i64 R.plan.past)).setCell ⟨wo.heap.size, 9, none⟩ (.int .i64 R.plan.epoch)).setCell ⟨wo.heap.size, 10, none⟩ (.string R.plan.key)).cell? ⟨w.heap.size, 4, none⟩ = some (.int .i64 M.plan.phase) ∧ (((((((((((wc.setCell ⟨wo.heap.size, 0, none⟩ (.int .i64 R.groups)).setCell ⟨wo.heap.size, 1, none⟩ (.int .i64 R.last)).setCell ⟨wo.heap.size, 2, none⟩ ((.slice A2 R.sp.length c2))).setCell ⟨wo.heap.size, 3, none⟩ (.int .i64 R.plan.kind)).setCell ⟨wo.heap.size, 4, none⟩ (.int .i64 R.plan.phase)).setCell ⟨wo.heap.size, 5, none⟩ (.int .i64 R.plan.shard)).setCell ⟨wo.heap.size, 6, none⟩ (.int .i64 R.plan.other)).setCell ⟨wo.heap.size, 7, none⟩ (.int .i64 R.plan.group)).setCell ⟨wo.heap.size, 8, none⟩ (.int .i64 R.plan.past)).setCell ⟨wo.heap.size, 9, none⟩ (.int .i64 R.plan.epoch)).setCell ⟨wo.heap.size, 10, none⟩ (.string R.plan.key)).cell? ⟨w.heap.size, 5, none⟩ = some (.int .i64 M.plan.shard) ∧ (((((((((((wc.setCell ⟨wo.heap.size, 0, none⟩ (.int .i64 R.groups)).setCell ⟨wo.heap.size, 1, none⟩ (.int .i64 R.last)).setCell ⟨wo.heap.size, 2, none⟩ ((.slice A2 R.sp.length c2))).setCell ⟨wo.heap.size, 3, none⟩ (.int .i64 R.plan.kind)).setCell ⟨wo.heap.size, 4, none⟩ (.int .i64 R.plan.phase)).setCell ⟨wo.heap.size, 5, none⟩ (.int .i64 R.plan.shard)).setCell ⟨wo.heap.size, 6, none⟩ (.int .i64 R.plan.other)).setCell ⟨wo.heap.size, 7, none⟩ (.int .i64 R.plan.group)).setCell ⟨wo.heap.size, 8, none⟩ (.int .i64 R.plan.past)).setCell ⟨wo.heap.size, 9, none⟩ (.int .i64 R.plan.epoch)).setCell ⟨wo.heap.size, 10, none⟩ (.string R.plan.key)).cell? ⟨w.heap.size, 6, none⟩ = some (.int .i64 M.plan.other) ∧ (((((((((((wc.setCell ⟨wo.heap.size, 0, none⟩ (.int .i64 R.groups)).setCell ⟨wo.heap.size, 1, none⟩ (.int .i64 R.last)).setCell ⟨wo.heap.size, 2, none⟩ ((.slice A2 R.sp.length c2))).setCell ⟨wo.heap.size, 3, none⟩ (.int .i64 R.plan.kind)).setCell ⟨wo.heap.size, 4, none⟩ (.int .i64 R.plan.phase)).setCell ⟨wo.heap.size, 5, none⟩ (.int .i64 R.plan.shard)).setCell ⟨wo.heap.size, 6, none⟩ (.int .i64 R.plan.other)).setCell ⟨wo.heap.size, 7, none⟩ (.int .i64 R.plan.group)).setCell ⟨wo.heap.size, 8, none⟩ (.int .i64 R.plan.past)).setCell ⟨wo.heap.size, 9, none⟩ (.int .i64 R.plan.epoch)).setCell ⟨wo.heap.size, 10, none⟩ (.string R.plan.key)).cell? ⟨w.heap.size, 7, none⟩ = some (.int .i64 M.plan.group) ∧ (((((((((((wc.setCell ⟨wo.heap.size, 0, none⟩ (.int .i64 R.groups)).setCell ⟨wo.heap.size, 1, none⟩ (.int .i64 R.last)).setCell ⟨wo.heap.size, 2, none⟩ ((.slice A2 R.sp.length c2))).setCell ⟨wo.heap.size, 3, none⟩ (.int .i64 R.plan.kind)).setCell ⟨wo.heap.size, 4, none⟩ (.int .i64 R.plan.phase)).setCell ⟨wo.heap.size, 5, none⟩ (.int .i64 R.plan.shard)).setCell ⟨wo.heap.size, 6, none⟩ (.int .i64 R.plan.other)).setCell ⟨wo.heap.size, 7, none⟩ (.int .i64 R.plan.group)).setCell ⟨wo.heap.size, 8, none⟩ (.int .i64 R.plan.past)).setCell ⟨wo.heap.size, 9, none⟩ (.int .i64 R.plan.epoch)).setCell ⟨wo.heap.size, 10, none⟩ (.string R.plan.key)).cell? ⟨w.heap.size, 8, none⟩ = some (.int .i64 M.plan.past) ∧ (((((((((((wc.setCell ⟨wo.heap.size, 0, none⟩ (.int .i64 R.groups)).setCell ⟨wo.heap.size, 1, none⟩ (.int .i64 R.last)).setCell ⟨wo.heap.size, 2, none⟩ ((.slice A2 R.sp.length c2))).setCell ⟨wo.heap.size, 3, none⟩ (.int .i64 R.plan.kind)).setCell ⟨wo.heap.size, 4, none⟩ (.int .i64 R.plan.phase)).setCell ⟨wo.heap.size, 5, none⟩ (.int .i64 R.plan.shard)).setCell ⟨wo.heap.size, 6, none⟩ (.int .i64 R.plan.other)).setCell ⟨wo.heap.size, 7, none⟩ (.int .i64 R.plan.group)).setCell ⟨wo.heap.size, 8, none⟩ (.int .i64 R.plan.past)).setCell ⟨wo.heap.size, 9, none⟩ (.int .i64 R.plan.epoch)).setCell ⟨wo.heap.size, 10, none⟩ (.string R.plan.key)).cell? ⟨w.heap.size, 9, none⟩ = some (.int .i64 M.plan.epoch) ∧ (((((((((((wc.setCell ⟨wo.heap.size, 0, none⟩ (.int .i64 R.groups)).setCell ⟨wo.heap.size, 1, none⟩ (.int .i64 R.last)).setCell ⟨wo.heap.size, 2, none⟩ ((.slice A2 R.sp.length c2))).setCell ⟨wo.heap.size, 3, none⟩ (.int .i64 R.plan.kind)).setCell ⟨wo.heap.size, 4, none⟩ (.int .i64 R.plan.phase)).setCell ⟨wo.heap.size, 5, none⟩ (.int .i64 R.plan.shard)).setCell ⟨wo.heap.size, 6, none⟩ (.int .i64 R.plan.other)).setCell ⟨wo.heap.size, 7, none⟩ (.int .i64 R.plan.group)).setCell ⟨wo.heap.size, 8, none⟩ (.int .i64 R.plan.past)).setCell ⟨wo.heap.size, 9, none⟩ (.int .i64 R.plan.epoch)).setCell ⟨wo.heap.size, 10, none⟩ (.string R.plan.key)).cell? ⟨w.heap.size, 10, none⟩ = some (.string M.plan.key) ∧ (((((((((((wc.setCell ⟨wo.heap.size, 0, none⟩ (.int .i64 R.groups)).setCell ⟨wo.heap.size, 1, none⟩ (.int .i64 R.last)).setCell ⟨wo.heap.size, 2, none⟩ ((.slice A2 R.sp.length c2))).setCell ⟨wo.heap.size, 3, none⟩ (.int .i64 R.plan.kind)).setCell ⟨wo.heap.size, 4, none⟩ (.int .i64 R.plan.phase)).setCell ⟨wo.heap.size, 5, none⟩ (.int .i64 R.plan.shard)).setCell ⟨wo.heap.size, 6, none⟩ (.int .i64 R.plan.other)).setCell ⟨wo.heap.size, 7, none⟩ (.int .i64 R.plan.group)).setCell ⟨wo.heap.size, 8, none⟩ (.int .i64 R.plan.past)).setCell ⟨wo.heap.size, 9, none⟩ (.int .i64 R.plan.epoch)).setCell ⟨wo.heap.size, 10, none⟩ (.string R.plan.key)).cell? ⟨b, off + i * 10, none⟩ = some (.int .i64 ds[i].kind) ∧ (((((((((((wc.setCell ⟨wo.heap.size, 0, none⟩ (.int .i64 R.groups)).setCell ⟨wo.heap.size, 1, none⟩ (.int .i64 R.last)).setCell ⟨wo.heap.size, 2, none⟩ ((.slice A2 R.sp.length c2))).setCell ⟨wo.heap.size, 3, none⟩ (.int .i64 R.plan.kind)).setCell ⟨wo.heap.size, 4, none⟩ (.int .i64 R.plan.phase)).setCell ⟨wo.heap.size, 5, none⟩ (.int .i64 R.plan.shard)).setCell ⟨wo.heap.size, 6, none⟩ (.int .i64 R.plan.other)).setCell ⟨wo.heap.size, 7, none⟩ (.int .i64 R.plan.group)).setCell ⟨wo.heap.size, 8, none⟩ (.int .i64 R.plan.past)).setCell ⟨wo.heap.size, 9, none⟩ (.int .i64 R.plan.epoch)).setCell ⟨wo.heap.size, 10, none⟩ (.string R.plan.key)).cell? ⟨b, off + i * 10 + 1, none⟩ = some (.int .i64 ds[i].plan.kind) ∧ (((((((((((wc.setCell ⟨wo.heap.size, 0, none⟩ (.int .i64 R.groups)).setCell ⟨wo.heap.size, 1, none⟩ (.int .i64 R.last)).setCell ⟨wo.heap.size, 2, none⟩ ((.slice A2 R.sp.length c2))).setCell ⟨wo.heap.size, 3, none⟩ (.int .i64 R.plan.kind)).setCell ⟨wo.heap.size, 4, none⟩ (.int .i64 R.plan.phase)).setCell ⟨wo.heap.size, 5, none⟩ (.int .i64 R.plan.shard)).setCell ⟨wo.heap.size, 6, none⟩ (.int .i64 R.plan.other)).setCell ⟨wo.heap.size, 7, none⟩ (.int .i64 R.plan.group)).setCell ⟨wo.heap.size, 8, none⟩ (.int .i64 R.plan.past)).setCell ⟨wo.heap.size, 9, none⟩ (.int .i64 R.plan.epoch)).setCell ⟨wo.heap.size, 10, none⟩ (.string R.plan.key)).cell? ⟨b, off + i * 10 + 2, none⟩ = some (.int .i64 ds[i].plan.phase) ∧ (((((((((((wc.setCell ⟨wo.heap.size, 0, none⟩ (.int .i64 R.groups)).setCell ⟨wo.heap.size, 1, none⟩ (.int .i64 R.last)).setCell ⟨wo.heap.size, 2, none⟩ ((.slice A2 R.sp.length c2))).setCell ⟨wo.heap.size, 3, none⟩ (.int .i64 R.plan.kind)).setCell ⟨wo.heap.size, 4, none⟩ (.int .i64 R.plan.phase)).setCell ⟨wo.heap.size, 5, none⟩ (.int .i64 R.plan.shard)).setCell ⟨wo.heap.size, 6, none⟩ (.int .i64 R.plan.other)).setCell ⟨wo.heap.size, 7, none⟩ (.int .i64 R.plan.group)).setCell ⟨wo.heap.size, 8, none⟩ (.int .i64 R.plan.past)).setCell ⟨wo.heap.size, 9, none⟩ (.int .i64 R.plan.epoch)).setCell ⟨wo.heap.size, 10, none⟩ (.string R.plan.key)).cell? ⟨b, off + i * 10 + 3, none⟩ = some (.int .i64 ds[i].plan.shard) ∧ (((((((((((wc.setCell ⟨wo.heap.size, 0, none⟩ (.int .i64 R.groups)).setCell ⟨wo.heap.size, 1, none⟩ (.int .i64 R.last)).setCell ⟨wo.heap.size, 2, none⟩ ((.slice A2 R.sp.length c2))).setCell ⟨wo.heap.size, 3, none⟩ (.int .i64 R.plan.kind)).setCell ⟨wo.heap.size, 4, none⟩ (.int .i64 R.plan.phase)).setCell ⟨wo.heap.size, 5, none⟩ (.int .i64 R.plan.shard)).setCell ⟨wo.heap.size, 6, none⟩ (.int .i64 R.plan.other)).setCell ⟨wo.heap.size, 7, none⟩ (.int .i64 R.plan.group)).setCell ⟨wo.heap.size, 8, none⟩ (.int .i64 R.plan.past)).setCell ⟨wo.heap.size, 9, none⟩ (.int .i64 R.plan.epoch)).setCell ⟨wo.heap.size, 10, none⟩ (.string R.plan.key)).cell? ⟨b, off + i * 10 + 4, none⟩ = some (.int .i64 ds[i].plan.other) ∧ (((((((((((wc.setCell ⟨wo.heap.size, 0, none⟩ (.int .i64 R.groups)).setCell ⟨wo.heap.size, 1, none⟩ (.int .i64 R.last)).setCell ⟨wo.heap.size, 2, none⟩ ((.slice A2 R.sp.length c2))).setCell ⟨wo.heap.size, 3, none⟩ (.int .i64 R.plan.kind)).setCell ⟨wo.heap.size, 4, none⟩ (.int .i64 R.plan.phase)).setCell ⟨wo.heap.size, 5, none⟩ (.int .i64 R.plan.shard)).setCell ⟨wo.heap.size, 6, none⟩ (.int .i64 R.plan.other)).setCell ⟨wo.heap.size, 7, none⟩ (.int .i64 R.plan.group)).setCell ⟨wo.heap.size, 8, none⟩ (.int .i64 R.plan.past)).setCell ⟨wo.heap.size, 9, none⟩ (.int .i64 R.plan.epoch)).setCell ⟨wo.heap.size, 10, none⟩ (.string R.plan.key)).cell? ⟨b, off + i * 10 + 5, none⟩ = some (.int .i64 ds[i].plan.group) ∧ (((((((((((wc.setCell ⟨wo.heap.size, 0, none⟩ (.int .i64 R.groups)).setCell ⟨wo.heap.size, 1, none⟩ (.int .i64 R.last)).setCell ⟨wo.heap.size, 2, none⟩ ((.slice A2 R.sp.length c2))).setCell ⟨wo.heap.size, 3, none⟩ (.int .i64 R.plan.kind)).setCell ⟨wo.heap.size, 4, none⟩ (.int .i64 R.plan.phase)).setCell ⟨wo.heap.size, 5, none⟩ (.int .i64 R.plan.shard)).setCell ⟨wo.heap.size, 6, none⟩ (.int .i64 R.plan.other)).setCell ⟨wo.heap.size, 7, none⟩ (.int .i64 R.plan.group)).setCell ⟨wo.heap.size, 8, none⟩ (.int .i64 R.plan.past)).setCell ⟨wo.heap.size, 9, none⟩ (.int .i64 R.plan.epoch)).setCell ⟨wo.heap.size, 10, none⟩ (.string R.plan.key)).cell? ⟨b, off + i * 10 + 6, none⟩ = some (.int .i64 ds[i].plan.past) ∧ (((((((((((wc.setCell ⟨wo.heap.size, 0, none⟩ (.int .i64 R.groups)).setCell ⟨wo.heap.size, 1, none⟩ (.int .i64 R.last)).setCell ⟨wo.heap.size, 2, none⟩ ((.slice A2 R.sp.length c2))).setCell ⟨wo.heap.size, 3, none⟩ (.int .i64 R.plan.kind)).setCell ⟨wo.heap.size, 4, none⟩ (.int .i64 R.plan.phase)).setCell ⟨wo.heap.size, 5, none⟩ (.int .i64 R.plan.shard)).setCell ⟨wo.heap.size, 6, none⟩ (.int .i64 R.plan.other)).setCell ⟨wo.heap.size, 7, none⟩ (.int .i64 R.plan.group)).setCell ⟨wo.heap.size, 8, none⟩ (.int .i64 R.plan.past)).setCell ⟨wo.heap.size, 9, none⟩ (.int .i64 R.plan.epoch)).setCell ⟨wo.heap.size, 10, none⟩ (.string R.plan.key)).cell? ⟨b, off + i * 10 + 7, none⟩ = some (.int .i64 ds[i].plan.epoch) ∧ (((((((((((wc.setCell ⟨wo.heap.size, 0, none⟩ (.int .i64 R.groups)).setCell ⟨wo.heap.size, 1, none⟩ (.int .i64 R.last)).setCell ⟨wo.heap.size, 2, none⟩ ((.slice A2 R.sp.length c2))).setCell ⟨wo.heap.size, 3, none⟩ (.int .i64 R.plan.kind)).setCell ⟨wo.heap.size, 4, none⟩ (.int .i64 R.plan.phase)).setCell ⟨wo.heap.size, 5, none⟩ (.int .i64 R.plan.shard)).setCell ⟨wo.heap.size, 6, none⟩ (.int .i64 R.plan.other)).setCell ⟨wo.heap.size, 7, none⟩ (.int .i64 R.plan.group)).setCell ⟨wo.heap.size, 8, none⟩ (.int .i64 R.plan.past)).setCell ⟨wo.heap.size, 9, none⟩ (.int .i64 R.plan.epoch)).setCell ⟨wo.heap.size, 10, none⟩ (.string R.plan.key)).cell? ⟨b, off + i * 10 + 8, none⟩ = some (.string ds[i].plan.key) ∧ (((((((((((wc.setCell ⟨wo.heap.size, 0, none⟩ (.int .i64 R.groups)).setCell ⟨wo.heap.size, 1, none⟩ (.int .i64 R.last)).setCell ⟨wo.heap.size, 2, none⟩ ((.slice A2 R.sp.length c2))).setCell ⟨wo.heap.size, 3, none⟩ (.int .i64 R.plan.kind)).setCell ⟨wo.heap.size, 4, none⟩ (.int .i64 R.plan.phase)).setCell ⟨wo.heap.size, 5, none⟩ (.int .i64 R.plan.shard)).setCell ⟨wo.heap.size, 6, none⟩ (.int .i64 R.plan.other)).setCell ⟨wo.heap.size, 7, none⟩ (.int .i64 R.plan.group)).setCell ⟨wo.heap.size, 8, none⟩ (.int .i64 R.plan.past)).setCell ⟨wo.heap.size, 9, none⟩ (.int .i64 R.plan.epoch)).setCell ⟨wo.heap.size, 10, none⟩ (.string R.plan.key)).cell? ⟨b, off + i * 10 + 9, none⟩ = some (.int .i64 ds[i].phase) from hr2)
             have HR3 := HR2
             have hbw2 : Below wo.heap.size wo (((((((((((wc.setCell ⟨wo.heap.size, 0, none⟩ (.int .i64 R.groups)).setCell ⟨wo.heap.size, 1, none⟩ (.int .i64 R.last)).setCell ⟨wo.heap.size, 2, none⟩ ((.slice A2 R.sp.length c2))).setCell ⟨wo.heap.size, 3, none⟩ (.int .i64 R.plan.kind)).setCell ⟨wo.heap.size, 4, none⟩ (.int .i64 R.plan.phase)).setCell ⟨wo.heap.size, 5, none⟩ (.int .i64 R.plan.shard)).setCell ⟨wo.heap.size, 6, none⟩ (.int .i64 R.plan.other)).setCell ⟨wo.heap.size, 7, none⟩ (.int .i64 R.plan.group)).setCell ⟨wo.heap.size, 8, none⟩ (.int .i64 R.plan.past)).setCell ⟨wo.heap.size, 9, none⟩ (.int .i64 R.plan.epoch)).setCell ⟨wo.heap.size, 10, none⟩ (.string R.plan.key)) := hon.below hbc' (fun q hq => by omega) hbc'.size
             have hsw : (((((((((((wc.setCell ⟨wo.heap.size, 0, none⟩ (.int .i64 R.groups)).setCell ⟨wo.heap.size, 1, none⟩ (.int .i64 R.last)).setCell ⟨wo.heap.size, 2, none⟩ ((.slice A2 R.sp.length c2))).setCell ⟨wo.heap.size, 3, none⟩ (.int .i64 R.plan.kind)).setCell ⟨wo.heap.size, 4, none⟩ (.int .i64 R.plan.phase)).setCell ⟨wo.heap.size, 5, none⟩ (.int .i64 R.plan.shard)).setCell ⟨wo.heap.size, 6, none⟩ (.int .i64 R.plan.other)).setCell ⟨wo.heap.size, 7, none⟩ (.int .i64 R.plan.group)).setCell ⟨wo.heap.size, 8, none⟩ (.int .i64 R.plan.past)).setCell ⟨wo.heap.size, 9, none⟩ (.int .i64 R.plan.epoch)).setCell ⟨wo.heap.size, 10, none⟩ (.string R.plan.key)).heap[wo.heap.size]? = some (R.blk (.slice A2 R.sp.length c2)) := by
               have := (heap_setCell_at (i := 10) (heap_setCell_at (i := 9) (heap_setCell_at (i := 8) (heap_setCell_at (i := 7) (heap_setCell_at (i := 6) (heap_setCell_at (i := 5) (heap_setCell_at (i := 4) (heap_setCell_at (i := 3) (heap_setCell_at (i := 2) (heap_setCell_at (i := 1) (heap_setCell_at (i := 0) hzc (.int .i64 R.groups)) (.int .i64 R.last)) ((.slice A2 R.sp.length c2))) (.int .i64 R.plan.kind)) (.int .i64 R.plan.phase)) (.int .i64 R.plan.shard)) (.int .i64 R.plan.other)) (.int .i64 R.plan.group)) (.int .i64 R.plan.past)) (.int .i64 R.plan.epoch)) (.string R.plan.key))
               refine (show _ = _ from this).trans ?_
               simp only [Atl.blk, zeroA, List.setIfInBounds_toArray, List.set_cons_zero, List.set_cons_succ]
             have hiw : MapIn (((((((((((wc.setCell ⟨wo.heap.size, 0, none⟩ (.int .i64 R.groups)).setCell ⟨wo.heap.size, 1, none⟩ (.int .i64 R.last)).setCell ⟨wo.heap.size, 2, none⟩ ((.slice A2 R.sp.length c2))).setCell ⟨wo.heap.size, 3, none⟩ (.int .i64 R.plan.kind)).setCell ⟨wo.heap.size, 4, none⟩ (.int .i64 R.plan.phase)).setCell ⟨wo.heap.size, 5, none⟩ (.int .i64 R.plan.shard)).setCell ⟨wo.heap.size, 6, none⟩ (.int .i64 R.plan.other)).setCell ⟨wo.heap.size, 7, none⟩ (.int .i64 R.plan.group)).setCell ⟨wo.heap.size, 8, none⟩ (.int .i64 R.plan.past)).setCell ⟨wo.heap.size, 9, none⟩ (.int .i64 R.plan.epoch)).setCell ⟨wo.heap.size, 10, none⟩ (.string R.plan.key)) A2 c2 R := hI2.setMap hzc hon
             have Hbw := Lib.hid hbw2; have Hsw := Lib.hid hsw; have Hiw := Lib.hid hiw; have Hgs := Lib.hid (Nat.le_refl wo.heap.size)
             clear hr1 hr2 hbc hbc' hbw2 hsw hzc hon hiw hI2))
      all_goals
        refine hKK _ _ (Met.intro (hJJ _ _ ?_))
        (repeat apply Exists.intro)
        refine ⟨?_, rfl⟩
        exact ⟨_, A2, c2, rfl, rfl, Hsw.out, Hgs.out, Hiw.out, Hbw.out⟩
    case rest =>
      obtain ⟨g, A2, c2, rfl, rfl, hG9, hgl, hI9, hB9⟩ := hcut
      obtain ⟨w9, rfl⟩ : ∃ x : World, x = wc := ⟨_, rfl⟩
      have HG9 := Lib.hid hG9; have HX9 := Lib.hid (blk_below hB9 (lt_of_some HX.out) HX.out); have HM9 := Lib.hid (HI.out.below hB9); have HI9 := Lib.hid hI9; have HB9 := Lib.hid (HB.out.trans (hB9.mono HB.out.size))
      have Hlr := Lib.hid (show R.sp.length ≤ 16 from HS.out.1.2.2.2.1.1)
      have Hlm := Lib.hid (show M.sp.length ≤ 16 from Hok.out.2.2.2.1.1)
      clear hG9 hI9 hB9 q0 q1 q2 q3 q4 q5 q6 q7 q8 q9 m0 m1 m2 m3 m4 m5 m6 m7 m8 m9 m10 mlt
      have hCR := fun w h => check_any w A2 c2 R h
      rw [tr_true HS.out.1] at hCR
      have HCR := Lib.hid hCR; clear hCR
      go_upto_region 10 with fail
      go_cut [62] (fun v wx => v = .bool false ∧ Below w9.heap.size w9 wx)
      case first =>
        have hS16 : n = 0 ∨ (¬ n = 0 ∧ ∀ w', MapIn w' A1 c1 M → MapIn w' A2 c2 R → Calls Try.prog 16 #[M.val (.slice A1 M.sp.length c1), R.val (.slice A2 R.sp.length c2)] w' fun e w'' => e = .returned (.bool true) ∧ Below w'.heap.size w' w'') := by
          rcases HS.out.2.2 with h | ⟨h, hR⟩
          · exact .inl h
          · exact .inr ⟨h, fun w' h1 h2 => by subst hR; exact same_true w' A1 A2 c1 c2 _ h1 h2⟩
        rcases hS16 with hn | ⟨hn, hS16⟩
        · have hn1 : (n == 0) = true := by simp [hn]
          have hn2 : (n != 0) = false := by simp [hn]
          clear hn
          refine wp_region_lit ?_
          refine wpList_load26 rfl (.tmp 10) rfl (g) rfl HG9.out ?_
          simp only [Act.put, List.setIfInBounds_toArray, List.set_cons_zero, List.set_cons_succ]
          refine wpList_step (fun K hK => ?_)
          go_simp
          go_at_call 29
          refine (HCR.out _ HI9.out).mono ?_
          rintro e w10 ⟨rfl, hb10⟩
          refine hK _ _ ?_
          clear hK K
          obtain ⟨m0, m1, m2, m3, m4, m5, m6, m7, m8, m9, m10, mlt⟩ := map_cells (blk_below hb10 (lt_of_some HX9.out) HX9.out)
          obtain ⟨r0, r1, r2, r3, r4, r5, r6, r7, r8, r9, r10, rlt⟩ := map_cells (blk_below hb10 (lt_of_some HG9.out) HG9.out)
          have Hb10 := Lib.hid hb10; clear hb10
          go_wp2_with fail
          go_meet
          exact ⟨rfl, Hb10.out⟩
        · have hn1 : (n == 0) = false := by simp [hn]
          have hn2 : (n != 0) = true := by simp [hn]
          have HS16 := Lib.hid hS16; clear hS16
          refine wp_region_lit ?_
          refine wpList_load26 rfl (.tmp 10) rfl (g) rfl HG9.out ?_
          simp only [Act.put, List.setIfInBounds_toArray, List.set_cons_zero, List.set_cons_succ]
          refine wpList_step (fun K hK => ?_)
          go_simp
          go_at_call 29
          refine (HCR.out _ HI9.out).mono ?_
          rintro e w10 ⟨rfl, hb10⟩
          refine hK _ _ ?_
          clear hK K
          obtain ⟨m0, m1, m2, m3, m4, m5, m6, m7, m8, m9, m10, mlt⟩ := map_cells (blk_below hb10 (lt_of_some HX9.out) HX9.out)
          obtain ⟨r0, r1, r2, r3, r4, r5, r6, r7, r8, r9, r10, rlt⟩ := map_cells (blk_below hb10 (lt_of_some HG9.out) HG9.out)
          have Hb10 := Lib.hid hb10; clear hb10
          go_wp2_with (go_at_call 16
                       refine (HS16.out _ (HM9.out.below Hb10.out) (HI9.out.below Hb10.out)).mono ?_
                       rintro e wy ⟨rfl, hby⟩
                       have Hby := Lib.hid hby
                       clear hby)
          go_meet
          exact ⟨rfl, Hb10.out.trans (Hby.out.mono Hb10.out.size)⟩
      case rest =>
        obtain ⟨rfl, hB10⟩ := hcut
        obtain ⟨w10, rfl⟩ : ∃ x : World, x = wc := ⟨_, rfl⟩
        have HX10 := Lib.hid (blk_below hB10 (lt_of_some HX9.out) HX9.out)
        have HG10 := Lib.hid (blk_below hB10 (lt_of_some HG9.out) HG9.out)
        have HM10 := Lib.hid (HM9.out.below hB10)
        have HI10 := Lib.hid (HI9.out.below hB10)
        have HB10 := Lib.hid (HB9.out.trans (hB10.mono HB9.out.size))
        clear hB10
        obtain ⟨m0, m1, m2, m3, m4, m5, m6, m7, m8, m9, m10, mlt⟩ := map_cells HX10.out
        obtain ⟨r0, r1, r2, r3, r4, r5, r6, r7, r8, r9, r10, rlt⟩ := map_cells HG10.out
        go_wp2_with fail
        clear m0 m1 m2 m3 m4 m5 m6 m7 m8 m9 m10 mlt r0 r1 r2 r3 r4 r5 r6 r7 r8 r9 r10 rlt
        go_loopw [12] (fun v wr => ∃ k : Nat, k ≤ M.sp.length ∧ v = .int .i64 k ∧ Below w10.heap.size w10 wr) (fun v _ => M.sp.length - (intOf v).toNat)
        case atStart => exact ⟨0, Nat.zero_le _, rfl, Below.refl _ _⟩
        case round =>
          obtain ⟨k, hk, rfl, hbel⟩ := hrel
          have hIM := HM10.out.below hbel
          have hIR := HI10.out.below hbel
          have hX := blk_below hbel (lt_of_some HX10.out) HX10.out
          have hG := blk_below hbel (lt_of_some HG10.out) HG10.out
          obtain ⟨m0, m1, m2, m3, m4, m5, m6, m7, m8, m9, m10, mlt⟩ := map_cells hX
          obtain ⟨r0, r1, r2, r3, r4, r5, r6, r7, r8, r9, r10, rlt⟩ := map_cells hG
          have hw1 : IntKind.i64.wrap ((k : Int) + 1) = (k : Int) + 1 := IntWalk.i64_in _ (by have := Hlm.out; omega)
          have Hbel := Lib.hid hbel; have HIM := Lib.hid hIM; have HIR := Lib.hid hIR; have HXk := Lib.hid hX; have HGk := Lib.hid hG
          clear hbel hIM hIR hX hG
          by_cases hlt : k < M.sp.length
          · obtain ⟨bm, om, rfl, bmlt, p0, p1, p2, p3, p4⟩ := span_cells HIM.out.row k hlt
            have l0 : (0 : Int) ≤ (k : Int) := by omega
            have l1 : (k : Int) < (M.sp.length : Int) := by omega
            have hP := fun x => rPlace_any (over wr x) A2 c2 R M.sp[k].sh ((HIR.out.below (below_over wr x)).row) (Nat.le_trans HIR.out.ncap HIR.out.cmax)
            have hgr := HS.out.2.1 M.sp[k] (List.getElem_mem hlt)
            have hpx := place_ex R.sp M.sp[k].sh
            obtain ⟨s, hs⟩ : ∃ s, M.sp[k] = s := ⟨_, rfl⟩
            rw [hs] at p0 p1 p2 p3 p4 hP hgr hpx
            rcases hpx with hp | ⟨j, hj, hp, hsh⟩
            · rw [hp] at hP
              have HP := Lib.hid hP; have Hgr := Lib.hid hgr; have Hs := Lib.hid hs
              clear hP hgr hs hp
              go_upto_region 15 with fail
              refine wp_region_over (by kernel_rfl) (by kernel_rfl) ?_
              repeat (go_big_quiet_step ((go_at_call 32; exact calls_over (HP.out _))))
              refine wpQuiet_nil ?_
              intro _ hw'
              obtain ⟨nx, hw''⟩ := hw'
              subst hw''
              have hbo := below_over wr nx
              generalize over wr nx = w5 at *
              obtain ⟨m0, m1, m2, m3, m4, m5, m6, m7, m8, m9, m10, mlt⟩ := map_cells (blk_below hbo (lt_of_some HXk.out) HXk.out)
              obtain ⟨r0, r1, r2, r3, r4, r5, r6, r7, r8, r9, r10, rlt⟩ := map_cells (blk_below hbo (lt_of_some HGk.out) HGk.out)
              have Hbo := Lib.hid hbo; clear hbo
              go_wp2_with fail
              go_quiet (fail)
              go_wp2_with fail
              go_roundw
              case rel => exact ⟨k + 1, by omega, by go_num, below_drewN' (Hbel.out.trans (Hbo.out.mono Hbel.out.size)) _⟩
              case measure => simp [intOf]; omega
            · rw [hp] at hP
              have hgr := hgr R.sp[j] (List.getElem_mem hj) hsh
              have l2 : (0 : Int) ≤ (j : Int) := by omega
              have l3 : (j : Int) < (R.sp.length : Int) := by omega
              obtain ⟨br, or_, hA2, brlt, y0, y1, y2, y3, y4⟩ := span_cells HIR.out.row j hj
              obtain ⟨t, ht⟩ : ∃ t, R.sp[j] = t := ⟨_, rfl⟩
              rw [ht] at hgr y0 y1 y2 y3 y4
              have d1 : ¬ t.ep < s.ep := by omega
              have d2 : decide (t.ep < s.ep) = false := decide_eq_false d1
              have HP := Lib.hid hP; have Hgr := Lib.hid hgr.2; have Hs := Lib.hid hs; have Ht := Lib.hid ht; have HA2 := Lib.hid hA2
              clear hP hgr hs hp hsh ht hA2
              go_upto_region 15 with fail
              refine wp_region_over (by kernel_rfl) (by kernel_rfl) ?_
              repeat (go_big_quiet_step ((go_at_call 32; exact calls_over (HP.out _))))
              refine wpQuiet_nil ?_
              intro _ hw'
              obtain ⟨nx, hw''⟩ := hw'
              subst hw''
              have hbo := below_over wr nx
              generalize over wr nx = w5 at *
              obtain ⟨m0, m1, m2, m3, m4, m5, m6, m7, m8, m9, m10, mlt⟩ := map_cells (blk_below hbo (lt_of_some HXk.out) HXk.out)
              obtain ⟨r0, r1, r2, r3, r4, r5, r6, r7, r8, r9, r10, rlt⟩ := map_cells (blk_below hbo (lt_of_some HGk.out) HGk.out)
              rw [HA2.out] at r2
              have p3' := (hbo.cell (p := ⟨bm, om + k * 5 + 3, none⟩) bmlt).trans p3
              have p4' := (hbo.cell (p := ⟨bm, om + k * 5 + 4, none⟩) bmlt).trans p4
              have y3' := (hbo.cell (p := ⟨br, or_ + j * 5 + 3, none⟩) brlt).trans y3
              have y4' := (hbo.cell (p := ⟨br, or_ + j * 5 + 4, none⟩) brlt).trans y4
              have Hbo := Lib.hid hbo; clear hbo p0 p1 p2 p3 p4 y0 y1 y2 y3 y4
              go_upto_region 16 with fail
              by_cases hg : t.gr = s.gr
              · have d3 : (t.gr == s.gr) = true := by simpa using hg
                have d4 : (t.gr != s.gr) = false := by simpa using hg
                clear hg
                go_quiet (fail)
                go_wp2_with fail
                go_roundw
                case rel => exact ⟨k + 1, by omega, by go_num, below_drewN' (Hbel.out.trans (Hbo.out.mono Hbel.out.size)) _⟩
                case measure => simp [intOf]; omega
              · have d3 : (t.gr == s.gr) = false := by simpa using hg
                have d4 : (t.gr != s.gr) = true := by simpa using hg
                have d5 : ¬ t.ep = s.ep := by
                  have := Hgr.out
                  rcases this with h | h
                  · exact absurd h hg
                  · omega
                have d6 : (t.ep == s.ep) = false := by simpa using d5
                go_quiet (fail)
                go_wp2_with fail
                go_roundw
                case rel => exact ⟨k + 1, by omega, by go_num, below_drewN' (Hbel.out.trans (Hbo.out.mono Hbel.out.size)) _⟩
                case measure => simp [intOf]; omega
          · have l1 : ¬ (k : Int) < (M.sp.length : Int) := by omega
            obtain ⟨w16, rfl⟩ : ∃ x : World, x = wr := ⟨_, rfl⟩
            have HX16 := Lib.hid (blk_below Hbel.out (lt_of_some HX10.out) HX10.out)
            have HG16 := Lib.hid (blk_below Hbel.out (lt_of_some HG10.out) HG10.out)
            have HM16 := Lib.hid (HM10.out.below Hbel.out)
            have HI16 := Lib.hid (HI10.out.below Hbel.out)
            have HB16 := Lib.hid (HB10.out.trans (Hbel.out.mono HB10.out.size))
            clear HIM HIR HXk HGk
            rcases foundIn_ex A2 c2 R key Hkey.out HS.out.1 with hF | ⟨j, hj, hF, hJ⟩
            · as_aux_lemma =>
                have HF := Lib.hid hF; clear hF
                go_upto_region 19 with fail
                refine wp_region_lit ?_
                refine wpList_load26 rfl (.tmp 10) rfl (g) rfl HG16.out ?_
                simp only [Act.put, List.setIfInBounds_toArray, List.set_cons_zero, List.set_cons_succ]
                refine wpList_step (fun K hK => ?_)
                go_simp
                refine hK _ _ ?_
                clear hK K
                refine wpList_step (fun K hK => ?_)
                go_simp
                go_at_call 30
                refine (HF.out _ HI16.out).mono ?_
                rintro e w11 ⟨rfl, hb11⟩
                refine hK _ _ ?_
                clear hK K
                refine wpList_step (fun K hK => ?_)
                go_simp
                refine hK _ _ ?_
                clear hK K
                refine wpList_step (fun K hK => ?_)
                go_simp
                refine hK _ _ ?_
                clear hK K
                refine wpList_step (fun K hK => ?_)
                go_simp
                refine hK _ _ ?_
                clear hK K
                refine wpList_step (fun K hK => ?_)
                go_simp
                refine hK _ _ ?_
                clear hK K
                refine wpList_store50 rfl (.tmp 15) (.tmp 129) rfl w11.heap.size rfl (p := zeroS) (p0 := zeroS) rfl (heap_alloc_new w11 _) ?_
                intro w12 hN ho
                simp only [Act.put, List.setIfInBounds_toArray, List.set_cons_zero, List.set_cons_succ]
                have hb : Below w11.heap.size w11 w12 := ho.below (al _) (fun k hk => by omega) (by simp)
                have hbx : Below w16.heap.size w16 w12 := hb11.trans (hb.mono hb11.size)
                have HX12 := Lib.hid (blk_below hbx (lt_of_some HX16.out) HX16.out)
                have HG12 := Lib.hid (blk_below hbx (lt_of_some HG16.out) HG16.out)
                have HM12 := Lib.hid (HM16.out.below hbx)
                have HI12 := Lib.hid (HI16.out.below hbx)
                have HB12 := Lib.hid (HB16.out.trans (hbx.mono HB16.out.size))
                have HS12 := Lib.hid hN
                have hg12 : w11.heap.size < w12.heap.size := lt_of_some hN
                clear hb11 hb hbx hN ho
                go_wp2_with fail
                go_loopw [14, 17] (fun c v wr => ∃ k : Nat, k ≤ R.sp.length ∧ v = .int .i64 k ∧ (c = .int .i64 0) ∧ Below w12.heap.size w12 wr) (fun _ v _ => R.sp.length - (intOf v).toNat)
                case atStart => exact ⟨0, Nat.zero_le _, rfl, rfl, Below.refl _ _⟩
                case round =>
                  obtain ⟨k, hk, rfl, rfl, hbel⟩ := hrel
                  have HX13 := Lib.hid (blk_below hbel (lt_of_some HX12.out) HX12.out)
                  have HG13 := Lib.hid (blk_below hbel (lt_of_some HG12.out) HG12.out)
                  have HM13 := Lib.hid (HM12.out.below hbel)
                  have HI13 := Lib.hid (HI12.out.below hbel)
                  have HB13 := Lib.hid (HB12.out.trans (hbel.mono HB12.out.size))
                  have HS13 := Lib.hid (blk_below hbel (lt_of_some HS12.out) HS12.out)
                  have hbel13 := Lib.hid hbel
                  clear hbel
                  obtain ⟨r0, r1, r2, r3, r4, r5, r6, r7, r8, r9, r10, rlt⟩ := map_cells HG13.out
                  have hw1 : IntKind.i64.wrap ((k : Int) + 1) = (k : Int) + 1 := IntWalk.i64_in _ (by have := Hlr.out; omega)
                  by_cases hlt : k < R.sp.length
                  · have l1 : (k : Int) < (R.sp.length : Int) := by omega
                    go_wp2_with fail
                    go_roundw
                    case rel => exact ⟨k + 1, by omega, by go_num, rfl, hbel13.out⟩
                    case measure => simp [intOf]; omega
                  · have l1 : ¬ (k : Int) < (R.sp.length : Int) := by omega
                    go_upto_region 29 with fail
                    refine wp_region_lit ?_
                    refine wpList_load26 rfl (.tmp 10) rfl (g) rfl HG13.out ?_
                    simp only [Act.put, List.setIfInBounds_toArray, List.set_cons_zero, List.set_cons_succ]
                    refine wpList_store26 rfl (.tmp 3) (.tmp 182) rfl w.heap.size rfl (m := R) (v := (.slice A2 R.sp.length c2)) (m0 := M) (v0 := (.slice A1 M.sp.length c1)) rfl rfl HX13.out ?_
                    intro w14 hN ho
                    simp only [Act.put, List.setIfInBounds_toArray, List.set_cons_zero, List.set_cons_succ]
                    have hI14 := HI13.out.setMap HX13.out ho
                    have hB14 := ho.below HB13.out (fun q hq => by have hq : q = w.heap.size := hq; omega) HB13.out.size
                    have HN := Lib.hid hN; have HI14 := Lib.hid hI14; have HB14 := Lib.hid hB14
                    clear hN hI14 hB14 ho
                    go_wp2_with fail
                    go_roundw
                    case rel => exact ⟨i + 1, R, A2, c2, by omega, by go_num, HN.out, HI14.out, HS.out.1, HB14.out⟩
                    case measure => simp [intOf]; omega
            · as_aux_lemma =>
                have HF := Lib.hid hF; have HJ := Lib.hid hJ; have Hj := Lib.hid hj; clear hF hJ
                go_upto_region 19 with fail
                refine wp_region_lit ?_
                refine wpList_load26 rfl (.tmp 10) rfl (g) rfl HG16.out ?_
                simp only [Act.put, List.setIfInBounds_toArray, List.set_cons_zero, List.set_cons_succ]
                refine wpList_step (fun K hK => ?_)
                go_simp
                refine hK _ _ ?_
                clear hK K
                refine wpList_step (fun K hK => ?_)
                go_simp
                go_at_call 30
                refine (HF.out _ HI16.out).mono ?_
                rintro e w11 ⟨rfl, hb11⟩
                refine hK _ _ ?_
                clear hK K
                refine wpList_step (fun K hK => ?_)
                go_simp
                refine hK _ _ ?_
                clear hK K
                refine wpList_step (fun K hK => ?_)
                go_simp
                refine hK _ _ ?_
                clear hK K
                refine wpList_step (fun K hK => ?_)
                go_simp
                refine hK _ _ ?_
                clear hK K
                refine wpList_step (fun K hK => ?_)
                go_simp
                refine hK _ _ ?_
                clear hK K
                refine wpList_store50 rfl (.tmp 15) (.tmp 129) rfl w11.heap.size rfl (p := R.sp[j]) (p0 := zeroS) rfl (heap_alloc_new w11 _) ?_
                intro w12 hN ho
                simp only [Act.put, List.setIfInBounds_toArray, List.set_cons_zero, List.set_cons_succ]
                have hb : Below w11.heap.size w11 w12 := ho.below (al _) (fun k hk => by omega) (by simp)
                have hbx : Below w16.heap.size w16 w12 := hb11.trans (hb.mono hb11.size)
                have HX12 := Lib.hid (blk_below hbx (lt_of_some HX16.out) HX16.out)
                have HG12 := Lib.hid (blk_below hbx (lt_of_some HG16.out) HG16.out)
                have HM12 := Lib.hid (HM16.out.below hbx)
                have HI12 := Lib.hid (HI16.out.below hbx)
                have HB12 := Lib.hid (HB16.out.trans (hbx.mono HB16.out.size))
                have HS12 := Lib.hid hN
                have hg12 : w11.heap.size < w12.heap.size := lt_of_some hN
                clear hb11 hb hbx hN ho
                go_wp2_with fail
                go_loopw [14, 17] (fun c v wr => ∃ k : Nat, k ≤ R.sp.length ∧ v = .int .i64 k ∧ (∃ x : Int, c = .int .i64 x ∧ x = if k ≤ j then 0 else 1) ∧ Below w12.heap.size w12 wr) (fun _ v _ => R.sp.length - (intOf v).toNat)
                case atStart => exact ⟨0, Nat.zero_le _, rfl, ⟨0, rfl, (if_pos (Nat.zero_le _)).symm⟩, Below.refl _ _⟩
                case round =>
                  obtain ⟨k, hk, rfl, ⟨x, rfl, hx⟩, hbel⟩ := hrel
                  have HX13 := Lib.hid (blk_below hbel (lt_of_some HX12.out) HX12.out)
                  have HG13 := Lib.hid (blk_below hbel (lt_of_some HG12.out) HG12.out)
                  have HM13 := Lib.hid (HM12.out.below hbel)
                  have HI13 := Lib.hid (HI12.out.below hbel)
                  have HB13 := Lib.hid (HB12.out.trans (hbel.mono HB12.out.size))
                  have HS13 := Lib.hid (blk_below hbel (lt_of_some HS12.out) HS12.out)
                  have hbel13 := Lib.hid hbel
                  clear hbel
                  obtain ⟨r0, r1, r2, r3, r4, r5, r6, r7, r8, r9, r10, rlt⟩ := map_cells HG13.out
                  have hw1 : IntKind.i64.wrap ((k : Int) + 1) = (k : Int) + 1 := IntWalk.i64_in _ (by have := Hlr.out; omega)
                  by_cases hlt : k < R.sp.length
                  · obtain ⟨bm, om, rfl, bmlt, p0, p1, p2, p3, p4⟩ := span_cells HI13.out.row k hlt
                    have l0 : (0 : Int) ≤ (k : Int) := by omega
                    have l1 : (k : Int) < (R.sp.length : Int) := by omega
                    have hw0 : IntKind.i64.wrap (0 + 1) = 1 := by decide
                    have hin := HJ.out k hlt
                    have hsk : k = j → R.sp[k] = R.sp[j] := fun h => by subst h; rfl
                    obtain ⟨s, hs⟩ : ∃ s, R.sp[k] = s := ⟨_, rfl⟩
                    rw [hs] at p0 p1 p2 p3 p4 hin hsk
                    unfold inSp isE sLt at hin
                    cases e1 : Op.bytesLess key.toList s.fr.toList
                    · by_cases e2 : s.to.toList = []
                      · skip
                        have hkj : k = j := by
                          rw [e1, decide_eq_true e2] at hin
                          by_cases h5 : k = j
                          · exact h5
                          · rw [decide_eq_false h5] at hin
                            simp at hin
                        have hsj := hsk hkj
                        have hx0 : x = 0 := by rw [hx, if_pos (by omega)]
                        subst hx0
                        have hx' : (1 : Int) = if k + 1 ≤ j then 0 else 1 := (if_neg (by omega)).symm
                        have Hx' := Lib.hid hx'
                        obtain ⟨s0, s1, s2, s3, s4, slt⟩ := span_blk HS13.out
                        rw [← hsj] at s0 s1 s2 s3 s4
                        have e2' : s.to.toList.isEmpty = true := by simpa using e2
                        have e2'' : (s.to.toList == []) = true := by simpa using e2
                        clear e2
                        clear hx hx' hin hsk hs hkj hsj
                        go_wp2_with fail
                        go_quiet (fail)
                        go_wp2_with fail
                        go_roundw
                        case rel => exact ⟨k + 1, by omega, by go_num, ⟨1, by go_num, Hx'.out⟩, below_drewN' hbel13.out _⟩
                        case measure => simp [intOf]; omega
                      · have e2' : s.to.toList.isEmpty = false := by simpa using e2
                        have e2'' : (s.to.toList == []) = false := by simpa using e2
                        cases e3 : Op.bytesLess key.toList s.to.toList
                        · skip
                          have hne : ¬ k = j := fun h => by
                            rw [e1, decide_eq_false e2, e3, decide_eq_true h] at hin
                            simp at hin
                          have hx' : x = if k + 1 ≤ j then 0 else 1 := by
                            rw [hx]
                            by_cases h5 : k + 1 ≤ j
                            · rw [if_pos h5, if_pos (by omega)]
                            · rw [if_neg h5, if_neg (by omega)]
                          have Hx' := Lib.hid hx'
                          clear hx hx' hin hsk hs
                          go_wp2_with fail
                          go_roundw
                          case rel => exact ⟨k + 1, by omega, by go_num, ⟨x, rfl, Hx'.out⟩, hbel13.out⟩
                          case measure => simp [intOf]; omega
                        · skip
                          have hkj : k = j := by
                            rw [e1, decide_eq_false e2, e3] at hin
                            by_cases h5 : k = j
                            · exact h5
                            · rw [decide_eq_false h5] at hin
                              simp at hin
                          have hsj := hsk hkj
                          have hx0 : x = 0 := by rw [hx, if_pos (by omega)]
                          subst hx0
                          have hx' : (1 : Int) = if k + 1 ≤ j then 0 else 1 := (if_neg (by omega)).symm
                          have Hx' := Lib.hid hx'
                          obtain ⟨s0, s1, s2, s3, s4, slt⟩ := span_blk HS13.out
                          rw [← hsj] at s0 s1 s2 s3 s4
                          clear hx hx' hin hsk hs hkj hsj
                          go_wp2_with fail
                          go_quiet (fail)
                          go_wp2_with fail
                          go_roundw
                          case rel => exact ⟨k + 1, by omega, by go_num, ⟨1, by go_num, Hx'.out⟩, below_drewN' hbel13.out _⟩
                          case measure => simp [intOf]; omega
                    · skip
                      have hne : ¬ k = j := fun h => by
                        rw [e1, decide_eq_true h] at hin
                        simp at hin
                      have hx' : x = if k + 1 ≤ j then 0 else 1 := by
                        rw [hx]
                        by_cases h5 : k + 1 ≤ j
                        · rw [if_pos h5, if_pos (by omega)]
                        · rw [if_neg h5, if_neg (by omega)]
                      have Hx' := Lib.hid hx'
                      clear hx hx' hin hsk hs
                      go_wp2_with fail
                      go_roundw
                      case rel => exact ⟨k + 1, by omega, by go_num, ⟨x, rfl, Hx'.out⟩, hbel13.out⟩
                      case measure => simp [intOf]; omega
                  · have l1 : ¬ (k : Int) < (R.sp.length : Int) := by omega
                    have hx1 : x = 1 := by rw [hx, if_neg (by have := Hj.out; omega)]
                    clear hx
                    subst hx1
                    go_upto_region 29 with fail
                    refine wp_region_lit ?_
                    refine wpList_load26 rfl (.tmp 10) rfl (g) rfl HG13.out ?_
                    simp only [Act.put, List.setIfInBounds_toArray, List.set_cons_zero, List.set_cons_succ]
                    refine wpList_store26 rfl (.tmp 3) (.tmp 182) rfl w.heap.size rfl (m := R) (v := (.slice A2 R.sp.length c2)) (m0 := M) (v0 := (.slice A1 M.sp.length c1)) rfl rfl HX13.out ?_
                    intro w14 hN ho
                    simp only [Act.put, List.setIfInBounds_toArray, List.set_cons_zero, List.set_cons_succ]
                    have hI14 := HI13.out.setMap HX13.out ho
                    have hB14 := ho.below HB13.out (fun q hq => by have hq : q = w.heap.size := hq; omega) HB13.out.size
                    have HN := Lib.hid hN; have HI14 := Lib.hid hI14; have HB14 := Lib.hid hB14
                    clear hN hI14 hB14 ho
                    go_wp2_with fail
                    go_roundw
                    case rel => exact ⟨i + 1, R, A2, c2, by omega, by go_num, HN.out, HI14.out, HS.out.1, HB14.out⟩
                    case measure => simp [intOf]; omega
end Go.Proofs.Ytimondpollbdfaa
