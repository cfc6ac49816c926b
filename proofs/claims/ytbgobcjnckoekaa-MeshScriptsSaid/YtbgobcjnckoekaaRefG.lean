/- What is proved: the document's mesh: Double. -/
import Derived.Test.YtbgobcjnckoekaaRefF
import Derived.Test.YtbgobcjnckoekaaFan
import Derived.Deep.RegionHeld3
import Derived.StillTailTactics
namespace Go.Proofs.Ytbgobcjnckoekaa
open Go.RowKit
attribute [local go_sem] cell_over frozen_over

set_option maxRecDepth 100000 in
set_option maxHeartbeats 40000000 in
theorem rDouble_some (w : World) (B a : Nat) (v u : Value) (r : R) (id : Int) (k : Nat) (h : RefAt w B a v u r) (hk : k < r.ps.length) (hx : idxOf (hasId id) r.ps = (k : Int)) (hroom : r.ps.length < 512) (hs : r.ps[k].body.size ≤ 65536) (hl0 : 0 ≤ r.last) (hl1 : r.last ≤ 4611686018427387904) :
    Calls Try.prog 21 #[.pointer (some ⟨a, 0, none⟩), .int .i64 id] w fun e w' => e = .returned (.tuple #[.int .i64 (r.last + 1), .int .i64 0]) ∧
      (∃ v', RefAt w' B a v' u ⟨r.ps ++ [⟨r.last + 1, r.ps[k].src, r.ps[k].dst, r.ps[k].body⟩], r.last + 1, r.cuts⟩ ∧ RGrew w v v') ∧ Only (RFoot a v u) w w' := by
  obtain ⟨b, cap, rfl, _, hb⟩ := h.own.form (by omega)
  obtain ⟨_, _, _, hle, hmax⟩ := own_shape h.own
  have hlen : r.ps.length ≤ 9223372036854775807 := by unfold maxLen at hmax; exact hmax
  have hf := rFind_any w B a _ u r id h
  rw [hx] at hf
  have hc0 := h.c0
  have halt := h.alt
  obtain ⟨b', off, hbo, _, p0, p1, p2, p3⟩ := pkt_cells (h.row rfl) k hk
  injection hbo with hbo
  injection hbo with hbo1 hbo2
  subst hbo1; subst hbo2
  rw [Nat.zero_add] at p0 p1 p2 p3
  have hpk : (r.ps.map Pkt.cells)[k]? = some r.ps[k].cells := by simp [hk]
  have f1 := flat_get _ (cells_len r.ps) k 1 _ (.int .i64 r.ps[k].src) hpk rfl
  have f2 := flat_get _ (cells_len r.ps) k 2 _ (.int .i64 r.ps[k].dst) hpk rfl
  have f3 := flat_get _ (cells_len r.ps) k 3 _ (.string r.ps[k].body) hpk rfl
  have F1 := Lib.hid f1; have F2 := Lib.hid f2; have F3 := Lib.hid f3; clear f1 f2 f3 hpk
  have Hf := Lib.hid hf; have HH := Lib.hid h; clear hf hx h
  go_enter Try.func21, Try.ntmps21
  go_wp2_with (
    (go_at_call 32
     refine Hf.out.mono ?_
     rintro e w1 ⟨rfl, hb1⟩
     have q1 := cell_later hb1 p1
     have q2 := cell_later hb1 p2
     have q3 := cell_later hb1 p3
     have r0 := cell_later hb1 hc0
     have ha1 : a < w1.heap.size := by have := hb1.size; omega
     have hb2 : b < w1.heap.size := by have := hb1.size; omega))
  clear Hf hc0 p0 p1 p2 p3
  have r0' := (World.cell?_drew w1 ⟨a, 0, none⟩).trans r0
  have q1' := (World.cell?_drew w1 ⟨b, k * 4 + 1, none⟩).trans q1
  have q2' := (World.cell?_drew w1 ⟨b, k * 4 + 2, none⟩).trans q2
  have q3' := (World.cell?_drew w1 ⟨b, k * 4 + 3, none⟩).trans q3
  refine wp_region_fan 25 (by kernel_rfl) (by kernel_rfl) ?_
  have hbd := hb1.drew
  generalize w1.drew = w3 at *
  simp only [List.take_succ_cons, List.take_zero]
  repeat still_step
  refine wpStill_nil ?_
  refine wpAny_ready (rs := [25]) (by kernel_rfl) (by simp) ?_
  refine AllReady.cons rfl (fun K hK => ?_) AllReady.nil
  go_simp
  go_at_call 16
  refine (rSend_some _ B a _ u r r.ps[k].src r.ps[k].dst r.ps[k].body (HH.out.below hbd) hs hroom hl0 hl1).mono ?_
  rintro e w2 ⟨rfl, ⟨v2, hm2, hv2⟩, ho2, _⟩
  refine hK _ _ ?_
  clear hK K
  refine wpAny_take (i := 26) (v := .int .i64 (r.last + 1)) rfl (by kernel_rfl) (by kernel_rfl) (by kernel_rfl) (fun _ _ _ h => h) (Or.inl ⟨by rfl, fun w => by go_simp⟩) ?_
  refine wpAny_take (i := 27) (v := .int .i64 0) rfl (by kernel_rfl) (by kernel_rfl) (by kernel_rfl) (fun _ _ _ h => h) (Or.inl ⟨by rfl, fun w => by go_simp⟩) ?_
  refine wpAny_take (i := 28) (v := .int .i64 (r.last + 1)) rfl (by kernel_rfl) (by kernel_rfl) (by kernel_rfl) (fun _ _ _ h => h) (Or.inl ⟨by rfl, fun w => by go_simp⟩) ?_
  refine wpAny_take (i := 29) (v := .int .i64 0) rfl (by kernel_rfl) (by kernel_rfl) (by kernel_rfl) (fun _ _ _ h => h) (Or.inl ⟨by rfl, fun w => by go_simp⟩) ?_
  refine wpAny_done (by kernel_rfl) ?_ _
  go_wp2
  go_ret2
  exact ⟨rfl, ⟨v2, hm2, hv2.later hbd.size⟩, (Only.of_below hbd).trans ho2 (fun _ _ h => h)⟩
end Go.Proofs.Ytbgobcjnckoekaa
