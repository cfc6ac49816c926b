/- What is proved: the document's mesh: Send, Double. -/
import Derived.Test.YtbgobcjnckoekaaRefE
import Derived.Test.YtbgobcjnckoekaaMem3
import Derived.Deep.RegionHeld3
namespace Go.Proofs.Ytbgobcjnckoekaa
open Go.RowKit

set_option maxHeartbeats 1000000 in
theorem rSend_long (w : World) (a : Nat) (x y : Int) (s : ByteArray) (hs : 65536 < s.size) (hm : s.size ≤ 9223372036854775807) :
    Calls Try.prog 16 #[.pointer (some ⟨a, 0, none⟩), .int .i64 x, .int .i64 y, .string s] w fun e w' => e = .returned (.tuple #[.int .i64 0, .int .i64 1]) ∧ w = w' := by
  go_enter Try.func16, Try.ntmps16
  go_wp2
  go_ret2
  exact ⟨rfl, rfl⟩

set_option maxHeartbeats 1000000 in
theorem rSend_full (w : World) (B a : Nat) (v u : Value) (r : R) (x y : Int) (s : ByteArray) (h : RefAt w B a v u r) (hs : s.size ≤ 65536) (hfull : 512 ≤ r.ps.length) :
    Calls Try.prog 16 #[.pointer (some ⟨a, 0, none⟩), .int .i64 x, .int .i64 y, .string s] w fun e w' => e = .returned (.tuple #[.int .i64 0, .int .i64 3]) ∧ w = w' := by
  obtain ⟨A, cap, rfl, hle, hmax⟩ := own_shape h.own
  have hlen : r.ps.length ≤ 9223372036854775807 := by unfold maxLen at hmax; exact hmax
  have hc0 := h.c0
  have hd : decide ((512 : Int) ≤ (r.ps.length : Int)) = true := by simp; omega
  clear h
  go_enter Try.func16, Try.ntmps16
  go_wp2
  go_ret2
  exact ⟨rfl, rfl⟩

set_option maxRecDepth 100000 in
set_option maxHeartbeats 3200000 in
theorem rSend_some (w : World) (B a : Nat) (v u : Value) (r : R) (x y : Int) (s : ByteArray) (h : RefAt w B a v u r) (hs : s.size ≤ 65536) (hroom : r.ps.length < 512) (hl0 : 0 ≤ r.last) (hl1 : r.last ≤ 4611686018427387904) :
    Calls Try.prog 16 #[.pointer (some ⟨a, 0, none⟩), .int .i64 x, .int .i64 y, .string s] w fun e w' => e = .returned (.tuple #[.int .i64 (r.last + 1), .int .i64 0]) ∧
      (∃ v', RefAt w' B a v' u ⟨r.ps ++ [⟨r.last + 1, x, y, s⟩], r.last + 1, r.cuts⟩ ∧ RGrew w v v') ∧ Only (RFoot a v u) w w' ∧
      (∀ g, v.ownBlock = some g → ∀ j u', (r.ps.map Pkt.cells).flatten[j]? = some u' → w'.cell? ⟨g, j, none⟩ = some u') := by
  obtain ⟨A, cap, rfl, hle, hmax⟩ := own_shape h.own
  have hlen : r.ps.length ≤ 9223372036854775807 := by unfold maxLen at hmax; exact hmax
  have halt := h.alt
  have hc0 := h.c0
  have hc1 := h.c1
  have hf0 := h.fz 0
  have hf1 := h.fz 1
  have hd : decide ((512 : Int) ≤ (r.ps.length : Int)) = false := by simp; omega
  obtain ⟨i0, hi0, hz0, hz1, hz2⟩ := info_parts info34
  have HH := Lib.hid h; clear h
  go_enter Try.func16, Try.ntmps16
  go_wp2_with fail
  have hh := HH.out
  have hb1 := (only_setCell w ⟨a, 1, none⟩ (.int .i64 (r.last + 1)))
  have hha : (w.setCell ⟨a, 1, none⟩ (.int .i64 (r.last + 1))).heap[a]? = some (.cells #[.slice A r.ps.length cap, .int .i64 (r.last + 1), u] 46 (0, 0)) := heap_setCell_at hh.heap _
  have hsz : (w.setCell ⟨a, 1, none⟩ (.int .i64 (r.last + 1))).heap.size = w.heap.size := by simp [World.setCell]
  generalize w.setCell ⟨a, 1, none⟩ (.int .i64 (r.last + 1)) = W at *
  have hown : W.ownsRow B 34 4 (.slice A r.ps.length cap) r.ps.length (r.ps.map Pkt.cells).flatten := own_only hh.own hb1 (fun k hk he => hh.avne (by rw [hk, he]))
  have hownc : W.ownsRow B 64 2 u r.cuts.length (r.cuts.map pairC).flatten := own_only hh.ownc hb1 (fun k hk he => hh.aune (by rw [hk, he]))
  have ha0 : W.cell? ⟨a, 0, none⟩ = some (.slice A r.ps.length cap) := by simp [World.cell?, hha]
  have ha1 : W.cell? ⟨a, 1, none⟩ = some (.int .i64 (r.last + 1)) := by simp [World.cell?, hha]
  have hba := hh.ba
  clear hc0 hc1 hf0 hf1
  have hr0 : RowAt ((W.alloc (.cells #[.int .i64 (r.last + 1), .int .i64 x, .int .i64 y, .string s] 34)).drew) (W.heap.size + 1) 4 (some ⟨W.heap.size, 0, none⟩) [[.int .i64 (r.last + 1), .int .i64 x, .int .i64 y, .string s]] :=
    rowAt_one (t := 34) (fr := (0, 0)) (heap_alloc_new W _) (by omega)
  have hs0 : ∀ c ∈ [[Value.int .i64 (r.last + 1), .int .i64 x, .int .i64 y, .string s]], c.length = 4 := by simp
  have h10 : ∀ z ∈ [[Value.int .i64 (r.last + 1), .int .i64 x, .int .i64 y, .string s]].flatten, z.oneCell' = true := by
    intro z hz; simp at hz; rcases hz with rfl | rfl | rfl | rfl <;> rfl
  have hn0 : r.ps.length + 1 ≤ maxLen := by unfold maxLen; omega
  have hn1 : (r.ps.length + 1) * 40 ≤ 140737488355328 := by omega
  have hn2 : B ≤ ((W.alloc (.cells #[.int .i64 (r.last + 1), .int .i64 x, .int .i64 y, .string s] 34)).drew).heap.size := by simp; omega
  have haW : a < W.heap.size := by omega
  have hfa : W.frozen? ⟨a, 0, none⟩ = false := by simp [World.frozen?, hha]
  have hfa1 : W.frozen? ⟨a, 1, none⟩ = false := by simp [World.frozen?, hha]
  have hane : some a ≠ (Value.slice A r.ps.length cap).ownBlock := hh.avne
  have Hane := Lib.hid hane
  have Hs0 := Lib.hid hs0; have H10 := Lib.hid h10; have Hr0 := Lib.hid hr0; have Hn := Lib.hid hown; have Hc := Lib.hid hownc; have Ha := Lib.hid hha; have H1 := Lib.hid hb1; have Hz := Lib.hid hsz
  clear hs0 h10 hr0 hown hownc hha hb1 hsz hh hane
  go_region_law (first
    | (refine step_app_keep _ rfl (.tmp 30) (.tmp 39) 27 rfl 34 i0 _ B 4 40 Try.underlying27 hi0 hz0 hz1 hz2 rfl (by omega) (.slice A r.ps.length cap) r.ps.length (r.ps.map Pkt.cells).flatten rfl ((Hn.out.alloc _).drew) (W.heap.size + 1) ⟨W.heap.size, 0, none⟩ 1 1 [[.int .i64 (r.last + 1), .int .i64 x, .int .i64 y, .string s]] rfl Hr0.out Hs0.out rfl H10.out hn0 hn1 hn2 ?_
       intro A1 c1 w1 hown1 hgrow hat hkeep
       have HK := Lib.hid hkeep; clear hkeep
       have hga : w1.heap[a]? = W.heap[a]? := (hgrow.block a (by simp; omega) Hane.out).trans (Below.heap_alloc W _ a haW)
       have hc1 : w1.cell? ⟨a, 0, none⟩ = some (.slice A r.ps.length cap) := (World.cell?_of_block (w := W) (a := ⟨a, 0, none⟩) hga).trans ha0
       have hc2 : w1.frozen? ⟨a, 0, none⟩ = false := (World.frozen?_of_block (w := W) (a := ⟨a, 0, none⟩) hga).trans hfa
       have hc3 : w1.cell? ⟨a, 1, none⟩ = some (.int .i64 (r.last + 1)) := (World.cell?_of_block (w := W) (a := ⟨a, 1, none⟩) hga).trans ha1
       have HGA := Lib.hid hga
       clear hga))
  all_goals
    go_wp2
    go_ret2
    have hh := HH.out
    have hlt : ∀ k, (Value.slice A r.ps.length cap).ownBlock = some k → k < W.heap.size := fun k hk => (Hn.out.lt k hk).2
    have hne1 : (Value.slice A1 (r.ps.length + 1) c1).ownBlock ≠ some a := by
      rcases hat with h1 | h1
      · rw [h1]; exact fun e => Hane.out e.symm
      · rw [h1]; intro e; have := Option.some.inj e; simp at this; omega
    have hoc : w1.ownsRow B 64 2 u r.cuts.length (r.cuts.map pairC).flatten := own_keep Hc.out fun k hk he => (hgrow.block k (by simp; omega) (fun e => hh.vune k e.symm he)).trans (Below.heap_alloc W _ k hk)
    have hM := ref_setL (ps := r.ps ++ [⟨r.last + 1, x, y, s⟩]) (HGA.out.trans Ha.out) (by simpa [Pkt.cells] using hown1) hne1 hoc (fun e => hh.aune e.symm) hba
    have hsz := Hz.out
    refine ⟨rfl, ⟨_, hM, RGrew.of ?_⟩, ?_, fun g hg j u' hu => (World.cell?_of_block (w := w1) (a := ⟨g, j, none⟩) (Below.heap_setCell w1 ⟨a, 0, none⟩ _ g (fun e => Hane.out (by rw [hg]; exact congrArg some e.symm)))).trans (HK.out g hg j u' hu)⟩
    · rcases hat with h1 | h1
      · exact .inl h1
      · exact .inr ⟨_, h1, by simp; omega⟩
    · refine (((H1.out.mono (fun k hk => .inl hk)).trans (Only.of_below (((Below.refl _ W).alloc (Nat.le_refl _) _).drew)) (fun _ _ h => h)).trans (Only.of_grown (F := RFoot a (.slice A r.ps.length cap) u) hgrow (fun k hk _ => .inr (.inl hk))) (fun _ _ h => h)).trans (only_setCell w1 _ _) (fun k _ hk => .inl hk)

attribute [local go_sem] cell_over frozen_over
set_option maxHeartbeats 1000000 in
theorem rDouble_none (w : World) (B a : Nat) (v u : Value) (r : R) (id : Int) (h : RefAt w B a v u r) (hx : idxOf (hasId id) r.ps = -1) :
    Calls Try.prog 21 #[.pointer (some ⟨a, 0, none⟩), .int .i64 id] w fun e w' => e = .returned (.tuple #[.int .i64 0, .int .i64 151]) ∧ Below w.heap.size w w' := by
  have hf := rFind_any w B a v u r id h
  rw [hx] at hf
  have Hf := Lib.hid hf; clear hf hx h
  go_enter Try.func21, Try.ntmps21
  go_wp2_with (go_at_call 32; refine Hf.out.mono ?_; rintro e w1 ⟨rfl, hb1⟩)
  go_ret2
  exact ⟨rfl, hb1⟩

end Go.Proofs.Ytbgobcjnckoekaa
