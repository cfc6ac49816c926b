/- What is proved: the mesh's Send, Double, Cut, Join. -/
import Derived.Test.YtbgobcjnckoekaaAdd
import Derived.Deep.RegionLaw
namespace Go.Proofs.Ytbgobcjnckoekaa
open Go.RowKit
attribute [local go_sem] Pkt.val

set_option maxHeartbeats 1000000 in
theorem Send_long (w : World) (a : Nat) (x y : Int) (s : ByteArray) (hs : 65536 < s.size) (hm : s.size ≤ 9223372036854775807) :
    Calls Try.prog 9 #[.pointer (some ⟨a, 0, none⟩), .int .i64 x, .int .i64 y, .string s] w fun e w' => e = .returned (.tuple #[.int .i64 0, .int .i64 1]) ∧ w = w' := by
  go_enter Try.func9, Try.ntmps9
  go_wp2
  go_ret2
  exact ⟨rfl, rfl⟩

set_option maxHeartbeats 1000000 in
theorem Send_full (w : World) (B a mb : Nat) (v : Value) (m : M) (x y : Int) (s : ByteArray) (h : MeshAt w B a mb v m) (hs : s.size ≤ 65536) (hfull : 512 ≤ m.ps.length) :
    Calls Try.prog 9 #[.pointer (some ⟨a, 0, none⟩), .int .i64 x, .int .i64 y, .string s] w fun e w' => e = .returned (.tuple #[.int .i64 0, .int .i64 3]) ∧ Below w.heap.size w w' := by
  have hc := Lib.hid (add_full w B a mb v m ⟨0, x, y, s⟩ h hfull)
  clear h
  go_enter Try.func9, Try.ntmps9
  go_wp2_with (go_at_call 25; refine hc.out.mono ?_; rintro e w1 ⟨rfl, hb1⟩)
  go_ret2
  exact ⟨rfl, hb1⟩

set_option maxHeartbeats 1000000 in
theorem Send_some (w : World) (B a mb : Nat) (v : Value) (m : M) (x y : Int) (s : ByteArray) (h : MeshAt w B a mb v m) (hs : s.size ≤ 65536) (hroom : m.ps.length < 512) (hl0 : 0 ≤ m.last) (hl1 : m.last ≤ 4611686018427387904) :
    Calls Try.prog 9 #[.pointer (some ⟨a, 0, none⟩), .int .i64 x, .int .i64 y, .string s] w fun e w' => e = .returned (.tuple #[.int .i64 (m.last + 1), .int .i64 0]) ∧
      (∃ v', MeshAt w' B a mb v' ⟨m.ps ++ [⟨m.last + 1, x, y, s⟩], m.last + 1, m.cuts⟩ ∧ (v'.ownBlock = v.ownBlock ∨ ∃ k, v'.ownBlock = some k ∧ w.heap.size ≤ k)) ∧ Only (Foot a mb v) w w' := by
  have hc := Lib.hid (add_some w B a mb v m ⟨0, x, y, s⟩ h hroom hl0 hl1)
  clear h
  go_enter Try.func9, Try.ntmps9
  go_wp2_with (go_at_call 25; refine hc.out.mono ?_; rintro e w1 ⟨rfl, hm1, ho1⟩)
  go_ret2
  exact ⟨rfl, hm1, ho1⟩

set_option maxHeartbeats 1000000 in
theorem Double_none (w : World) (B a mb : Nat) (v : Value) (m : M) (id : Int) (h : MeshAt w B a mb v m) (hx : idxOf (hasId id) m.ps = -1) :
    Calls Try.prog 10 #[.pointer (some ⟨a, 0, none⟩), .int .i64 id] w fun e w' => e = .returned (.tuple #[.int .i64 0, .int .i64 151]) ∧ Below w.heap.size w w' := by
  have hf := find_any w B a mb v m id h
  rw [hx] at hf
  have Hf := Lib.hid hf; clear hf hx h
  go_enter Try.func10, Try.ntmps10
  go_wp2_with (go_at_call 26; refine Hf.out.mono ?_; rintro e w1 ⟨rfl, hb1⟩)
  go_ret2
  exact ⟨rfl, hb1⟩

set_option maxHeartbeats 1000000 in
theorem Double_full (w : World) (B a mb : Nat) (v : Value) (m : M) (id : Int) (k : Nat) (h : MeshAt w B a mb v m) (hk : k < m.ps.length) (hx : idxOf (hasId id) m.ps = (k : Int)) (hfull : 512 ≤ m.ps.length) :
    Calls Try.prog 10 #[.pointer (some ⟨a, 0, none⟩), .int .i64 id] w fun e w' => e = .returned (.tuple #[.int .i64 0, .int .i64 3]) ∧ Below w.heap.size w w' := by
  obtain ⟨A, cap, rfl, hle, hmax⟩ := own_shape h.own
  have hlen : m.ps.length ≤ 9223372036854775807 := by unfold maxLen at hmax; exact hmax
  have hf := find_any w B a mb _ m id h
  rw [hx] at hf
  have hc0 := h.c0
  obtain ⟨b, off, rfl, hb, p0, p1, p2, p3⟩ := pkt_cells (h.row rfl) k hk
  have Hf := Lib.hid hf; have HH := Lib.hid h; clear hf hx h
  go_enter Try.func10, Try.ntmps10
  go_wp2_with (first
    | (go_at_call 26
       refine Hf.out.mono ?_
       rintro e w1 ⟨rfl, hb1⟩
       have q0 := cell_later hb1 p0
       have q1 := cell_later hb1 p1
       have q2 := cell_later hb1 p2
       have q3 := cell_later hb1 p3
       have r0 := cell_later hb1 hc0)
    | (go_at_call 25
       refine (add_full w1 B a mb _ m m.ps[k] (HH.out.below hb1) hfull).mono ?_
       rintro e w2 ⟨rfl, hb2⟩))
  go_ret2
  exact ⟨rfl, hb1.trans (hb2.mono hb1.size)⟩

set_option maxHeartbeats 1000000 in
theorem Double_some (w : World) (B a mb : Nat) (v : Value) (m : M) (id : Int) (k : Nat) (h : MeshAt w B a mb v m) (hk : k < m.ps.length) (hx : idxOf (hasId id) m.ps = (k : Int)) (hroom : m.ps.length < 512) (hl0 : 0 ≤ m.last) (hl1 : m.last ≤ 4611686018427387904) :
    Calls Try.prog 10 #[.pointer (some ⟨a, 0, none⟩), .int .i64 id] w fun e w' => e = .returned (.tuple #[.int .i64 (m.last + 1), .int .i64 0]) ∧
      (∃ v', MeshAt w' B a mb v' ⟨m.ps ++ [⟨m.last + 1, m.ps[k].src, m.ps[k].dst, m.ps[k].body⟩], m.last + 1, m.cuts⟩ ∧ (v'.ownBlock = v.ownBlock ∨ ∃ k, v'.ownBlock = some k ∧ w.heap.size ≤ k)) ∧ Only (Foot a mb v) w w' := by
  obtain ⟨A, cap, rfl, hle, hmax⟩ := own_shape h.own
  have hlen : m.ps.length ≤ 9223372036854775807 := by unfold maxLen at hmax; exact hmax
  have hf := find_any w B a mb _ m id h
  rw [hx] at hf
  have hc0 := h.c0
  obtain ⟨b, off, rfl, hb, p0, p1, p2, p3⟩ := pkt_cells (h.row rfl) k hk
  have Hf := Lib.hid hf; have HH := Lib.hid h; clear hf hx h
  go_enter Try.func10, Try.ntmps10
  go_wp2_with (first
    | (go_at_call 26
       refine Hf.out.mono ?_
       rintro e w1 ⟨rfl, hb1⟩
       have q0 := cell_later hb1 p0
       have q1 := cell_later hb1 p1
       have q2 := cell_later hb1 p2
       have q3 := cell_later hb1 p3
       have r0 := cell_later hb1 hc0)
    | (go_at_call 25
       refine (add_some w1 B a mb _ m m.ps[k] (HH.out.below hb1) hroom hl0 hl1).mono ?_
       rintro e w2 ⟨rfl, hm2, ho2⟩))
  go_ret2
  refine ⟨rfl, ?_, (Only.of_below hb1).trans ho2 (fun _ _ h => h)⟩
  obtain ⟨v', h1, h2⟩ := hm2
  refine ⟨v', h1, ?_⟩
  rcases h2 with h2 | ⟨j, h2, h3⟩
  · exact .inl h2
  · exact .inr ⟨j, h2, Nat.le_trans hb1.size h3⟩

theorem step_delete {ops : Array Oper} {o : Oper} {a : Act} {w : World} {K : Act → World → Prop} {Q : Exit → Act → World → Prop} {E : Prop} {x y : Int} (hgd : o.guard = none) (s k : Operand)
    (ho : o.op = .call { callee := .builtin .delete, args := #[s, k], argTypes := #[50, 60] }) (mb : Nat) (hs : a.eval s = .map (some mb)) (hk : a.eval k = .agg #[.int .i64 x, .int .i64 y]) {C : Int → Int → Bool} (hC : CutsAt w mb C)
    (h : ∀ w', CutsAt w' mb (delCut C x y) → Only (· = mb) w w' → K (a.put o.dst (.tuple #[])) w') :
    if Region.wanted o (yielded ops a.tmps) = true then Oper.wp Try.prog o a w K Q else E := by
  have hw : Region.wanted o (yielded ops a.tmps) = true := by simp [Region.wanted, hgd]
  rw [if_pos hw]
  obtain ⟨w', hrun, h1, h2⟩ := hC.delete x y o.type
  unfold Oper.wp execOp
  simp only [ho, resolve, invoke, builtin, Sem.run_bind, Sem.run_pure, Result.andThen_ok, List.map_toArray, List.map_cons, List.map_nil, hs, hk, hrun]
  exact h w' h1 h2

set_option maxHeartbeats 2000000 in
theorem Cut_any (w : World) (B a mb : Nat) (v : Value) (m : M) (x y : Int) (h : MeshAt w B a mb v m) :
    Calls Try.prog 13 #[.pointer (some ⟨a, 0, none⟩), .int .i64 x, .int .i64 y] w fun e w' => e = .returned (.tuple #[]) ∧ MeshAt w' B a mb v ⟨m.ps, m.last, addCut m.cuts (lo x y) (hi x y)⟩ ∧ Only (Foot a mb v) w w' := by
  have hc2 := h.c2
  have HH := Lib.hid h; clear h
  go_enter Try.func13, Try.ntmps13
  go_wp2_with fail
  go_region_law (
    (go_simp
     go_at_call 31
     refine (of_any _ _ _).mono ?_
     rintro e w1 ⟨rfl, hb1⟩
     have hw1 : Below w.heap.size w w1 := (Below.refl _ w).drew.trans hb1
     have r2 := cell_later hw1 hc2
     obtain ⟨w2, hrun, hC2, ho2⟩ := CutsAt.update (HH.out.below hw1).cuts (lo x y) (hi x y)))
  all_goals
    go_end0
    have h1 := HH.out.below hw1
    refine ⟨rfl, ⟨(ho2.block a h1.alt h1.amne).trans h1.heap, own_only h1.own ho2 (fun k hk he => h1.mne (by rw [hk, he])), hC2, h1.ba, h1.bm⟩, (Only.of_below hw1).trans ho2 (fun k _ hk => .inr (.inl hk))⟩

set_option maxHeartbeats 2000000 in
theorem Join_any (w : World) (B a mb : Nat) (v : Value) (m : M) (x y : Int) (h : MeshAt w B a mb v m) :
    Calls Try.prog 15 #[.pointer (some ⟨a, 0, none⟩), .int .i64 x, .int .i64 y] w fun e w' => e = .returned (.tuple #[]) ∧ MeshAt w' B a mb v ⟨m.ps, m.last, delCut m.cuts (lo x y) (hi x y)⟩ ∧ Only (Foot a mb v) w w' := by
  have hc2 := h.c2
  have HH := Lib.hid h; clear h
  go_enter Try.func15, Try.ntmps15
  go_wp2_with fail
  go_region_law (first
    | (go_simp
       go_at_call 31
       refine (of_any _ _ _).mono ?_
       rintro e w1 ⟨rfl, hb1⟩
       have hw1 : Below w.heap.size w w1 := (Below.refl _ w).drew.trans hb1
       have r2 := cell_later hw1 hc2)
    | (refine step_delete (x := lo x y) (y := hi x y) rfl (.tmp 11) (.tmp 14) rfl mb rfl rfl (HH.out.below hw1).cuts ?_
       intro w2 hC2 ho2))
  all_goals
    go_end0
    have h1 := HH.out.below hw1
    refine ⟨rfl, ⟨(ho2.block a h1.alt h1.amne).trans h1.heap, own_only h1.own ho2 (fun k hk he => h1.mne (by rw [hk, he])), hC2, h1.ba, h1.bm⟩, (Only.of_below hw1).trans ho2 (fun k _ hk => .inr (.inl hk))⟩
end Go.Proofs.Ytbgobcjnckoekaa
