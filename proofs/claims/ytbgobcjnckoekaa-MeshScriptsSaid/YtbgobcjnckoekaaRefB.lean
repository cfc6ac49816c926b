/- What is proved: the document's mesh: a packet at a place leaves it (out); its Packets. -/
import Derived.Test.YtbgobcjnckoekaaRefA
import Derived.Deep.RegionLaw
namespace Go.Proofs.Ytbgobcjnckoekaa
open Go.RowKit
attribute [local go_sem] Pkt.val

theorem RowAt.drop {w : World} {B size b off : Nat} {cs : List (List Value)} (h : RowAt w B size (some ⟨b, off, none⟩) cs) (k : Nat) : RowAt w B size (some ⟨b, off + k * size, none⟩) (cs.drop k) := by
  intro i c hc
  rw [List.getElem?_drop] at hc
  obtain ⟨b', off', hA, hb, hcell⟩ := h (k + i) c hc
  injection hA with hA
  injection hA with h1 h2
  subst h1; subst h2
  refine ⟨b, off + k * size, rfl, hb, fun j u hu => ?_⟩
  have := hcell j u hu
  rw [Nat.add_mul] at this
  rw [← this]
  congr 2
  omega

theorem wpList_app0 {P : Program} (w : World) {ops : Array Oper} {rest : List Oper} {o : Oper} {a : Act} {Q : Exit → Act → World → Prop} (hgd : o.guard = none) (s x : Operand) (t : TypeId)
    (ho : o.op = .call { callee := .builtin .append, args := #[s, x], argTypes := #[t, t] })
    (e : TypeId) (i : TypeInfo) (z : Value) (base size bytes : Nat) (ht : P.underlying t = some (.slice e)) (hi : P.info? e = some i) (hz : i.zero = some z)
    (hsize : i.size = size) (hby : i.bytes = bytes) (hzs : z.cells.size = size) (hsz : 0 < size)
    (v : Value) (hv : a.eval s = v) (hown : w.ownsRow base e size v 0 [])
    (B : Nat) (A : Option Addr) (m c : Nat) (cs : List (List Value)) (hx : a.eval x = .slice A m c) (hr : RowAt w B size A cs) (hs : ∀ c ∈ cs, c.length = size) (hm : cs.length = m) (h1 : ∀ u ∈ cs.flatten, u.oneCell' = true)
    (h63 : m ≤ maxLen) (hbytes : m * bytes ≤ 140737488355328) (hbase : base ≤ w.heap.size)
    (h : ∀ A' c' w', w'.ownsRow base e size (.slice A' m c') m cs.flatten → w.grownBy w' v.ownBlock → wpList P ops Q rest (a.put o.dst (.slice A' m c')) w') : wpList P ops Q (o :: rest) a w :=
  wpList_app w hgd s x t ho e i z base size bytes ht hi hz hsize hby hzs hsz v 0 [] hv hown B A m c cs hx hr hs hm h1 (by omega) (by rw [Nat.zero_add]; exact hbytes) hbase fun A' c' w' h1 h2 _ => by
    rw [Nat.zero_add] at h1 ⊢
    exact h A' c' w' (by simpa using h1) h2

theorem three_blocks {w w1 : World} {o1 o2 o3 : Obj} {row : Option Nat} (hg : (((w.alloc o1).alloc o2).alloc o3).grownBy w1 row) (hr : ∀ k, row = some k → w.heap.size + 1 + 1 ≤ k) :
    w1.heap[w.heap.size]? = some o1 ∧ w1.heap[w.heap.size + 1]? = some o2 ∧ Below w.heap.size w w1 ∧ w.heap.size + 1 < w1.heap.size := by
  have hs := hg.size
  simp at hs
  have hb : Below (w.heap.size + 1 + 1) ((w.alloc o1).alloc o2) w1 := (((Below.refl _ _).alloc (by simp) o3)).trans ⟨hg.os, hg.tape, hg.output, hg.size, fun k hk => hg.block k (by simp; omega) (fun e => by have := hr k e.symm; omega)⟩
  have hb0 : Below w.heap.size w ((w.alloc o1).alloc o2) := ((Below.refl _ _).alloc (Nat.le_refl _) _).alloc (by simp) _
  refine ⟨?_, ?_, hb0.trans (hb.mono (by omega)), by omega⟩
  · exact (hb.block _ (by omega)).trans ((Below.heap_alloc _ _ _ (by simp)).trans (heap_alloc_new w _))
  · refine (hb.block _ (by omega)).trans ?_
    have := heap_alloc_new (w.alloc o1) o2
    simpa using this
theorem erase_last {ps : List Pkt} {i : Nat} (h : ps.length = i + 1) : ((ps.eraseIdx i).map Pkt.cells).flatten = (ps.map Pkt.cells).flatten.take (i * 4) := by
  rw [erase_cells, List.drop_of_length_le (by rw [flat_len _ (cells_len ps)]; simp [h]), List.append_nil]

/-- The packets' slice is stored anew. -/
theorem ref_setL {w1 : World} {B a : Nat} {v v' u : Value} {last : Int} {ps : List Pkt} {cs : List (Int × Int)} (hh : w1.heap[a]? = some (.cells #[v, .int .i64 last, u] 46 (0, 0)))
    (hown : w1.ownsRow B 34 4 v' ps.length (ps.map Pkt.cells).flatten) (hne : v'.ownBlock ≠ some a) (hc : w1.ownsRow B 64 2 u cs.length (cs.map pairC).flatten) (hne2 : u.ownBlock ≠ some a) (hba : B ≤ a) : RefAt (w1.setCell ⟨a, 0, none⟩ v') B a v' u ⟨ps, last, cs⟩ :=
  ⟨heap_setCell_at hh v', own_only hown (only_setCell w1 _ v') (fun k hk he => hne (by rw [hk]; exact congrArg some he)), own_only hc (only_setCell w1 _ v') (fun k hk he => hne2 (by rw [hk]; exact congrArg some he)), hba⟩

set_option maxHeartbeats 1600000 in
theorem out_last (w : World) (B a g i : Nat) (u : Value) (r : R) (h : RefAt w B a (.slice (some ⟨g, 0, none⟩) (i + 1) (i + 1)) u r) (hl : r.ps.length = i + 1) (hi : i < r.ps.length) (hn : i + 1 ≤ 512) :
    Calls Try.prog 34 #[.pointer (some ⟨a, 0, none⟩), .int .i64 i] w fun e w' => e = .returned r.ps[i].val ∧
      (∃ v', RefAt w' B a v' u ⟨r.ps.eraseIdx i, r.last, r.cuts⟩ ∧ (v'.ownBlock = some g ∨ ∃ k, v'.ownBlock = some k ∧ w.heap.size ≤ k)) ∧ Only (RFoot a (.slice (some ⟨g, 0, none⟩) (i + 1) (i + 1)) u) w w' := by
  obtain ⟨i0, hi0, hz0, hz1, hz2⟩ := info_parts info34
  have hownR : w.ownsRow B 34 4 (.slice (some ⟨g, 0, none⟩) (i + 1) (i + 1)) (i + 1) (r.ps.map Pkt.cells).flatten := by have := h.own; rwa [hl] at this
  have hrow : RowAt w w.heap.size 4 (some ⟨g, 0, none⟩) (r.ps.map Pkt.cells) := rowAt_of_own hownR rfl (cells_len _) (by simp [hl])
  have hcap : i + 1 ≤ (i + 1) ∧ (i + 1) ≤ 9223372036854775807 := by
    rcases hownR.2 with ⟨h4, _⟩ | ⟨g', cap', cur, h4, _, _, hcap, hmax, _⟩
    · cases h4
    · injection h4 with h5 h6 h7
      subst h7
      exact ⟨hcap, by unfold maxLen at hmax; exact hmax⟩
  obtain ⟨hcap0, hcap1⟩ := hcap
  have halt := h.alt
  have hglt : g < w.heap.size := (hownR.lt g rfl).2
  have hc0 := h.c0
  have hf0 := h.fz 0
  have hag : a ≠ g := fun e => h.avne (by rw [e]; rfl)
  have hau := Lib.hid h.aune
  obtain ⟨b, off, hbo, hb, p0, p1, p2, p3⟩ := pkt_cells hrow i hi
  injection hbo with hbo
  injection hbo with hb1 hb2
  subst hb1; subst hb2
  rw [Nat.zero_add] at p0 p1 p2 p3
  have HH := Lib.hid h
  have Hrow := Lib.hid hrow
  have HO := Lib.hid hownR
  have Hba := Lib.hid h.ba
  have HL := Lib.hid hl
  have halt1 : a < w.heap.size + 1 := by omega
  have halt2 : a < w.heap.size + 1 + 1 := by omega
  have hic : i ≤ (i + 1) := by omega
  have hic1 : i + 1 ≤ (i + 1) := by omega
  have hic2 : i + 1 ≤ i + 1 := by omega
  have hic3 : 0 ≤ (i : Int) + 1 := by omega
  have hic4 : (i : Int) + 1 ≤ ((i : Int) + 1) := by omega
  have hic5 : (i : Int) + 1 ≤ ((i : Int) + 1) := by omega
  have hic6 : (i : Int) ≤ ((i : Int) + 1) := by omega
  have hne : ((i : Int) == (i : Int) + 1) = false := by simp; omega
  clear hownR hrow h hl
  go_enter Try.func34, Try.ntmps34
  go_wp2
  have hel : (r.ps.eraseIdx i).length = i := by rw [List.length_eraseIdx, if_pos hi, HL.out]; omega
  have hown2 : w.ownsRow B 34 4 (.slice (some ⟨g, 0, none⟩) i (i + 1)) (r.ps.eraseIdx i).length ((r.ps.eraseIdx i).map Pkt.cells).flatten := by rw [hel, erase_last HL.out]; exact own_take HO.out (by omega)
  have hM := ref_setL HH.out.heap hown2 (fun e => hag (Option.some.inj e).symm) HH.out.ownc (fun e => hau.out e.symm) Hba.out
  have hb3 : ∀ (W : World) o1 o2 o3, Below W.heap.size W (((W.alloc o1).alloc o2).alloc o3) := fun W o1 o2 o3 => (((Below.refl _ _).alloc (Nat.le_refl _) _).alloc (by simp) _).alloc (by simp; omega) _
  exact bodyPost_ret (v := r.ps[i].val) (by simp [results, Try.results34, go_sem, Pkt.val]) rfl ⟨rfl, ⟨_, hM.below (hb3 _ _ _ _), .inl rfl⟩, ((only_setCell w _ _).mono (fun k hk => .inl hk)).trans (Only.of_below (hb3 _ _ _ _)) (fun _ _ h => h)⟩

set_option maxHeartbeats 1600000 in
theorem out_zero (w : World) (B a g i cap : Nat) (u : Value) (r : R) (h : RefAt w B a (.slice (some ⟨g, 0, none⟩) (i + 1) cap) u r) (hl : r.ps.length = i + 1) (hi : i < r.ps.length) (hn : i + 1 ≤ 512) (hc : cap ≠ i + 1) :
    Calls Try.prog 34 #[.pointer (some ⟨a, 0, none⟩), .int .i64 i] w fun e w' => e = .returned r.ps[i].val ∧
      (∃ v', RefAt w' B a v' u ⟨r.ps.eraseIdx i, r.last, r.cuts⟩ ∧ (v'.ownBlock = some g ∨ ∃ k, v'.ownBlock = some k ∧ w.heap.size ≤ k)) ∧ Only (RFoot a (.slice (some ⟨g, 0, none⟩) (i + 1) cap) u) w w' := by
  obtain ⟨i0, hi0, hz0, hz1, hz2⟩ := info_parts info34
  have hownR : w.ownsRow B 34 4 (.slice (some ⟨g, 0, none⟩) (i + 1) cap) (i + 1) (r.ps.map Pkt.cells).flatten := by have := h.own; rwa [hl] at this
  have hrow : RowAt w w.heap.size 4 (some ⟨g, 0, none⟩) (r.ps.map Pkt.cells) := rowAt_of_own hownR rfl (cells_len _) (by simp [hl])
  have hcap : i + 1 ≤ cap ∧ cap ≤ 9223372036854775807 := by
    rcases hownR.2 with ⟨h4, _⟩ | ⟨g', cap', cur, h4, _, _, hcap, hmax, _⟩
    · cases h4
    · injection h4 with h5 h6 h7
      subst h7
      exact ⟨hcap, by unfold maxLen at hmax; exact hmax⟩
  obtain ⟨hcap0, hcap1⟩ := hcap
  have halt := h.alt
  have hglt : g < w.heap.size := (hownR.lt g rfl).2
  have hc0 := h.c0
  have hf0 := h.fz 0
  have hag : a ≠ g := fun e => h.avne (by rw [e]; rfl)
  have hau := Lib.hid h.aune
  obtain ⟨b, off, hbo, hb, p0, p1, p2, p3⟩ := pkt_cells hrow i hi
  injection hbo with hbo
  injection hbo with hb1 hb2
  subst hb1; subst hb2
  rw [Nat.zero_add] at p0 p1 p2 p3
  have HH := Lib.hid h
  have Hrow := Lib.hid hrow
  have HO := Lib.hid hownR
  have Hba := Lib.hid h.ba
  have HL := Lib.hid hl
  have halt1 : a < w.heap.size + 1 := by omega
  have halt2 : a < w.heap.size + 1 + 1 := by omega
  have hic : i ≤ cap := by omega
  have hic1 : i + 1 ≤ cap := by omega
  have hic2 : i + 1 ≤ i + 1 := by omega
  have hic3 : 0 ≤ (i : Int) + 1 := by omega
  have hic4 : (i : Int) + 1 ≤ ((i : Int) + 1) := by omega
  have hic5 : (i : Int) + 1 ≤ (cap : Int) := by omega
  have hic6 : (i : Int) ≤ (cap : Int) := by omega
  have hne : (cap == i + 1) = false := by simpa using hc
  clear hownR hrow h hl
  go_enter Try.func34, Try.ntmps34
  go_wp2
  have hel : (r.ps.eraseIdx i).length = i := by rw [List.length_eraseIdx, if_pos hi, HL.out]; omega
  have hown2 : w.ownsRow B 34 4 (.slice (some ⟨g, 0, none⟩) i cap) (r.ps.eraseIdx i).length ((r.ps.eraseIdx i).map Pkt.cells).flatten := by rw [hel, erase_last HL.out]; exact own_take HO.out (by omega)
  have hM := ref_setL HH.out.heap hown2 (fun e => hag (Option.some.inj e).symm) HH.out.ownc (fun e => hau.out e.symm) Hba.out
  have hb3 : ∀ (W : World) o1 o2 o3, Below W.heap.size W (((W.alloc o1).alloc o2).alloc o3) := fun W o1 o2 o3 => (((Below.refl _ _).alloc (Nat.le_refl _) _).alloc (by simp) _).alloc (by simp; omega) _
  exact bodyPost_ret (v := r.ps[i].val) (by simp [results, Try.results34, go_sem, Pkt.val]) rfl ⟨rfl, ⟨_, hM.below (hb3 _ _ _ _), .inl rfl⟩, ((only_setCell w _ _).mono (fun k hk => .inl hk)).trans (Only.of_below (hb3 _ _ _ _)) (fun _ _ h => h)⟩

set_option maxHeartbeats 1600000 in
theorem out_aux (w : World) (B a g i m cap : Nat) (u : Value) (r : R) (h : RefAt w B a (.slice (some ⟨g, 0, none⟩) (i + 1 + m) cap) u r) (hl : r.ps.length = i + 1 + m) (hi : i < r.ps.length) (hn : i + 1 + m ≤ 512) (h0 : 0 < m) :
    Calls Try.prog 34 #[.pointer (some ⟨a, 0, none⟩), .int .i64 i] w fun e w' => e = .returned r.ps[i].val ∧
      (∃ v', RefAt w' B a v' u ⟨r.ps.eraseIdx i, r.last, r.cuts⟩ ∧ (v'.ownBlock = some g ∨ ∃ k, v'.ownBlock = some k ∧ w.heap.size ≤ k)) ∧ Only (RFoot a (.slice (some ⟨g, 0, none⟩) (i + 1 + m) cap) u) w w' := by
  obtain ⟨i0, hi0, hz0, hz1, hz2⟩ := info_parts info34
  have hownR : w.ownsRow B 34 4 (.slice (some ⟨g, 0, none⟩) (i + 1 + m) cap) (i + 1 + m) (r.ps.map Pkt.cells).flatten := by have := h.own; rwa [hl] at this
  have hrow : RowAt w w.heap.size 4 (some ⟨g, 0, none⟩) (r.ps.map Pkt.cells) := rowAt_of_own hownR rfl (cells_len _) (by simp [hl])
  have hcap : i + 1 + m ≤ cap ∧ cap ≤ 9223372036854775807 := by
    rcases hownR.2 with ⟨h4, _⟩ | ⟨g', cap', cur, h4, _, _, hcap, hmax, _⟩
    · cases h4
    · injection h4 with h5 h6 h7
      subst h7
      exact ⟨hcap, by unfold maxLen at hmax; exact hmax⟩
  obtain ⟨hcap0, hcap1⟩ := hcap
  have halt := h.alt
  have hglt : g < w.heap.size := (hownR.lt g rfl).2
  have hc0 := h.c0
  have hf0 := h.fz 0
  have hag : a ≠ g := fun e => h.avne (by rw [e]; rfl)
  have hau := Lib.hid h.aune
  obtain ⟨b, off, hbo, hb, p0, p1, p2, p3⟩ := pkt_cells hrow i hi
  injection hbo with hbo
  injection hbo with hb1 hb2
  subst hb1; subst hb2
  rw [Nat.zero_add] at p0 p1 p2 p3
  have HH := Lib.hid h
  have Hrow := Lib.hid hrow
  have HO := Lib.hid hownR
  have Hba := Lib.hid h.ba
  have HL := Lib.hid hl
  have halt1 : a < w.heap.size + 1 := by omega
  have halt2 : a < w.heap.size + 1 + 1 := by omega
  have hic : i ≤ cap := by omega
  have hic1 : i + 1 ≤ cap := by omega
  have hic2 : i + 1 ≤ i + 1 + m := by omega
  have hic3 : 0 ≤ (i : Int) + 1 := by omega
  have hic4 : (i : Int) + 1 ≤ ((i : Int) + 1 + (m : Int)) := by omega
  have hic5 : (i : Int) + 1 ≤ (cap : Int) := by omega
  have hic6 : (i : Int) ≤ (cap : Int) := by omega
  have hne : (cap == i + 1) = false := by simp; omega
  have hm0 : (m == 0) = false := by simp; omega
  clear hownR hrow h hl
  have hmade : ∀ W : World, W.heap.size = w.heap.size + 1 + 1 → (W.alloc (.cells #[] 34)).ownsRow (w.heap.size + 1 + 1) 34 4 (.slice (some ⟨w.heap.size + 1 + 1, 0, none⟩) 0 0) 0 [] := fun W hW => by
    have := World.ownsRow_made (base := w.heap.size + 1 + 1) (e := 34) (size := 4) W #[] 0 (by omega) (Nat.zero_le _) rfl
    rwa [hW] at this
  have hrd : ∀ W : World, Below w.heap.size w W → RowAt W w.heap.size 4 (some ⟨g, (i + 1) * 4, none⟩) ((r.ps.map Pkt.cells).drop (i + 1)) := fun W hb => by
    have := Hrow.out.drop (i + 1)
    rw [Nat.zero_add] at this
    exact this.below hb (Nat.le_refl _)
  have hb3 : ∀ o1 o2 o3, Below w.heap.size w (((w.alloc o1).alloc o2).alloc o3) := fun o1 o2 o3 => (((Below.refl _ _).alloc (Nat.le_refl _) _).alloc (by simp) _).alloc (by simp; omega) _
  have hdl : ((r.ps.map Pkt.cells).drop (i + 1)).length = m := by simp [HL.out]
  have hd1 : ∀ u ∈ ((r.ps.map Pkt.cells).drop (i + 1)).flatten, u.oneCell' = true := by rw [flat_drop _ (cells_len _)]; exact pkts_one_drop _ _
  have hds : ∀ c ∈ (r.ps.map Pkt.cells).drop (i + 1), c.length = 4 := fun c hc => cells_len _ c (List.mem_of_mem_drop hc)
  have Hdl := Lib.hid hdl; have Hd1 := Lib.hid hd1; have Hds := Lib.hid hds; have Hmade := Lib.hid hmade; have Hrd := Lib.hid hrd; have Hb3 := Lib.hid hb3
  clear hdl hd1 hds hmade hrd hb3
  have hn1 : m ≤ maxLen := by unfold maxLen; omega
  have hn2 : m * 40 ≤ 140737488355328 := by omega
  have hn3 : i + m ≤ maxLen := by unfold maxLen; omega
  have hn4 : (i + m) * 40 ≤ 140737488355328 := by omega
  go_enter Try.func34, Try.ntmps34
  go_wp2_with (first
    | (at_builtin
       refine wpList_app0 _ rfl (.tmp 14) (.tmp 21) 27 rfl 34 i0 _ (w.heap.size + 1 + 1) 4 40 Try.underlying27 hi0 hz0 hz1 hz2 rfl (by omega) (.slice (some ⟨w.heap.size + 1 + 1, 0, none⟩) 0 0) rfl (Hmade.out _ (by simp)) w.heap.size _ _ _ ((r.ps.map Pkt.cells).drop (i + 1)) rfl (Hrd.out _ (Hb3.out _ _ _)) Hds.out Hdl.out Hd1.out hn1 hn2 (by simp) ?_
       intro A1 c1 w1 hown1 hg1
       obtain ⟨e1, e2, hb1, hs1⟩ := three_blocks hg1 (fun k hk => by have hk : w.heap.size + 1 + 1 = k := Option.some.inj hk; omega)
       have ha1 : w1.cell? ⟨a, 0, none⟩ = some (.slice (some ⟨g, 0, none⟩) (i + 1 + m) cap) := (hb1.cell halt).trans hc0
       have ha2 : w1.frozen? ⟨a, 0, none⟩ = false := (hb1.frozen halt).trans hf0
       have ho1 : w1.ownsRow B 34 4 (.slice (some ⟨g, 0, none⟩) i cap) i ((r.ps.map Pkt.cells).flatten.take (i * 4)) := own_take (own_only HO.out (Only.of_below (F := fun _ => False) hb1) (fun _ _ h => h)) (by omega)
       have H1 := Lib.hid hown1; have HO1 := Lib.hid ho1; have E1 := Lib.hid e1; have E2 := Lib.hid e2
       have hB1 : B ≤ w1.heap.size := by have := Hba.out; omega
       clear hown1 ho1 e1 e2)
    | (at_builtin
       refine wpList_app _ rfl (.tmp 29) (.tmp 30) 27 rfl 34 i0 _ B 4 40 Try.underlying27 hi0 hz0 hz1 hz2 rfl (by omega) (.slice (some ⟨g, 0, none⟩) i cap) i ((r.ps.map Pkt.cells).flatten.take (i * 4)) rfl HO1.out w1.heap.size A1 m c1 ((r.ps.map Pkt.cells).drop (i + 1)) rfl (rowAt_of_own H1.out rfl Hds.out Hdl.out) Hds.out Hdl.out Hd1.out hn3 hn4 hB1 ?_
       intro A2 c2 w2 hown2 hg2 hat2
       have hga : w2.heap[a]? = w1.heap[a]? := hg2.block a (by have := hb1.size; omega) (fun e => hag (Option.some.inj e))
       have hq1 : w2.cell? ⟨a, 0, none⟩ = some (.slice (some ⟨g, 0, none⟩) (i + 1 + m) cap) := (World.cell?_of_block (w := w1) (a := ⟨a, 0, none⟩) hga).trans ha1
       have hq2 : w2.frozen? ⟨a, 0, none⟩ = false := (World.frozen?_of_block (w := w1) (a := ⟨a, 0, none⟩) hga).trans ha2
       have f1 := (hg2.block w.heap.size (by omega) (fun e => by have e : w.heap.size = g := Option.some.inj e; omega)).trans E1.out
       have f2 := (hg2.block (w.heap.size + 1) (by omega) (fun e => by have e : w.heap.size + 1 = g := Option.some.inj e; omega)).trans E2.out
       obtain ⟨c0, c1', c2', c3, c4⟩ := blk4 f1
       obtain ⟨d0, d1, d2, d3, _⟩ := blk4 f2
       have hf0' := c4 0
       have hf1' := c4 1
       have hf2' := c4 2
       have hf3' := c4 3
       have hx1 : a ≠ w.heap.size := by omega
       have hx2 : w.heap.size ≠ a := by omega
       have hx3 : a ≠ w.heap.size + 1 := by omega
       have hx4 : w.heap.size + 1 ≠ a := by omega
       have H2 := Lib.hid hown2; have HA := Lib.hid hga; have HT := Lib.hid hat2
       clear hown2 hga f1 f2 c4 hat2))
  have hm := HH.out
  have hga := HA.out
  have hgv : ∀ k, (Value.slice A2 (i + m) c2).ownBlock = some k → k = g ∨ k = w1.heap.size := fun k hk => by
    rcases HT.out with h1 | h1
    · left; rw [h1] at hk; exact (Option.some.inj hk).symm
    · right; rw [h1] at hk; exact (Option.some.inj hk).symm
  have hs0 := hb1.size
  have hel : (r.ps.eraseIdx i).length = i + m := by rw [List.length_eraseIdx, if_pos hi, HL.out]; omega
  have hown3 : w2.ownsRow B 34 4 (.slice A2 (i + m) c2) (r.ps.eraseIdx i).length ((r.ps.eraseIdx i).map Pkt.cells).flatten := by
    rw [hel, erase_cells, ← flat_drop _ (cells_len _)]; exact H2.out
  have hoc : w2.ownsRow B 64 2 u r.cuts.length (r.cuts.map pairC).flatten := own_keep hm.ownc fun k hk he => (hg2.block k (by omega) (fun e => by
    have e : k = g := Option.some.inj e
    subst e
    exact hm.vune k rfl he)).trans (hb1.block k hk)
  have hM : RefAt (w2.setCell ⟨a, 0, none⟩ (.slice A2 (i + m) c2)) B a (.slice A2 (i + m) c2) u ⟨r.ps.eraseIdx i, r.last, r.cuts⟩ :=
    ref_setL (hga.trans ((hb1.block a halt).trans hm.heap)) hown3 (fun e => by
      rcases hgv a e with h | h
      · exact hag h
      · omega) hoc (fun e => hau.out e.symm) Hba.out
  have hfoot : ∀ k, k = w.heap.size → ¬ RFoot a (.slice A2 (i + m) c2) u k := by
    rintro k rfl (h | h | h)
    · omega
    · rcases hgv _ h with h | h <;> omega
    · have := (hm.ownc.lt _ h).2; omega
  have k1 : Only (RFoot a (.slice (some ⟨g, 0, none⟩) (i + 1 + m) cap) u) w w2 := (Only.of_below hb1).trans (Only.of_grown (F := RFoot a (.slice (some ⟨g, 0, none⟩) (i + 1 + m) cap) u) hg2 (fun k hk _ => .inr (.inl hk))) (fun _ _ h => h)
  have o1 : ∀ (wx : World) (j : Nat) (u : Value), Only (· = w.heap.size) wx (wx.setCell ⟨w.heap.size, j, none⟩ u) := fun wx j u => only_setCell wx ⟨w.heap.size, j, none⟩ u
  refine bodyPost_ret (v := r.ps[i].val) (by simp [results, Try.results34, go_sem, Pkt.val, c0, c1', c2', c3, hx1]) rfl ⟨rfl, ⟨_, RefAt.only (RefAt.only (RefAt.only (RefAt.only hM (o1 _ _ _) hfoot) (o1 _ _ _) hfoot) (o1 _ _ _) hfoot) (o1 _ _ _) hfoot, ?_⟩, ?_⟩
  · rcases HT.out with h1 | h1
    · exact .inl h1
    · exact .inr ⟨_, h1, hs0⟩
  refine (((((k1.trans (only_setCell w2 _ _) (fun k _ h => .inl h)).trans (o1 _ _ _) ?_).trans (o1 _ _ _) ?_).trans (o1 _ _ _) ?_).trans (o1 _ _ _) ?_)
  all_goals exact fun k hk h => by omega

/-- out: the packet at a place leaves. -/
theorem out_any (w : World) (B a i : Nat) (v u : Value) (r : R) (h : RefAt w B a v u r) (hi : i < r.ps.length) (hn : r.ps.length ≤ 512) :
    Calls Try.prog 34 #[.pointer (some ⟨a, 0, none⟩), .int .i64 i] w fun e w' => e = .returned r.ps[i].val ∧
      (∃ v', RefAt w' B a v' u ⟨r.ps.eraseIdx i, r.last, r.cuts⟩ ∧ (v'.ownBlock = v.ownBlock ∨ ∃ k, v'.ownBlock = some k ∧ w.heap.size ≤ k)) ∧ Only (RFoot a v u) w w' := by
  obtain ⟨g, cap, hv, _, _⟩ := h.own.form (by omega)
  obtain ⟨m, hm⟩ : ∃ m, r.ps.length = i + 1 + m := ⟨r.ps.length - (i + 1), by omega⟩
  subst hv
  rw [hm] at h hn
  cases m with
  | zero =>
    by_cases hc : cap = i + 1
    · subst hc
      exact out_last w B a g i u r h hm hi hn
    · exact out_zero w B a g i cap u r h hm hi hn hc
  | succ m => exact out_aux w B a g i (m + 1) cap u r h hm hi hn (by omega)

end Go.Proofs.Ytbgobcjnckoekaa
