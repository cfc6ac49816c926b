/- What is proved: MeshOnce answers true, whatever it is handed. -/
import Derived.Test.YtbgobcjnckoekaaAwake
import Derived.Deep.DeepCutAuto
import Derived.Deep.CutBlock
import Derived.Deep.RegionHeld3
namespace Go.Proofs.Ytbgobcjnckoekaa
open Go.RowKit
attribute [local go_sem] Pkt.val

structure DoD where
  kind : Int
  x : Int
  y : Int
  body : ByteArray
def DoD.cells (d : DoD) : List Value := [.int .i64 d.kind, .int .i64 d.x, .int .i64 d.y, .string d.body]
theorem do_cells {w : World} {B : Nat} {A : Option Addr} {ps : List DoD} (h : RowAt w B 4 A (ps.map DoD.cells)) (k : Nat) (hk : k < ps.length) :
    ∃ b off, A = some ⟨b, off, none⟩ ∧ b < B ∧ w.cell? ⟨b, off + k * 4, none⟩ = some (.int .i64 ps[k].kind) ∧ w.cell? ⟨b, off + k * 4 + 1, none⟩ = some (.int .i64 ps[k].x) ∧
      w.cell? ⟨b, off + k * 4 + 2, none⟩ = some (.int .i64 ps[k].y) ∧ w.cell? ⟨b, off + k * 4 + 3, none⟩ = some (.string ps[k].body) := by
  obtain ⟨b, off, hA, hb, hc⟩ := h k ps[k].cells (by simp [hk])
  exact ⟨b, off, hA, hb, hc 0 _ rfl, hc 1 _ rfl, hc 2 _ rfl, hc 3 _ rfl⟩
theorem int_cells {w : World} {B : Nat} {A : Option Addr} {ns : List Int} (h : RowAt w B 1 A (ns.map fun n => [.int .i64 n])) (k : Nat) (hk : k < ns.length) :
    ∃ b off, A = some ⟨b, off, none⟩ ∧ b < B ∧ w.cell? ⟨b, off + k, none⟩ = some (.int .i64 ns[k]) := by
  obtain ⟨b, off, hA, hb, hc⟩ := h k [.int .i64 ns[k]] (by simp [hk])
  have := hc 0 _ rfl
  rw [Nat.mul_one, Nat.add_zero] at this
  exact ⟨b, off, hA, hb, this⟩

def noCut : Int → Int → Bool := fun _ _ => false
def Apart (v u : Value) : Prop := ∀ k, v.ownBlock = some k → u.ownBlock ≠ some k

/-- The mesh and the list of what is wanted hold the same packets, numbered from 1 on. -/
structure Same2 (W w : World) (a mb : Nat) (want : Value) (n : Nat) (ps : List Pkt) (v : Value) : Prop where
  mesh : MeshAt w W.heap.size a mb v ⟨ps, ps.length, noCut⟩
  own : w.ownsRow W.heap.size 34 4 want ps.length (ps.map Pkt.cells).flatten
  len : ps.length ≤ n
  ids : ∀ k (h : k < ps.length), ps[k].id = (k : Int) + 1
  apart : Apart v want
  bel : Below W.heap.size W w
def Once (W : World) (a mb : Nat) (want : Value) (n : Nat) (w : World) : Prop := ∃ ps v, Same2 W w a mb want n ps v

theorem own_ne {w : World} {B base a mb n : Nat} {v u : Value} {m : M} {xs : List Value} (h : MeshAt w B a mb v m) (hu : w.ownsRow base 34 4 u n xs) : u.ownBlock ≠ some a ∧ u.ownBlock ≠ some mb := by
  constructor
  · intro hk
    have h0 := h.heap
    rcases hu.2 with ⟨hw, _⟩ | ⟨g, cap, cur, hw, _, hg, _⟩
    · subst hw; simp [Value.ownBlock] at hk
    · subst hw; simp [Value.ownBlock] at hk; subst hk; rw [h0] at hg; injection hg with hg; injection hg with _ ht; exact absurd ht (by decide)
  · intro hk
    obtain ⟨es, clock, h0, _⟩ := h.cuts
    rcases hu.2 with ⟨hw, _⟩ | ⟨g, cap, cur, hw, _, hg, _⟩
    · subst hw; simp [Value.ownBlock] at hk
    · subst hw; simp [Value.ownBlock] at hk; subst hk; rw [h0] at hg; cases hg
theorem drewB (w : World) : Below w.heap.size w w.drew := (Below.refl _ w).drew
/-- Both are told of the same packet: what the mesh was sent, and what is wanted now. -/
theorem Same2.send {W w w' : World} {a mb : Nat} {want : Value} {n : Nat} {ps : List Pkt} {v : Value} (h : Same2 W w a mb want n ps v) {p : Pkt} {v' : Value} (hm : MeshAt w' W.heap.size a mb v' ⟨ps ++ [p], (ps.length : Int) + 1, noCut⟩)
    (hv : v'.ownBlock = v.ownBlock ∨ ∃ k, v'.ownBlock = some k ∧ w.heap.size ≤ k) (ho : Only (Foot a mb v) w w') :
    w'.ownsRow W.heap.size 34 4 want ps.length (ps.map Pkt.cells).flatten ∧ Apart v' want ∧ Below W.heap.size W w' := by
  refine ⟨own_only h.own ho ?_, ?_, ho.below h.bel h.mesh.foot h.bel.size⟩
  · rintro k hk (rfl | rfl | hf)
    · exact (own_ne h.mesh h.own).1 hk
    · exact (own_ne h.mesh h.own).2 hk
    · exact h.apart k hf hk
  · intro k hk hw
    rcases hv with hv | ⟨j, hj, hle⟩
    · exact h.apart k (hv ▸ hk) hw
    · rw [hj] at hk; injection hk with hk; subst hk
      have := (h.own.lt j hw).2
      omega

/-- .. and the list of what is wanted has been appended to. -/
theorem same2_app {W w w1 w' : World} {a mb : Nat} {want : Value} {n : Nat} {ps : List Pkt} {v' want' : Value} {p : Pkt} (hm : MeshAt w W.heap.size a mb v' ⟨ps ++ [p], (ps.length : Int) + 1, noCut⟩)
    (hid : p.id = (ps.length : Int) + 1) (hids : ∀ k (h : k < ps.length), ps[k].id = (k : Int) + 1) (hlen : ps.length ≤ n) (hown : w.ownsRow W.heap.size 34 4 want ps.length (ps.map Pkt.cells).flatten) (hap : Apart v' want) (hb : Below W.heap.size W w)
    (h1 : Below w.heap.size w w1) (hg : w1.grownBy w' want.ownBlock) (hown' : w'.ownsRow W.heap.size 34 4 want' (ps.length + 1) ((ps.map Pkt.cells).flatten ++ [p.cells].flatten)) (hat : want'.ownBlock = want.ownBlock ∨ want'.ownBlock = some w1.heap.size) : Once W a mb want' (n + 1) w' := by
  refine ⟨ps ++ [p], v', ?_, by simpa using hown', by simp; omega, ?_, ?_, ?_⟩
  · have hm1 := hm.below h1
    have hm2 : MeshAt w' W.heap.size a mb v' ⟨ps ++ [p], (ps.length : Int) + 1, noCut⟩ := by
      refine hm1.only (F := fun k => want.ownBlock = some k) (Only.of_grown hg (fun k hk _ => hk)) ?_
      rintro k hk (rfl | rfl | hf)
      · exact (own_ne hm hown).1 hk
      · exact (own_ne hm hown).2 hk
      · exact hap k hf hk
    have e : ((ps ++ [p]).length : Int) = (ps.length : Int) + 1 := by simp
    rw [e]; exact hm2
  · intro k hk
    rcases Nat.lt_or_ge k ps.length with h | h
    · rw [List.getElem_append_left h]; exact hids k h
    · have : k = ps.length := by simp at hk; omega
      subst this
      simp [hid]
  · intro k hk hw
    rcases hat with h | h
    · exact hap k hk (h ▸ hw)
    · rw [h] at hw; injection hw with hw
      have := foot_lt hm k (.inr (.inr hk))
      have := h1.size
      omega
  · exact (hb.trans (h1.mono hb.size)).grown hg (Nat.le_trans hb.size h1.size) (fun k hk => (hown.lt k hk).1)

theorem Same2.below {W w w' : World} {a mb : Nat} {want : Value} {n : Nat} {ps : List Pkt} {v : Value} (h : Same2 W w a mb want n ps v) (hb : Below w.heap.size w w') : Same2 W w' a mb want n ps v :=
  ⟨h.mesh.below hb, own_only h.own (Only.of_below (F := fun _ => False) hb) (fun _ _ h => h), h.len, h.ids, h.apart, h.bel.trans (hb.mono h.bel.size)⟩
theorem Same2.up {W w : World} {a mb : Nat} {want : Value} {n n' : Nat} {ps : List Pkt} {v : Value} (h : Same2 W w a mb want n ps v) (hn : n ≤ n') : Same2 W w a mb want n' ps v :=
  ⟨h.mesh, h.own, Nat.le_trans h.len hn, h.ids, h.apart, h.bel⟩
/-- The mesh has one packet more than what is wanted. -/
structure Mid2 (W w : World) (a mb : Nat) (want : Value) (n : Nat) (ps : List Pkt) (p : Pkt) (v : Value) : Prop where
  mesh : MeshAt w W.heap.size a mb v ⟨ps ++ [p], (ps.length : Int) + 1, noCut⟩
  own : w.ownsRow W.heap.size 34 4 want ps.length (ps.map Pkt.cells).flatten
  len : ps.length ≤ n
  ids : ∀ k (h : k < ps.length), ps[k].id = (k : Int) + 1
  apart : Apart v want
  bel : Below W.heap.size W w
theorem Mid2.below {W w w' : World} {a mb : Nat} {want : Value} {n : Nat} {ps : List Pkt} {p : Pkt} {v : Value} (h : Mid2 W w a mb want n ps p v) (hb : Below w.heap.size w w') : Mid2 W w' a mb want n ps p v :=
  ⟨h.mesh.below hb, own_only h.own (Only.of_below (F := fun _ => False) hb) (fun _ _ h => h), h.len, h.ids, h.apart, h.bel.trans (hb.mono h.bel.size)⟩

/-- The mesh holds what is wanted from place k on. -/
structure Left2 (W w : World) (a mb : Nat) (want : Value) (ps : List Pkt) (k : Nat) (v : Value) : Prop where
  mesh : MeshAt w W.heap.size a mb v ⟨ps.drop k, ps.length, noCut⟩
  own : w.ownsRow W.heap.size 34 4 want ps.length (ps.map Pkt.cells).flatten
  apart : Apart v want
  bel : Below W.heap.size W w
theorem Left2.below {W w w' : World} {a mb : Nat} {want : Value} {ps : List Pkt} {k : Nat} {v : Value} (h : Left2 W w a mb want ps k v) (hb : Below w.heap.size w w') : Left2 W w' a mb want ps k v :=
  ⟨h.mesh.below hb, own_only h.own (Only.of_below (F := fun _ => False) hb) (fun _ _ h => h), h.apart, h.bel.trans (hb.mono h.bel.size)⟩
theorem free_no (p : Pkt) : freeB noCut p = true := rfl
theorem Left2.next {W w : World} {a mb : Nat} {want : Value} {ps : List Pkt} {k : Nat} {v : Value} (h : Left2 W w a mb want ps k v) (hk : k < ps.length) :
    Calls Try.prog 11 #[.pointer (some ⟨a, 0, none⟩)] w fun e w' => e = .returned (.tuple #[ps[k].val, .bool true]) ∧ (∃ v', Left2 W w' a mb want ps (k + 1) v') ∧ w.heap.size ≤ w'.heap.size := by
  have hd : 0 < (ps.drop k).length := by rw [List.length_drop]; omega
  have h0 : (ps.drop k)[0] = ps[k] := by simp
  have hx : idxOf (freeB noCut) (ps.drop k) = ((0 : Nat) : Int) := idxOf_found hd (fun j hj => absurd hj (by omega)) (free_no _)
  have hc := Next_some w W.heap.size a mb v ⟨ps.drop k, ps.length, noCut⟩ 0 h.mesh hd hx
  refine hc.mono fun e w' ⟨h1, ⟨v', h2, h3⟩, h4⟩ => ⟨by rw [h1]; show Ending.returned (.tuple #[((ps.drop k)[0]).val, .bool true]) = _; rw [h0], ⟨v', ?_, ?_, ?_, ?_⟩, h4.size⟩
  · have e : (ps.drop k).eraseIdx 0 = ps.drop (k + 1) := by
      rw [List.drop_eq_getElem_cons hk]; rfl
    have h2' : MeshAt w' W.heap.size a mb v' ⟨(ps.drop k).eraseIdx 0, ps.length, noCut⟩ := h2
    rw [e] at h2'; exact h2'
  · refine own_only h.own h4 ?_
    rintro j hj (rfl | rfl | hf)
    · exact (own_ne h.mesh h.own).1 hj
    · exact (own_ne h.mesh h.own).2 hj
    · exact h.apart j hf hj
  · intro j hj; rw [h3] at hj; exact h.apart j hj
  · exact h4.below h.bel h.mesh.foot h.bel.size
theorem Left2.last {W w : World} {a mb : Nat} {want : Value} {ps : List Pkt} {v : Value} (h : Left2 W w a mb want ps ps.length v) :
    Calls Try.prog 11 #[.pointer (some ⟨a, 0, none⟩)] w fun e w' => e = .returned (.tuple #[zeroP.val, .bool false]) ∧ Left2 W w' a mb want ps ps.length v ∧ w.heap.size ≤ w'.heap.size := by
  have hm := h.mesh
  have hx : idxOf (freeB noCut) (ps.drop ps.length) = -1 := idxOf_none fun j hj => by simp at hj
  exact (Next_none w W.heap.size a mb v _ hm hx).mono fun e w' ⟨h1, h2⟩ => ⟨h1, h.below h2, h2.size⟩
theorem Left2.flight {W w : World} {a mb : Nat} {want : Value} {ps : List Pkt} {v : Value} (h : Left2 W w a mb want ps ps.length v) :
    Calls Try.prog 12 #[.pointer (some ⟨a, 0, none⟩)] w fun e w' => ∃ A' c', e = .returned (.slice A' 0 c') ∧ Below W.heap.size W w' := by
  refine (Flight_any w W.heap.size a mb v _ h.mesh (by simp)).mono fun e w' ⟨A', c', h1, _, h3⟩ => ⟨A', c', ?_, h.bel.trans (h3.mono h.bel.size)⟩
  rw [h1]; simp

set_option maxRecDepth 100000 in
set_option maxHeartbeats 8000000 in
theorem once_any (w : World) (A0 A1 : Option Addr) (cap0 cap1 : Nat) (dos : List DoD) (tw : List Int) (hrow : RowAt w w.heap.size 4 A0 (dos.map DoD.cells)) (htw : RowAt w w.heap.size 1 A1 (tw.map fun n => [.int .i64 n]))
    (hl0 : dos.length ≤ 9223372036854775807) (hl1 : tw.length ≤ 9223372036854775807) (hsz : ∀ d ∈ dos, d.body.size ≤ 9223372036854775807) :
    Calls Try.prog 3 #[.slice A0 dos.length cap0, .slice A1 tw.length cap1] w fun e w' => e = .returned (.bool true) ∧ Below w.heap.size w w' := by
  have Hsz := Lib.hid hsz; clear hsz
  go_enter Try.func3, Try.ntmps3
  go_upto_block 0 with (first
    | (go_at_call 7
       refine (awake_any _).mono ?_
       rintro e w1 ⟨rfl, hb1⟩)
    | (go_at_call 8
       refine (New_any _).mono ?_
       rintro e w2 ⟨rfl, hm2, hb2⟩
       have hO : Once w (w1.heap.size + 1) w1.heap.size (.slice none 0 0) 0 w2 :=
         ⟨[], .slice none 0 0, ⟨⟨hm2.heap, World.ownsRow_nil _ _ _ _, hm2.cuts, Nat.le_trans hb1.size hm2.ba, Nat.le_trans hb1.size hm2.bm⟩, World.ownsRow_nil _ _ _ _, Nat.le_refl _, fun k h => absurd h (by simp), fun k h => by simp [Value.ownBlock] at h, hb1.trans (hb2.mono hb1.size)⟩⟩
       have HO := Lib.hid hO
       clear hm2 hO))
  clear hb2 hb1
  generalize w1.heap.size + 1 = a at *
  generalize w1.heap.size = mb at *
  clear w1
  go_cut [6] (fun want wx => Once w a mb want 400 wx)
  case first =>
    go_wp2_with fail
    go_loopw [6, 7] (fun want i wr => ∃ n : Nat, n ≤ dos.length ∧ n ≤ 400 ∧ i = .int .i64 n ∧ Once w a mb want n wr) (fun _ i _ => dos.length - (intOf i).toNat)
    case atStart => exact ⟨0, Nat.zero_le _, Nat.zero_le _, rfl, HO.out⟩
    case round =>
      obtain ⟨n, hn, hn4, rfl, hO⟩ := hrel
      clear HO
      have HO := Lib.hid hO; clear hO
      by_cases hlt : n < dos.length ∧ n < 400
      · obtain ⟨h1, h2⟩ := hlt
        obtain ⟨ps, v, hS⟩ := HO.out
        obtain ⟨b, off, rfl, hb, k0, k1, k2, k3⟩ := do_cells hrow n h1
        have r1 := (hS.bel.cell (p := ⟨b, off + n * 4 + 1, none⟩) hb).trans k1
        have r2 := (hS.bel.cell (p := ⟨b, off + n * 4 + 2, none⟩) hb).trans k2
        have r3 := (hS.bel.cell (p := ⟨b, off + n * 4 + 3, none⟩) hb).trans k3
        have hszn : dos[n].body.size ≤ 9223372036854775807 := Hsz.out _ (List.getElem_mem h1)
        have HS := Lib.hid hS; clear hS k0 k1 k2 k3
        have i0' : (0 : Int) ≤ (n : Int) := by omega
        have i1' : (n : Int) < (dos.length : Int) := by omega
        by_cases hbig : 65536 < dos[n].body.size
        · go_wp2_with fail
          go_region_held3 (fun w' => w'.cell? ⟨b, off + n * 4 + 1, none⟩ = some (.int .i64 dos[n].x) ∧ w'.cell? ⟨b, off + n * 4 + 2, none⟩ = some (.int .i64 dos[n].y) ∧ w'.cell? ⟨b, off + n * 4 + 3, none⟩ = some (.string dos[n].body))
            (first
              | go_keep
              | exact ⟨r1, r2, r3⟩)
            (first
              | (go_simp
                 go_at_call 9
                 refine (Send_long _ a _ _ _ hbig hszn).mono ?_
                 rintro e w' ⟨rfl, rfl⟩))
          go_wp2_with fail
          go_roundw
          case rel => exact ⟨n + 1, by omega, by omega, by go_num, by
            obtain ⟨ps, v, hS⟩ := HO.out
            exact ⟨ps, v, ⟨hS.mesh.below (drewB wr), hS.own, by have := hS.len; omega, hS.ids, hS.apart, hS.bel.drew⟩⟩⟩
          case measure => simp [intOf]; omega
        · have hsm : dos[n].body.size ≤ 65536 := by omega
          have hps : ps.length ≤ n := HS.out.len
          have hroom : (M.mk ps ps.length noCut).ps.length < 512 := by show ps.length < 512; omega
          have hla : 0 ≤ (M.mk ps ps.length noCut).last := by show (0 : Int) ≤ (ps.length : Int); omega
          have hlb : (M.mk ps ps.length noCut).last ≤ 4611686018427387904 := by show (ps.length : Int) ≤ 4611686018427387904; omega
          have hbw : w.heap.size ≤ wr.heap.size := HS.out.bel.size
          obtain ⟨i0, hi0, hz0, hz1, hz2⟩ := info_parts info34
          have hone : ∀ u ∈ [[Value.int .i64 ((ps.length : Int) + 1), .int .i64 dos[n].x, .int .i64 dos[n].y, .string dos[n].body]].flatten, u.oneCell' = true := by
            intro u hu; simp at hu; rcases hu with rfl | rfl | rfl | rfl <;> rfl
          have hn0 : ps.length + 1 ≤ maxLen := by unfold maxLen; omega
          have hn1 : (ps.length + 1) * 40 ≤ 140737488355328 := by omega
          have Hone := Lib.hid hone
          clear hone
          go_wp2_with fail
          go_region_held3 (fun w' => w'.cell? ⟨b, off + n * 4 + 1, none⟩ = some (.int .i64 dos[n].x) ∧ w'.cell? ⟨b, off + n * 4 + 2, none⟩ = some (.int .i64 dos[n].y) ∧ w'.cell? ⟨b, off + n * 4 + 3, none⟩ = some (.string dos[n].body))
            (first
              | go_keep
              | exact ⟨s1, s2, s3⟩)
            (first
              | (go_simp
                 go_at_call 9
                 refine (Send_some _ w.heap.size a mb v ⟨ps, ps.length, noCut⟩ _ _ _ (HS.out.mesh.below (drewB wr)) hsm hroom hla hlb).mono ?_
                 rintro e w3 ⟨rfl, hm3, ho3⟩
                 have hfar : ¬ Foot a mb v b := fun hf => by have := HS.out.mesh.foot _ hf; omega
                 have s1 := (ho3.cell (p := ⟨b, off + n * 4 + 1, none⟩) (by simp; omega) hfar).trans r1
                 have s2 := (ho3.cell (p := ⟨b, off + n * 4 + 2, none⟩) (by simp; omega) hfar).trans r2
                 have s3 := (ho3.cell (p := ⟨b, off + n * 4 + 3, none⟩) (by simp; omega) hfar).trans r3
                 have HM3 := Lib.hid hm3
                 clear hm3))
          obtain ⟨v3, hm3, hv3⟩ := HM3.out
          have hS' : Same2 w wr.drew a mb u6 n ps v := ⟨HS.out.mesh.below (drewB wr), HS.out.own, HS.out.len, HS.out.ids, HS.out.apart, HS.out.bel.drew⟩
          obtain ⟨own3, ap3, bel3⟩ := hS'.send hm3 hv3 ho3
          have Hm := Lib.hid hm3; have Hown := Lib.hid own3
          have hr0 : RowAt ((w3.alloc (.cells #[.int .i64 ((ps.length : Int) + 1), .int .i64 dos[n].x, .int .i64 dos[n].y, .string dos[n].body] 34)).drew) (w3.heap.size + 1) 4 (some ⟨w3.heap.size, 0, none⟩) [[.int .i64 ((ps.length : Int) + 1), .int .i64 dos[n].x, .int .i64 dos[n].y, .string dos[n].body]] :=
            rowAt_one (t := 34) (fr := (0, 0)) (heap_alloc_new w3 _) (by omega)
          have Hr0 := Lib.hid hr0
          have hbw3 : w.heap.size ≤ w3.heap.size := bel3.size
          have hn2 : w.heap.size ≤ ((w3.alloc (.cells #[.int .i64 ((ps.length : Int) + 1), .int .i64 dos[n].x, .int .i64 dos[n].y, .string dos[n].body] 34)).drew).heap.size := by simp; omega
          have hs0 : ∀ c ∈ [[Value.int .i64 ((ps.length : Int) + 1), .int .i64 dos[n].x, .int .i64 dos[n].y, .string dos[n].body]], c.length = 4 := by simp
          have Hs0 := Lib.hid hs0
          have HB3 := Lib.hid bel3
          clear hm3 own3 hr0 hS' hs0 hv3 bel3
          go_wp2_with fail
          go_region_held3 (fun w' => w'.cell? ⟨b, off + n * 4 + 1, none⟩ = some (.int .i64 dos[n].x) ∧ w'.cell? ⟨b, off + n * 4 + 2, none⟩ = some (.int .i64 dos[n].y) ∧ w'.cell? ⟨b, off + n * 4 + 3, none⟩ = some (.string dos[n].body))
            (first
              | go_keep
              | exact ⟨z1, z2, z3⟩)
            (first
              | (refine step_app _ (by rfl) (.tmp 61) (.tmp 79) 27 (by rfl) 34 i0 _ w.heap.size 4 40 Try.underlying27 hi0 hz0 hz1 hz2 rfl (by omega) u6 ps.length (ps.map Pkt.cells).flatten (by rfl) ((Hown.out.alloc _).drew) (w3.heap.size + 1) (some ⟨w3.heap.size, 0, none⟩) 1 1 [[.int .i64 ((ps.length : Int) + 1), .int .i64 dos[n].x, .int .i64 dos[n].y, .string dos[n].body]] (by rfl) Hr0.out Hs0.out rfl Hone.out hn0 hn1 hn2 ?_
                 intro A4 c4 w4 hown4 hg4 hat4
                 have hb3 : b < w3.heap.size := by omega
                 have hfw : some b ≠ u6.ownBlock := fun he => by have := (Hown.out.lt b he.symm).1; omega
                 have z1 := (hg4.cell_far ⟨b, off + n * 4 + 1, none⟩ (by simp; omega) hfw).trans ((World.cell?_alloc_lt w3 _ ⟨b, off + n * 4 + 1, none⟩ hb3).trans s1)
                 have z2 := (hg4.cell_far ⟨b, off + n * 4 + 2, none⟩ (by simp; omega) hfw).trans ((World.cell?_alloc_lt w3 _ ⟨b, off + n * 4 + 2, none⟩ hb3).trans s2)
                 have z3 := (hg4.cell_far ⟨b, off + n * 4 + 3, none⟩ (by simp; omega) hfw).trans ((World.cell?_alloc_lt w3 _ ⟨b, off + n * 4 + 3, none⟩ hb3).trans s3)))
          go_wp2_with fail
          go_roundw
          case rel => exact ⟨n + 1, by omega, by omega, by go_num, same2_app (p := ⟨(ps.length : Int) + 1, dos[n].x, dos[n].y, dos[n].body⟩) Hm.out rfl HS.out.ids HS.out.len Hown.out ap3 HB3.out ((al _).drew) hg4 hown4 hat4⟩
          case measure => simp [intOf]; omega
      · have hO4 : Once w a mb u6 400 wr := by
          obtain ⟨ps, v, hS⟩ := HO.out
          exact ⟨ps, v, ⟨hS.mesh, hS.own, by have := hS.len; omega, hS.ids, hS.apart, hS.bel⟩⟩
        have HO4 := Lib.hid hO4
        clear hO4
        by_cases h1 : n < dos.length
        · have h2 : n = 400 := by omega
          subst h2
          go_wp2_with fail
          go_meet
          exact HO4.out
        · have i1' : ¬ (n : Int) < (dos.length : Int) := by omega
          go_wp2_with fail
          go_meet
          exact HO4.out
  case rest =>
    clear HO
    have HO := Lib.hid hcut; clear hcut
    go_upto_block 2 with fail
    go_cut [6] (fun want wx => Once w a mb want 500 wx)
    case first =>
      go_wp2_with fail
      go_loopw [6, 10] (fun want i wr => ∃ n : Nat, n ≤ tw.length ∧ n ≤ 100 ∧ i = .int .i64 n ∧ Once w a mb want (400 + n) wr) (fun _ i _ => tw.length - (intOf i).toNat)
      case atStart => exact ⟨0, Nat.zero_le _, Nat.zero_le _, rfl, HO.out⟩
      case round =>
        obtain ⟨n, hn, hn4, rfl, hO⟩ := hrel
        clear HO
        have HO := Lib.hid hO; clear hO
        by_cases hlt : n < tw.length ∧ n < 100
        · obtain ⟨h1, h2⟩ := hlt
          obtain ⟨ps, v, hS⟩ := HO.out
          obtain ⟨b, off, rfl, hb, k0⟩ := int_cells htw n h1
          obtain ⟨A6, c6, rfl, hc6, hm6⟩ := own_shape hS.own
          have r1 := (hS.bel.cell (p := ⟨b, off + n, none⟩) hb).trans k0
          have hps : ps.length ≤ 400 + n := hS.len
          have i0' : (0 : Int) ≤ (n : Int) := by omega
          have i1' : (n : Int) < (tw.length : Int) := by omega
          rcases idxOf_cases (hasId tw[n]) ps with hx | ⟨k, hk, hx⟩
          · have hno := Lib.hid (idxOf_no hx)
            have hD := Lib.hid (Double_none wr w.heap.size a mb v ⟨ps, ps.length, noCut⟩ tw[n] hS.mesh hx)
            have HS := Lib.hid hS
            clear hx hS k0
            go_wp2_with (
              (go_at_call 10
               refine hD.out.mono ?_
               rintro e w1 ⟨rfl, hb1⟩))
            go_loopw [6, 13] (fun want kv wr2 => ∃ i : Nat, i ≤ ps.length ∧ want = .slice A6 ps.length c6 ∧ kv = .int .i64 i ∧ Same2 w wr2 a mb (.slice A6 ps.length c6) (400 + n) ps v) (fun _ kv _ => ps.length - (intOf kv).toNat)
            case atStart => exact ⟨0, Nat.zero_le _, rfl, rfl, HS.out.below hb1⟩
            case round =>
              rename_i wr2
              obtain ⟨i, hi, rfl, rfl, hS2⟩ := hrel
              have r2 := (hS2.bel.cell (p := ⟨b, off + n, none⟩) hb).trans ((HS.out.bel.cell (p := ⟨b, off + n, none⟩) hb).symm.trans r1)
              by_cases hil : i < ps.length
              · obtain ⟨b6, off6, rfl, hb6, q0, _⟩ := pkt_cells (rowAt_of_own hS2.own rfl (cells_len ps) (by simp)) i hil
                have hne : (ps[i].id == tw[n]) = false := hno.out i hil
                have HS2 := Lib.hid hS2; clear hS2
                have j0' : (0 : Int) ≤ (i : Int) := by omega
                have j1' : (i : Int) < (ps.length : Int) := by omega
                go_wp2_with fail
                go_quiet (fail)
                go_wp2_with fail
                go_roundw
                case rel => exact ⟨i + 1, by omega, rfl, by go_num, HS2.out.below ⟨rfl, rfl, rfl, Nat.le_refl _, fun _ _ => rfl⟩⟩
                case measure => simp [intOf]; omega
              · have j1' : ¬ (i : Int) < (ps.length : Int) := by omega
                have HS2 := Lib.hid hS2; clear hS2
                go_wp2_with fail
                go_roundw
                case rel => exact ⟨n + 1, by omega, by omega, by go_num, ps, v, HS2.out.up (by omega)⟩
                case measure => simp [intOf]; omega
          · obtain ⟨_, hyes0, hno0⟩ := idxOf_first hx
            have hno := Lib.hid hno0
            have hyes := Lib.hid hyes0
            have hroom : (M.mk ps ps.length noCut).ps.length < 512 := by show ps.length < 512; omega
            have hla : 0 ≤ (M.mk ps ps.length noCut).last := by show (0 : Int) ≤ (ps.length : Int); omega
            have hlb : (M.mk ps ps.length noCut).last ≤ 4611686018427387904 := by show (ps.length : Int) ≤ 4611686018427387904; omega
            have hD := Lib.hid (Double_some wr w.heap.size a mb v ⟨ps, ps.length, noCut⟩ tw[n] k hS.mesh hk hx hroom hla hlb)
            have HS := Lib.hid hS
            clear hx hS k0 hno0 hyes0
            go_wp2_with (
              (go_at_call 10
               refine hD.out.mono ?_
               rintro e w1 ⟨rfl, hm1, ho1⟩
               have HM1 := Lib.hid hm1
               clear hm1))
            obtain ⟨v1, hm1, hv1⟩ := HM1.out
            obtain ⟨own1, ap1, bel1⟩ := HS.out.send (p := ⟨(ps.length : Int) + 1, ps[k].src, ps[k].dst, ps[k].body⟩) hm1 hv1 ho1
            have hMid : Mid2 w w1 a mb (.slice A6 ps.length c6) (400 + n) ps ⟨(ps.length : Int) + 1, ps[k].src, ps[k].dst, ps[k].body⟩ v1 := ⟨hm1, own1, hps, HS.out.ids, ap1, bel1⟩
            have HMid := Lib.hid hMid
            clear hm1 hv1 own1 ap1 bel1 hMid HM1 ho1 hD
            obtain ⟨wo, rfl⟩ : ∃ wo : World, wo = wr := ⟨_, rfl⟩
            go_loopw [6, 13] (fun want kv wr2 => ∃ i : Nat, i ≤ k ∧ want = .slice A6 ps.length c6 ∧ kv = .int .i64 i ∧ Mid2 w wr2 a mb (.slice A6 ps.length c6) (400 + n) ps ⟨(ps.length : Int) + 1, ps[k].src, ps[k].dst, ps[k].body⟩ v1) (fun _ kv _ => k - (intOf kv).toNat)
            case atStart => exact ⟨0, Nat.zero_le _, rfl, rfl, HMid.out⟩
            case round =>
              obtain ⟨i, hi, rfl, rfl, hS2⟩ := hrel
              have r2 := (hS2.bel.cell (p := ⟨b, off + n, none⟩) hb).trans ((HS.out.bel.cell (p := ⟨b, off + n, none⟩) hb).symm.trans r1)
              have hil : i < ps.length := by omega
              obtain ⟨b6, off6, rfl, hb6, q0, q1, q2, q3⟩ := pkt_cells (rowAt_of_own hS2.own rfl (cells_len ps) (by simp)) i hil
              have j0' : (0 : Int) ≤ (i : Int) := by omega
              have j1' : (i : Int) < (ps.length : Int) := by omega
              by_cases hik : i < k
              · have hne : (ps[i].id == tw[n]) = false := hno.out i hik
                have HS2 := Lib.hid hS2; clear hS2
                go_wp2_with fail
                go_quiet (fail)
                go_wp2_with fail
                go_roundw
                case rel => exact ⟨i + 1, by omega, rfl, by go_num, HS2.out.below ⟨rfl, rfl, rfl, Nat.le_refl _, fun _ _ => rfl⟩⟩
                case measure => simp [intOf]; omega
              · obtain rfl : i = k := by omega
                have hne : (ps[i].id == tw[n]) = true := hyes.out
                have HS2 := Lib.hid hS2; clear hS2
                obtain ⟨i0, hi0, hz0, hz1, hz2⟩ := info_parts info34
                go_wp2_with fail
                go_quiet (fail)
                have HS3 := Lib.hid (HS2.out.below (w' := wr.drewN nq) ⟨rfl, rfl, rfl, Nat.le_refl _, fun _ _ => rfl⟩)
                have t0 : (wr.drewN nq).cell? ⟨b6, off6 + i * 4, none⟩ = some (.int .i64 ps[i].id) := q0
                have t1 : (wr.drewN nq).cell? ⟨b6, off6 + i * 4 + 1, none⟩ = some (.int .i64 ps[i].src) := q1
                have t2 : (wr.drewN nq).cell? ⟨b6, off6 + i * 4 + 2, none⟩ = some (.int .i64 ps[i].dst) := q2
                have t3 : (wr.drewN nq).cell? ⟨b6, off6 + i * 4 + 3, none⟩ = some (.string ps[i].body) := q3
                clear HS2 q0 q1 q2 q3 r1 r2 HMid
                generalize wr.drewN nq = wr3 at *
                have hone : ∀ u ∈ [[Value.int .i64 ((ps.length : Int) + 1), .int .i64 ps[i].src, .int .i64 ps[i].dst, .string ps[i].body]].flatten, u.oneCell' = true := by
                  intro u hu; simp at hu; rcases hu with rfl | rfl | rfl | rfl <;> rfl
                have hn0 : ps.length + 1 ≤ maxLen := by unfold maxLen; omega
                have hn1 : (ps.length + 1) * 40 ≤ 140737488355328 := by omega
                have hbw3 : w.heap.size ≤ wr3.heap.size := HS3.out.bel.size
                have hr0 : ∀ o, RowAt ((wr3.alloc o).alloc (.cells #[.int .i64 ((ps.length : Int) + 1), .int .i64 ps[i].src, .int .i64 ps[i].dst, .string ps[i].body] 34)) (wr3.heap.size + 2) 4 (some ⟨wr3.heap.size + 1, 0, none⟩) [[.int .i64 ((ps.length : Int) + 1), .int .i64 ps[i].src, .int .i64 ps[i].dst, .string ps[i].body]] :=
                  fun o => rowAt_one (t := 34) (fr := (0, 0)) (by have := heap_alloc_new (wr3.alloc o) (.cells #[.int .i64 ((ps.length : Int) + 1), .int .i64 ps[i].src, .int .i64 ps[i].dst, .string ps[i].body] 34); simpa using this) (by omega)
                have hs0 : ∀ c ∈ [[Value.int .i64 ((ps.length : Int) + 1), .int .i64 ps[i].src, .int .i64 ps[i].dst, .string ps[i].body]], c.length = 4 := by simp
                have Hr0 := Lib.hid hr0; have Hs0 := Lib.hid hs0; have Hone := Lib.hid hone
                clear hr0 hs0 hone
                go_wp2_with (at_builtin; refine wpList_app _ rfl (.tmp 122) (.tmp 124) 27 rfl 34 i0 _ w.heap.size 4 40 Try.underlying27 hi0 hz0 hz1 hz2 rfl (by omega) (.slice (some ⟨b6, off6, none⟩) ps.length c6) ps.length (ps.map Pkt.cells).flatten rfl ((HS3.out.own.alloc _).alloc _) (wr3.heap.size + 2) (some ⟨wr3.heap.size + 1, 0, none⟩) 1 1 [[.int .i64 ((ps.length : Int) + 1), .int .i64 ps[i].src, .int .i64 ps[i].dst, .string ps[i].body]] rfl (Hr0.out _) Hs0.out rfl Hone.out hn0 hn1 (by simp; omega) ?_; intro A4 c4 w4 hown4 hg4 hat4)
                go_roundw
                case rel => exact ⟨n + 1, by omega, by omega, by go_num, same2_app (p := ⟨(ps.length : Int) + 1, ps[i].src, ps[i].dst, ps[i].body⟩) HS3.out.mesh rfl HS3.out.ids HS3.out.len HS3.out.own HS3.out.apart HS3.out.bel ((al _).trans ((al _).mono (by simp))) hg4 hown4 hat4⟩
                case measure => simp [intOf]; omega
        · have hO4 : Once w a mb u6 500 wr := by
            obtain ⟨ps, v, hS⟩ := HO.out
            exact ⟨ps, v, hS.up (by omega)⟩
          have HO4 := Lib.hid hO4
          clear hO4
          by_cases h1 : n < tw.length
          · have h2 : n = 100 := by omega
            subst h2
            go_wp2_with fail
            go_meet
            exact HO4.out
          · have i1' : ¬ (n : Int) < (tw.length : Int) := by omega
            go_wp2_with fail
            go_meet
            exact HO4.out
    case rest =>
      clear HO
      have HO := Lib.hid hcut; clear hcut
      obtain ⟨wo, rfl⟩ : ∃ wo : World, wo = wc := ⟨_, rfl⟩
      obtain ⟨ps, v, hS⟩ := HO.out
      obtain ⟨A6, c6, rfl, hc6, hm6⟩ := own_shape hS.own
      have hps : ps.length ≤ 500 := hS.len
      have hL : Left2 w wo a mb (.slice A6 ps.length c6) ps 0 v := ⟨hS.mesh, hS.own, hS.apart, hS.bel⟩
      have HL := Lib.hid hL
      have Hid := Lib.hid hS.ids
      clear hS hL HO
      go_wp2_with fail
      go_loopw [15] (fun kv wr => ∃ k : Nat, k ≤ ps.length ∧ kv = .int .i64 k ∧ ∃ v, Left2 w wr a mb (.slice A6 ps.length c6) ps k v) (fun kv _ => ps.length - (intOf kv).toNat)
      case atStart => exact ⟨0, Nat.zero_le _, rfl, v, HL.out⟩
      case round =>
        obtain ⟨k, hk, rfl, v2, hL2⟩ := hrel
        clear HL
        have HL2 := Lib.hid hL2; clear hL2
        by_cases hlt : k < ps.length
        · have hN := Lib.hid (HL2.out.next hlt)
          have hneq : (ps[k].id != (k : Int) + 1) = false := by simp [Hid.out k hlt]
          have j0' : (0 : Int) ≤ (k : Int) := by omega
          have j1' : (k : Int) < (ps.length : Int) := by omega
          go_wp2_with (
            (go_at_call 11
             refine hN.out.mono ?_
             rintro e w1 ⟨rfl, hL3, hs3⟩
             have HL3 := Lib.hid hL3
             clear hL3))
          obtain ⟨v3, hL3⟩ := HL3.out
          obtain ⟨b6, off6, rfl, hb6, q0, q1, q2, q3⟩ := pkt_cells (rowAt_of_own hL3.own rfl (cells_len ps) (by simp)) k hlt
          have HL4 := Lib.hid hL3; clear hL3
          go_quiet (fail)
          go_wp2_with fail
          go_roundw
          case rel => exact ⟨k + 1, by omega, by go_num, v3, HL4.out.below (((al _).drew.trans ⟨rfl, rfl, rfl, Nat.le_refl _, fun _ _ => rfl⟩))⟩
          case measure => simp [intOf]; omega
        · obtain rfl : k = ps.length := by omega
          have hN := Lib.hid (HL2.out.last)
          have j1' : ¬ (ps.length : Int) < (ps.length : Int) := by omega
          go_wp2_with (first
            | (go_at_call 11
               refine hN.out.mono ?_
               rintro e w1 ⟨rfl, hL3, hs3⟩
               have HL3 := Lib.hid hL3
               clear hL3)
            | (go_at_call 12
               refine ((HL3.out.below (al _)).flight).mono ?_
               rintro e w2 ⟨A8, c8, rfl, hb8⟩))
          go_ret
          exact ⟨rfl, hb8⟩
end Go.Proofs.Ytbgobcjnckoekaa
