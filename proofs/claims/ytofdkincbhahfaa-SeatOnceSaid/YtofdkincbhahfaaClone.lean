/- What is proved: slices.Clone at sessions; a book as new memory: the program's copied. Condition: the sessions take at most 2^47 bytes. -/
import Derived.Test.YtofdkincbhahfaaBooks
import Derived.Laws.OwnMore
set_option linter.unusedVariables false
set_option linter.unusedSimpArgs false
namespace Go.Proofs.Ytofdkincbhahfaa
open Go.RowKit
attribute [local go_sem] Seen.val

theorem info28 : (Try.prog.info? 28).map (fun i => (i.zero, i.size, i.bytes)) = some (some (.agg #[.int .i64 0, .int .i64 0, .int .i64 0, .int .i64 0, .slice none 0 0]), 5, 56) := by kernel_rfl
theorem seens_one (l : List Seen) : ∀ u ∈ (l.map Seen.cells).flatten, u.oneCell' = true := by
  intro u hu
  obtain ⟨c, hc, hu⟩ := List.mem_flatten.1 hu
  obtain ⟨p, _, rfl⟩ := List.mem_map.1 hc
  simp [Seen.cells] at hu
  rcases hu with rfl | rfl | rfl | rfl | rfl <;> rfl
set_option maxHeartbeats 400000 in
theorem clone_any (w : World) (A : Option Addr) (cap : Nat) (l : List Seen) (hr : RowAt w w.heap.size 5 A (l.map Seen.cells)) (hlen : l.length * 56 ≤ 140737488355328) :
    Calls Try.prog 22 #[.slice A l.length cap] w fun e w' => ∃ A' cap', e = .returned (.slice A' l.length cap') ∧ w'.ownsRow w.heap.size 28 5 (.slice A' l.length cap') l.length (l.map Seen.cells).flatten ∧ Below w.heap.size w w' := by
  obtain ⟨i0, hi, hz0, hz1, hz2⟩ := info_parts info28
  have hn := fun w => Lib.run_eql_slice_nil (P := Try.prog) w 22 28 A l.length cap 0 0 Try.underlying22
  cases A with
  | none =>
    have hA' : l = [] := by
      cases l with
      | nil => rfl
      | cons d l => obtain ⟨b, off, hA, _⟩ := hr 0 (Seen.cells d) (by simp); cases hA
    subst hA'
    have hn0 := fun w => Lib.run_eql_slice_nil (P := Try.prog) w 22 28 none 0 cap 0 0 Try.underlying22
    clear hn
    go_enter Try.func22, Try.ntmps22
    go_wp2
    go_ret
    exact ⟨none, 0, rfl, World.ownsRow_nil _ _ _ _, Below.refl _ _⟩
  | some ad =>
    have hl : (l.map Seen.cells).length = l.length := by simp
    have Hl := Lib.hid hl; clear hl
    go_enter Try.func22, Try.ntmps22
    go_wp2_with (at_builtin; refine wpList_app _ rfl (.tmp 5) (.tmp 6) 22 rfl 28 i0 _ w.heap.size 5 56 Try.underlying22 hi hz0 hz1 hz2 rfl (by omega) (.slice (some ⟨w.heap.size, 0, none⟩) 0 0) 0 [] rfl (World.ownsRow_made w #[] 0 (Nat.le_refl _) (Nat.zero_le _) rfl) w.heap.size (some ad) l.length cap (l.map Seen.cells) rfl (hr.below ((Below.refl _ _).alloc (Nat.le_refl _) _) (Nat.le_refl _)) (seen_len l) Hl.out (seens_one l) (by unfold maxLen; omega) (by omega) (by simp) ?_; intro A' cap' w1 hown1 hg1 hat1)
    go_ret
    exact ⟨A', cap', by simp, by simpa using hown1, ((Below.refl _ _).alloc (Nat.le_refl _) _).grown hg1 (by simp) (by simp [Value.ownBlock])⟩
theorem flat_set {size : Nat} : ∀ (cs : List (List Value)), (∀ c ∈ cs, c.length = size) → ∀ (k j : Nat) (c : List Value) (u : Value), cs[k]? = some c → j < size → cs.flatten.set (k * size + j) u = (cs.set k (c.set j u)).flatten
  | [], _, k, j, c, u, h, _ => by simp at h
  | d :: cs, hs, 0, j, c, u, h, hj => by
    have hd : d = c := by simpa using h
    subst hd
    have hl := hs d (by simp)
    simp only [Nat.zero_mul, Nat.zero_add, List.set_cons_zero, List.flatten_cons]
    rw [List.set_append_left _ _ (by omega)]
  | d :: cs, hs, k + 1, j, c, u, h, hj => by
    have hl := hs d (by simp)
    have ih := flat_set cs (fun c hc => hs c (by simp [hc])) k j c u (by simpa using h) hj
    simp only [List.set_cons_succ, List.flatten_cons]
    rw [← ih, List.set_append_right _ _ (by rw [hl, Nat.succ_mul]; omega)]
    congr 1
    rw [hl, Nat.succ_mul]
    congr 1
    omega
theorem seen_set (l : List Seen) (k j : Nat) (s s' : Seen) (u : Value) (h : l[k]? = some s) (hj : j < 5) (hs : s.cells.set j u = s'.cells) : (l.map Seen.cells).flatten.set (k * 5 + j) u = ((l.set k s').map Seen.cells).flatten := by
  rw [flat_set (l.map Seen.cells) (seen_len l) k j s.cells u (by simp [h]) hj, hs]
  congr 1
  rw [List.map_set]
theorem own_addr {w : World} {base n cap : Nat} {A : Option Addr} {xs : List Value} (h : w.ownsRow base 28 5 (.slice A n cap) n xs) (h0 : 0 < n) : ∃ g, A = some ⟨g, 0, none⟩ ∧ base ≤ g ∧ g < w.heap.size := by
  rcases h.2 with ⟨h1, h2⟩ | ⟨g, cap', cur, h1, hb, hg, _⟩
  · omega
  · injection h1 with h1
    exact ⟨g, h1, hb, lt_of_some hg⟩
theorem own_caps {w : World} {base : Nat} {A : Option Addr} {n cap : Nat} {xs : List Value} (h : w.ownsRow base 28 5 (.slice A n cap) n xs) : n ≤ cap ∧ cap ≤ 9223372036854775807 := by
  rcases h.2 with ⟨h1, h2⟩ | ⟨g, cap', cur, h1, hb, hg, hc, hm, _⟩
  · injection h1 with _ _ h3; omega
  · injection h1 with _ _ h3
    subst h3
    unfold maxLen at hm
    exact ⟨hc, hm⟩
theorem own_capsJ {w : World} {base : Nat} {A : Option Addr} {n cap : Nat} {xs : List Value} (h : w.ownsRow base 53 8 (.slice A n cap) n xs) : n ≤ cap ∧ cap ≤ 9223372036854775807 := by
  rcases h.2 with ⟨h1, h2⟩ | ⟨g, cap', cur, h1, hb, hg, hc, hm, _⟩
  · injection h1 with _ _ h3; omega
  · injection h1 with _ _ h3
    subst h3
    unfold maxLen at hm
    exact ⟨hc, hm⟩
/-- A row stays where other blocks turn. -/
theorem RowAt.only {w w' : World} {B B' size : Nat} {A : Option Addr} {cs : List (List Value)} {F : Nat → Prop} (h : RowAt w B size A cs) (ho : Only F w w') (hB : B ≤ w.heap.size) (hB' : B ≤ B') (hF : ∀ a, A = some a → cs = [] ∨ ¬ F a.block) : RowAt w' B' size A cs := by
  intro i c hc
  obtain ⟨b, off, hA, hb, hj⟩ := h i c hc
  refine ⟨b, off, hA, Nat.lt_of_lt_of_le hb hB', fun j u hu => ?_⟩
  rcases hF _ hA with h1 | h1
  · subst h1; simp at hc
  · exact (ho.cell (p := ⟨b, off + i * size + j, none⟩) (Nat.lt_of_lt_of_le hb hB) h1).trans (hj j u hu)
/-- A session's jobs don't lie in block g. -/
def OffG (g : Nat) (s : Seen) : Prop := ∀ a, s.J = some a → s.jobs = [] ∨ a.block ≠ g
theorem JobsIn.only {w w' : World} {s : Seen} {g : Nat} (h : JobsIn w s) (ho : Only (· = g) w w') (hF : OffG g s) : JobsIn w' s :=
  ⟨h.1.only ho (Nat.le_refl _) ho.size (fun a ha => (hF a ha).imp (fun h1 => by rw [h1]; rfl) (fun h1 => h1)), h.2⟩
theorem JobsIn.off {w : World} {s : Seen} {g : Nat} (h : JobsIn w s) (hg : w.heap.size ≤ g) : OffG g s := by
  intro a ha
  cases hs : s.jobs with
  | nil => exact .inl rfl
  | cons d l =>
    right
    obtain ⟨b, off, hA, hb, _⟩ := h.1 0 (JobD.cells d) (by rw [hs]; rfl)
    rw [ha] at hA
    injection hA with hA
    subst hA
    show b ≠ g
    omega
theorem BookIn.ofOwn {w : World} {A : Option Addr} {cap base : Nat} {l : List Seen} (ho : w.ownsRow base 28 5 (.slice A l.length cap) l.length (l.map Seen.cells).flatten) (hj : ∀ s ∈ l, JobsIn w s) : BookIn w A cap l :=
  ⟨rowAt_of_own ho rfl (seen_len _) (by simp), (own_caps ho).1, (own_caps ho).2, hj⟩
theorem offOwn {w : World} {base g : Nat} {s : Seen} (h : w.ownsRow base 53 8 (.slice s.J s.jobs.length s.jc) s.jobs.length (s.jobs.map JobD.cells).flatten) (hg : g < base) : OffG g s := by
  intro a ha
  rcases h.2 with ⟨h1, _⟩ | ⟨g', cap', cur, h1, hb, _⟩
  · injection h1 with h1; rw [ha] at h1; cases h1
  · injection h1 with h1
    rw [ha] at h1
    injection h1 with h1
    subst h1
    exact .inr (by show g' ≠ g; omega)
theorem jobsOwn {w : World} {base : Nat} {s : Seen} (h : w.ownsRow base 53 8 (.slice s.J s.jobs.length s.jc) s.jobs.length (s.jobs.map JobD.cells).flatten) (hl : s.jobs.length * 96 ≤ 140737488355328) : JobsIn w s :=
  ⟨rowAt_of_own h rfl (job_len _) (by simp), (own_capsJ h).1, (own_capsJ h).2, hl⟩
theorem own_seen {w : World} {base g n cap : Nat} {l : List Seen} (hl : l.length = n) (h : w.ownsRow base 28 5 (.slice (some ⟨g, 0, none⟩) n cap) n (l.map Seen.cells).flatten) (k : Nat) (hk : k < l.length) :
    w.cell? ⟨g, k * 5, none⟩ = some (.int .i64 l[k].client) ∧ w.cell? ⟨g, k * 5 + 1, none⟩ = some (.int .i64 l[k].seq) ∧ w.cell? ⟨g, k * 5 + 2, none⟩ = some (.int .i64 l[k].err) ∧ w.cell? ⟨g, k * 5 + 3, none⟩ = some (.int .i64 l[k].time) ∧ w.cell? ⟨g, k * 5 + 4, none⟩ = some (.slice l[k].J l[k].jobs.length l[k].jc) := by
  subst hl
  obtain ⟨b, off, he, _, h0, h1, h2, h3, h4⟩ := seen_cells (rowAt_of_own h rfl (seen_len _) (by simp)) k hk
  injection he with he
  injection he with e1 e2
  subst e1; subst e2
  simp only [Nat.zero_add] at h0 h1 h2 h3 h4
  exact ⟨h0, h1, h2, h3, h4⟩
theorem dat_set {l : List Seen} {k : Nat} (hk : k < l.length) (J : Option Addr) (jc : Nat) : (l.set k { l[k] with J := J, jc := jc }).map Seen.dat = l.map Seen.dat := by
  rw [List.map_set]
  have : Seen.dat { l[k] with J := J, jc := jc } = (l.map Seen.dat)[k]'(by simpa using hk) := by simp [Seen.dat]
  rw [this, List.set_getElem_self]
set_option maxRecDepth 100000 in
set_option maxHeartbeats 4000000 in
theorem copied_any (w : World) (A : Option Addr) (cap : Nat) (l : List Seen) (h : BookIn w A cap l) (hlen : l.length * 56 ≤ 140737488355328) :
    Calls Try.prog 20 #[.slice A l.length cap] w fun e w' => ∃ (A' : Option Addr) (cap' : Nat) (m : List Seen), e = .returned (.slice A' l.length cap') ∧ m.length = l.length ∧ m.map Seen.dat = l.map Seen.dat ∧ w'.ownsRow w.heap.size 28 5 (.slice A' l.length cap') l.length (m.map Seen.cells).flatten ∧ (∀ s ∈ m, JobsIn w' s ∧ ∀ g, g < w.heap.size → OffG g s) ∧ Below w.heap.size w w' := by
  have H := Lib.hid h; clear h
  go_enter Try.func20, Try.ntmps20
  go_wp2_with (go_at_call 22
               refine (clone_any w A cap l H.out.row hlen).mono ?_
               rintro e w1 ⟨A', cap', rfl, ho, hb1⟩
               have HO := Lib.hid ho; have HB1 := Lib.hid hb1
               clear ho hb1)
  go_loopw [9] (fun v wr => ∃ (k : Nat) (m : List Seen), k ≤ l.length ∧ v = .int .i64 k ∧ m.length = l.length ∧ m.map Seen.dat = l.map Seen.dat ∧ wr.ownsRow w.heap.size 28 5 (.slice A' l.length cap') l.length (m.map Seen.cells).flatten ∧ (∀ s ∈ m, JobsIn wr s ∧ ∀ g, A' = some ⟨g, 0, none⟩ → OffG g s) ∧ (∀ i (hi : i < m.length), i < k → ∀ g, g < w.heap.size → OffG g m[i]) ∧ Below w.heap.size w wr) (fun v _ => l.length - (intOf v).toNat)
  case atStart =>
    refine ⟨0, l, Nat.zero_le _, rfl, rfl, rfl, HO.out, fun s hs => ⟨(H.out.jobs s hs).below HB1.out, fun g hg => (H.out.jobs s hs).off ?_⟩, fun i _ h => by omega, HB1.out⟩
    cases hl0 : l with
    | nil => rw [hl0] at hs; cases hs
    | cons d l' =>
      have := HO.out
      rw [hg] at this
      exact (this.lt g rfl).1
  case round =>
    obtain ⟨k, m, hk, rfl, hml, hmd, hO, hJ, hN, hB⟩ := hrel
    have HOr := Lib.hid hO; have HJr := Lib.hid hJ; have HBr := Lib.hid hB; have HNr := Lib.hid hN; have Hmd := Lib.hid hmd
    clear hO hJ hB hmd hN
    by_cases hlt : k < l.length
    · obtain ⟨g, rfl, hg1, hg2⟩ := own_addr HOr.out (by omega)
      have hkm : k < m.length := by omega
      obtain ⟨p0, p1, p2, p3, p4⟩ := own_seen hml HOr.out k hkm
      obtain ⟨hj, hoff⟩ := HJr.out m[k] (List.getElem_mem hkm)
      have hmem : m[k]? = some m[k] := List.getElem?_eq_getElem hkm
      have hds := dat_set hkm
      obtain ⟨s, hs⟩ : ∃ s, m[k] = s := ⟨_, rfl⟩
      rw [hs] at p0 p1 p2 p3 p4 hj hoff hmem hds
      have Hj := Lib.hid hj; have Hmem := Lib.hid hmem; have Hds := Lib.hid hds
      clear hj hoff hs hmem hds
      have hk1 : (0 : Int) ≤ (k : Int) := by omega
      have hk2 : (k : Int) < (l.length : Int) := by omega
      go_wp2_with (go_at_call 29
                   refine (cloneJ_any _ s.J s.jc s.jobs Hj.out.1 Hj.out.2.2.2).mono ?_
                   rintro e w2 ⟨J', jc', rfl, hoj, hb2⟩
                   have hf4 := (own_only HOr.out (Only.of_below (F := fun _ => False) hb2) (fun _ _ h => h)).frozenAt (k * 5 + 4)
                   have q4 := (hb2.cell (p := ⟨g, k * 5 + 4, none⟩) hg2).trans p4
                   have HOJ := Lib.hid hoj; have HB2 := Lib.hid hb2
                   clear hoj hb2)
      have hon := only_setCell w2 ⟨g, k * 5 + 4, none⟩ (.slice J' s.jobs.length jc')
      have hO2 := (own_only HOr.out (Only.of_below (F := fun _ => False) HB2.out) (fun _ _ h => h)).stored (k * 5 + 4) (.slice J' s.jobs.length jc')
      rw [seen_set m k 4 s { s with J := J', jc := jc' } _ Hmem.out (by omega) rfl] at hO2
      go_roundw
      case rel =>
        refine ⟨k + 1, m.set k { s with J := J', jc := jc' }, by omega, by go_num, by simp [hml], (Hds.out J' jc').trans Hmd.out, hO2.1, fun s1 hs1 => ?_, fun i hi hik g1 hg1' => ?_, hon.below (HBr.out.trans (HB2.out.mono HBr.out.size)) (fun q hq => by have hq : q = g := hq; omega) (by have := HBr.out.size; have := HB2.out.size; omega)⟩
        rcases List.mem_or_eq_of_mem_set hs1 with h1 | rfl
        · obtain ⟨h2, h3⟩ := HJr.out s1 h1
          exact ⟨(h2.below HB2.out).only hon (h3 g rfl), h3⟩
        · have hof : OffG g { s with J := J', jc := jc' } := offOwn (s := { s with J := J', jc := jc' }) HOJ.out hg2
          refine ⟨(jobsOwn (s := { s with J := J', jc := jc' }) HOJ.out Hj.out.2.2.2).only hon hof, fun g1 hg1 => ?_⟩
          injection hg1 with hg1
          injection hg1 with hg1
          subst hg1
          exact hof
        · rw [List.getElem_set]
          split
          · exact offOwn (s := { s with J := J', jc := jc' }) HOJ.out (Nat.lt_of_lt_of_le hg1' HBr.out.size)
          · exact HNr.out i (by simpa using hi) (by omega) g1 hg1'
      case measure => simp [intOf]; omega
    · obtain rfl : k = l.length := by omega
      go_wp2
      go_ret
      refine ⟨A', cap', m, rfl, hml, Hmd.out, HOr.out, fun s hs => ⟨(HJr.out s hs).1, fun g hg => ?_⟩, HBr.out⟩
      obtain ⟨i, hi, rfl⟩ := List.getElem_of_mem hs
      exact HNr.out i hi (by omega) g hg
end Go.Proofs.Ytofdkincbhahfaa
