/- What is proved: RouteFinds answers yes, whatever the two maps, the nodes, the name and who leads, case by case. -/
import Derived.Test.YtimondpollbdfaaHeardA
import Derived.Test.YtimondpollbdfaaAwakeR
import Derived.Test.YtimondpollbdfaaBeginMap
set_option linter.unusedVariables false
set_option linter.unusedSimpArgs false
namespace Go.Proofs.Ytimondpollbdfaa
open Go.RowKit
attribute [local go_sem] Span.val Atl.val Plan.val Rte.val Rep.val tup4

theorem info59 : (Try.prog.info? 59).map (·.size) = some 16 := by kernel_rfl
theorem rep_range {W : World} {g : Nat} {p : Rep} {j v : Value} (h : W.heap[g]? = some (p.blk j v)) : W.rangeAt g 0 [.int .i64 p.kind, .int .i64 p.hint, .int .i64 p.err, .int .i64 p.time, j, .int .i64 p.map.groups, .int .i64 p.map.last, v, .int .i64 p.map.plan.kind, .int .i64 p.map.plan.phase, .int .i64 p.map.plan.shard, .int .i64 p.map.plan.other, .int .i64 p.map.plan.group, .int .i64 p.map.plan.past, .int .i64 p.map.plan.epoch, .string p.map.plan.key] := fun i u hi => by
    rw [Nat.zero_add]
    simp only [World.cell?, h, Rep.blk]
    simpa using hi
theorem rep_one {p : Rep} {j v : Value} (hj : j.oneCell' = true) (hv : v.oneCell' = true) : (#[Value.int .i64 p.kind, .int .i64 p.hint, .int .i64 p.err, .int .i64 p.time, j, .int .i64 p.map.groups, .int .i64 p.map.last, v, .int .i64 p.map.plan.kind, .int .i64 p.map.plan.phase, .int .i64 p.map.plan.shard, .int .i64 p.map.plan.other, .int .i64 p.map.plan.group, .int .i64 p.map.plan.past, .int .i64 p.map.plan.epoch, .string p.map.plan.key] : Array Value).all (·.oneCell') = true := by
  refine all_oneCell_toArray (cs := [_, _, _, _, _, _, _, _, _, _, _, _, _, _, _, _]) ?_
  intro u hu
  simp only [List.mem_cons, List.not_mem_nil, or_false] at hu
  rcases hu with rfl | rfl | rfl | rfl | rfl | rfl | rfl | rfl | rfl | rfl | rfl | rfl | rfl | rfl | rfl | rfl
  all_goals first | rfl | assumption
theorem wpList_load59 {ops : Array Oper} {rest : List Oper} {op : Oper} {a : Act} {w : World} {Q : Exit → Act → World → Prop} (hgd : op.guard = none) (x : Operand) (ho : op.op = .load 59 x) (g : Nat) (hx : a.eval x = .pointer (some ⟨g, 0, none⟩))
    {p : Rep} {j v : Value} (h : w.heap[g]? = some (p.blk j v)) (hK : wpList Try.prog ops Q rest (a.put op.dst (p.val j v)) w) : wpList Try.prog ops Q (op :: rest) a w :=
  wpList_load_mid hgd 59 x ho g 0 hx _ _ (rep_range h) Try.underlying59 rfl info59 hK
theorem wpList_store59 {ops : Array Oper} {rest : List Oper} {op : Oper} {a : Act} {w : World} {Q : Exit → Act → World → Prop} (hgd : op.guard = none) (x y : Operand) (ho : op.op = .store 59 x y) (g : Nat) (hx : a.eval x = .pointer (some ⟨g, 0, none⟩))
    {p p0 : Rep} {j v j0 v0 : Value} (hy : a.eval y = p.val j v) (hj : j.oneCell' = true) (hv : v.oneCell' = true) (h : w.heap[g]? = some (p0.blk j0 v0))
    (hK : ∀ w', w'.heap[g]? = some (p.blk j v) → Only (· = g) w w' → wpList Try.prog ops Q rest (a.put op.dst undef) w') : wpList Try.prog ops Q (op :: rest) a w :=
  wpList_store_row hgd 59 x y ho g _ hx hy 59 _ h info59 rfl (rep_one hj hv) (hK _ (setRow_heap w g _ _ 59 (0, 0) h) (only_setRow w g _))
theorem wpList_store50 {ops : Array Oper} {rest : List Oper} {op : Oper} {a : Act} {w : World} {Q : Exit → Act → World → Prop} (hgd : op.guard = none) (x y : Operand) (ho : op.op = .store 50 x y) (g : Nat) (hx : a.eval x = .pointer (some ⟨g, 0, none⟩))
    {p p0 : Span} (hy : a.eval y = p.val) (h : w.heap[g]? = some p0.blk)
    (hK : ∀ w', w'.heap[g]? = some p.blk → Only (· = g) w w' → wpList Try.prog ops Q rest (a.put op.dst undef) w') : wpList Try.prog ops Q (op :: rest) a w :=
  wpList_store_row hgd 50 x y ho g _ hx hy 50 _ h (by kernel_rfl) rfl (by
    refine all_oneCell_toArray (cs := [_, _, _, _, _]) ?_
    intro u hu
    simp only [List.mem_cons, List.not_mem_nil, or_false] at hu
    rcases hu with rfl | rfl | rfl | rfl | rfl
    all_goals rfl) (hK _ (setRow_heap w g _ _ 50 (0, 0) h) (only_setRow w g _))
theorem lead_ok (leads nodes : Int) (h1 : 1 ≤ nodes) (h2 : nodes ≤ 7) : 1 ≤ wrap64 (1 + wrap64 ((IntKind.u64.wrap leads).tmod nodes)) ∧ wrap64 (1 + wrap64 ((IntKind.u64.wrap leads).tmod nodes)) ≤ nodes := by
  have h0 : 0 ≤ IntKind.u64.wrap leads := by
    show 0 ≤ leads % _
    exact Int.emod_nonneg _ (by decide)
  have h3 := Int.tmod_nonneg nodes h0
  have h4 := Int.tmod_lt_of_pos (IntKind.u64.wrap leads) (show 0 < nodes by omega)
  generalize (IntKind.u64.wrap leads).tmod nodes = z at *
  have e1 : wrap64 z = z := by unfold wrap64; omega
  rw [e1]
  have e2 : wrap64 (1 + z) = 1 + z := by unfold wrap64; omega
  rw [e2]
  omega
def zeroRep : Rep := ⟨0, 0, 0, 0, zeroA⟩
def turnP : Rep := ⟨1, 0, 0, 0, zeroA⟩
def truthP (T : Atl) : Rep := ⟨3, 0, 0, 0, T⟩
def staleP : Rep := ⟨2, 0, 171, 0, zeroA⟩
def hitP : Rep := ⟨2, 0, 151, 7, zeroA⟩

/-- What is known of a way behind i replies that hasn't come to its end. -/
def OnWay (T : Atl) (nodes lead : Int) (name : ByteArray) (i : Nat) (r : Rte) : Prop :=
  r.nodes = nodes ∧ r.name = name ∧ r.done = false ∧ r.left = 64 - (i : Int) ∧ 1 ≤ r.node ∧ r.node ≤ lead ∧
  ((r.fetch = true ∧ (emptyB r.map = true ∨ tr (MapOk r.map) = true) ∧ (i : Int) + (lead - r.node + 1) ≤ 2 * lead) ∨
   (r.fetch = false ∧ tr (MapOk r.map) = true ∧ ((i : Int) + (lead - r.node + 1) ≤ lead ∨ r.map = T ∧ (i : Int) + (lead - r.node + 1) ≤ 3 * lead)))
/-- A way that has come to the answer. -/
def Told (r : Rte) : Prop := r.done = true ∧ (r.err == 151) = true ∧ (r.time == 7) = true
theorem emptyB_ok {a : Atl} (h : tr (MapOk a) = true) : emptyB a = false := by
  have h1 := (of_tr h).1
  unfold emptyB
  have : ¬ a.groups = 0 := by omega
  simp [this]
theorem OnWay.ok {T : Atl} {nodes lead : Int} {name : ByteArray} {i : Nat} {r : Rte} (h : OnWay T nodes lead name i r) (h1 : 1 ≤ nodes) (h2 : nodes ≤ 7) (hl : lead ≤ nodes) (hn : named name = true) : tr (RteOk r) = true ∧ (i : Int) < 4 * nodes + 4 := by
  obtain ⟨e1, e2, e3, e4, e5, e6, e7⟩ := h
  have hi : (i : Int) + 1 ≤ 3 * lead := by rcases e7 with ⟨_, _, h⟩ | ⟨_, _, h | ⟨_, h⟩⟩ <;> omega
  refine ⟨tr_true ⟨by omega, by omega, by omega, by omega, by omega, by omega, fun h => by omega, ?_, ?_⟩, by omega⟩
  · rcases e7 with ⟨_, h, _⟩ | ⟨_, h, _⟩
    · exact h
    · exact .inr h
  · rcases e7 with ⟨h, _⟩ | ⟨_, h, _⟩
    · exact .inl h
    · exact .inr (.inr ⟨emptyB_ok h, by rw [e2]; exact hn⟩)
theorem OnWay.next {T : Atl} {nodes lead : Int} {name : ByteArray} {i : Nat} {r : Rte} (h : OnWay T nodes lead name i r) (hl : lead ≤ nodes) (hne : ¬ r.node = lead) : OnWay T nodes lead name (i + 1) { r with node := r.node % r.nodes + 1, left := r.left - 1 } := by
  obtain ⟨e1, e2, e3, e4, e5, e6, e7⟩ := h
  have hm : r.node % r.nodes = r.node := Int.emod_eq_of_lt (by omega) (by omega)
  refine ⟨e1, e2, e3, by show r.left - 1 = _; omega, by show 1 ≤ r.node % r.nodes + 1; omega, by show r.node % r.nodes + 1 ≤ lead; omega, ?_⟩
  rcases e7 with ⟨h1, h2, h3⟩ | ⟨h1, h2, h3 | ⟨h3, h4⟩⟩
  · exact .inl ⟨h1, h2, by show _ + (lead - (r.node % r.nodes + 1) + 1) ≤ _; omega⟩
  · exact .inr ⟨h1, h2, .inl (by show _ + (lead - (r.node % r.nodes + 1) + 1) ≤ _; omega)⟩
  · exact .inr ⟨h1, h2, .inr ⟨h3, by show _ + (lead - (r.node % r.nodes + 1) + 1) ≤ _; omega⟩⟩
theorem OnWay.map {T : Atl} {nodes lead : Int} {name : ByteArray} {i : Nat} {r : Rte} (h : OnWay T nodes lead name i r) (hT : tr (MapOk T) = true) (hl : 1 ≤ lead) (hn : named name = true) (hf : r.fetch = true) (he : r.node = lead) : OnWay T nodes lead name (i + 1) { r with map := T, fetch := !named r.name, node := 1, left := r.left - 1 } := by
  obtain ⟨e1, e2, e3, e4, e5, e6, e7⟩ := h
  refine ⟨e1, e2, e3, by show r.left - 1 = _; omega, Int.le_refl 1, hl, .inr ⟨by show (!named r.name) = false; rw [e2, hn]; rfl, hT, .inr ⟨rfl, ?_⟩⟩⟩
  show ((i + 1 : Nat) : Int) + (lead - 1 + 1) ≤ 3 * lead
  rcases e7 with ⟨_, _, h3⟩ | ⟨h1, _⟩
  · omega
  · rw [hf] at h1; cases h1
theorem OnWay.old {T : Atl} {nodes lead : Int} {name : ByteArray} {i : Nat} {r : Rte} (h : OnWay T nodes lead name i r) (hl : 1 ≤ lead) (hf : r.fetch = false) (he : r.node = lead) (hne : ¬ r.map = T) : OnWay T nodes lead name (i + 1) { r with fetch := true, node := 1, left := r.left - 1 } := by
  obtain ⟨e1, e2, e3, e4, e5, e6, e7⟩ := h
  rcases e7 with ⟨h1, _⟩ | ⟨_, h2, h3 | ⟨h3, _⟩⟩
  · rw [hf] at h1; cases h1
  · refine ⟨e1, e2, e3, by show r.left - 1 = _; omega, Int.le_refl 1, hl, .inl ⟨rfl, .inr h2, ?_⟩⟩
    show ((i + 1 : Nat) : Int) + (lead - 1 + 1) ≤ 2 * lead
    omega
  · exact absurd h3 hne
theorem onWay_start (T : Atl) (nodes lead : Int) (name : ByteArray) (hl : 1 ≤ lead) : OnWay T nodes lead name 0 (startR nodes 64 name) :=
  ⟨rfl, rfl, rfl, rfl, Int.le_refl 1, hl, .inl ⟨rfl, .inl (by simp [emptyB, startR, isZ, eqP]), by show _ + (lead - 1 + 1) ≤ _; omega⟩⟩
theorem onWay_map (T k : Atl) (nodes lead : Int) (name : ByteArray) (hl : 1 ≤ lead) (hk : tr (MapOk k) = true) : OnWay T nodes lead name 0 (mapR nodes 64 name k) :=
  ⟨rfl, rfl, rfl, rfl, Int.le_refl 1, hl, .inr ⟨rfl, hk, .inl (by show _ + (lead - 1 + 1) ≤ _; omega)⟩⟩
theorem OnWay.len {T : Atl} {nodes lead : Int} {name : ByteArray} {i : Nat} {r : Rte} (h : OnWay T nodes lead name i r) : r.map.sp.length ≤ 16 := by
  have hm : emptyB r.map = true ∨ tr (MapOk r.map) = true := by
    rcases h.2.2.2.2.2.2 with ⟨_, h, _⟩ | ⟨_, h, _⟩
    · exact h
    · exact .inr h
  rcases hm with h | h
  · have : r.map.sp.length = 0 := by
      unfold emptyB at h
      simp at h
      simp [h]
    omega
  · exact (of_tr h).2.2.2.1.1
theorem rep_res {W : World} {g : Nat} {p : Rep} {j v : Value} (h : W.heap[g]? = some (p.blk j v)) :
    (((W.setCell ⟨g, 2, none⟩ (.int .i64 151)).setCell ⟨g, 3, none⟩ (.int .i64 7)).setCell ⟨g, 4, none⟩ nilV).heap[g]? = some ({ p with err := 151, time := 7 }.blk nilV v) := by
  have := heap_setCell_at (i := 4) (heap_setCell_at (i := 3) (heap_setCell_at (i := 2) h (.int .i64 151)) (.int .i64 7)) nilV
  rw [this]
  simp only [Rep.blk, List.setIfInBounds_toArray, List.set_cons_zero, List.set_cons_succ]
/-- Where the name lies in a right map. -/
theorem spanOf (a : Atl) (name : ByteArray) (h : tr (MapOk a) = true) : ∃ i : Nat, ∃ hi : i < a.sp.length, idxOf (inSp name) a.sp = (i : Int) ∧ 1 ≤ (a.sp[i]).gr := by
  have hok := of_tr h
  obtain ⟨i, hi, hx, _⟩ := inSp_ex name hok.2.2.2.1
  exact ⟨i, hi, hx, (hok.2.2.2.2.1 i hi).2.2.2.2.2.1⟩

set_option maxRecDepth 100000 in
set_option maxHeartbeats 8000000 in
theorem rfinds_wrong (w : World) (A K : Option Addr) (cap kc : Nat) (T k : Atl) (nodes leads : Int) (name : ByteArray) (h : MapIn w A cap T) (hk : MapIn w K kc k) (hn : name.size ≤ 9223372036854775807) (hz : (Lit.int .i64 leads).wf = true) (hzn : (Lit.int .i64 nodes).wf = true) (hm : tr (MapOk T) = false) :
    Calls Try.prog 8 #[T.val (.slice A T.sp.length cap), k.val (.slice K k.sp.length kc), .int .i64 nodes, .string name, .int .i64 leads] w fun e w' => e = .returned (.bool true) ∧ Below w.heap.size w w' := by
  have hC := fun w h => check_any w A cap T h
  rw [hm] at hC
  have HC := Lib.hid hC; have HI := Lib.hid h; have HK := Lib.hid hk; have Hm := Lib.hid hm
  clear hC h hk hm
  go_enter Try.func8, Try.ntmps8
  go_upto_region 1 with fail
  change Code.wp _ _ _ _ ((w.alloc (T.blk (.slice A T.sp.length cap))).alloc (k.blk (.slice K k.sp.length kc)))
  have hT0 : ((w.alloc (T.blk (.slice A T.sp.length cap))).alloc (k.blk (.slice K k.sp.length kc))).heap[w.heap.size]? = some (T.blk (.slice A T.sp.length cap)) := (Below.heap_alloc _ _ _ (by simp)).trans (heap_alloc_new w _)
  have hK0 : ((w.alloc (T.blk (.slice A T.sp.length cap))).alloc (k.blk (.slice K k.sp.length kc))).heap[w.heap.size + 1]? = some (k.blk (.slice K k.sp.length kc)) := heap_second _ _ _
  have hB0 : Below w.heap.size w ((w.alloc (T.blk (.slice A T.sp.length cap))).alloc (k.blk (.slice K k.sp.length kc))) := al2 _ _
  generalize ((w.alloc (T.blk (.slice A T.sp.length cap))).alloc (k.blk (.slice K k.sp.length kc))) = w0 at *
  have HT0 := Lib.hid hT0; have HK0 := Lib.hid hK0; have HB0 := Lib.hid hB0
  clear hT0 hK0 hB0
  go_upto_region 3 with (go_at_call 21
                         refine (awakeR _).mono ?_
                         rintro e w1 ⟨rfl, hb1⟩
                         have HT1 := Lib.hid (blk_below hb1 (lt_of_some HT0.out) HT0.out)
                         have HK1 := Lib.hid (blk_below hb1 (lt_of_some HK0.out) HK0.out)
                         have HB1 := Lib.hid (HB0.out.trans (hb1.mono HB0.out.size))
                         clear hb1)
  refine wp_region_lit ?_
  refine wpList_load26 rfl (.tmp 5) rfl (w.heap.size) rfl HT1.out ?_
  simp only [Act.put, List.setIfInBounds_toArray, List.set_cons_zero, List.set_cons_succ]
  refine wpList_step (fun K hK => ?_)
  go_simp
  go_at_call 29
  refine (HC.out _ (HI.out.below HB1.out)).mono ?_
  rintro e w2 ⟨rfl, hb2⟩
  refine hK _ _ ?_
  clear hK K
  have HT2 := Lib.hid (blk_below hb2 (lt_of_some HT1.out) HT1.out)
  have HK2 := Lib.hid (blk_below hb2 (lt_of_some HK1.out) HK1.out)
  have HB2 := Lib.hid (HB1.out.trans (hb2.mono HB1.out.size))
  clear hb2
  go_wp2_with fail
  go_ret
  exact ⟨rfl, HB2.out⟩
set_option maxRecDepth 100000 in
set_option maxHeartbeats 8000000 in
theorem rfinds_few (w : World) (A K : Option Addr) (cap kc : Nat) (T k : Atl) (nodes leads : Int) (name : ByteArray) (h : MapIn w A cap T) (hk : MapIn w K kc k) (hn : name.size ≤ 9223372036854775807) (hz : (Lit.int .i64 leads).wf = true) (hzn : (Lit.int .i64 nodes).wf = true) (hm : tr (MapOk T) = true) (h1 : nodes < 1) :
    Calls Try.prog 8 #[T.val (.slice A T.sp.length cap), k.val (.slice K k.sp.length kc), .int .i64 nodes, .string name, .int .i64 leads] w fun e w' => e = .returned (.bool true) ∧ Below w.heap.size w w' := by
  have hC := fun w h => check_any w A cap T h
  rw [hm] at hC
  have HC := Lib.hid hC; have HI := Lib.hid h; have HK := Lib.hid hk; have Hm := Lib.hid hm
  clear hC h hk hm
  go_enter Try.func8, Try.ntmps8
  go_upto_region 1 with fail
  change Code.wp _ _ _ _ ((w.alloc (T.blk (.slice A T.sp.length cap))).alloc (k.blk (.slice K k.sp.length kc)))
  have hT0 : ((w.alloc (T.blk (.slice A T.sp.length cap))).alloc (k.blk (.slice K k.sp.length kc))).heap[w.heap.size]? = some (T.blk (.slice A T.sp.length cap)) := (Below.heap_alloc _ _ _ (by simp)).trans (heap_alloc_new w _)
  have hK0 : ((w.alloc (T.blk (.slice A T.sp.length cap))).alloc (k.blk (.slice K k.sp.length kc))).heap[w.heap.size + 1]? = some (k.blk (.slice K k.sp.length kc)) := heap_second _ _ _
  have hB0 : Below w.heap.size w ((w.alloc (T.blk (.slice A T.sp.length cap))).alloc (k.blk (.slice K k.sp.length kc))) := al2 _ _
  generalize ((w.alloc (T.blk (.slice A T.sp.length cap))).alloc (k.blk (.slice K k.sp.length kc))) = w0 at *
  have HT0 := Lib.hid hT0; have HK0 := Lib.hid hK0; have HB0 := Lib.hid hB0
  clear hT0 hK0 hB0
  go_upto_region 3 with (go_at_call 21
                         refine (awakeR _).mono ?_
                         rintro e w1 ⟨rfl, hb1⟩
                         have HT1 := Lib.hid (blk_below hb1 (lt_of_some HT0.out) HT0.out)
                         have HK1 := Lib.hid (blk_below hb1 (lt_of_some HK0.out) HK0.out)
                         have HB1 := Lib.hid (HB0.out.trans (hb1.mono HB0.out.size))
                         clear hb1)
  refine wp_region_lit ?_
  refine wpList_load26 rfl (.tmp 5) rfl (w.heap.size) rfl HT1.out ?_
  simp only [Act.put, List.setIfInBounds_toArray, List.set_cons_zero, List.set_cons_succ]
  refine wpList_step (fun K hK => ?_)
  go_simp
  go_at_call 29
  refine (HC.out _ (HI.out.below HB1.out)).mono ?_
  rintro e w2 ⟨rfl, hb2⟩
  refine hK _ _ ?_
  clear hK K
  have HT2 := Lib.hid (blk_below hb2 (lt_of_some HT1.out) HT1.out)
  have HK2 := Lib.hid (blk_below hb2 (lt_of_some HK1.out) HK1.out)
  have HB2 := Lib.hid (HB1.out.trans (hb2.mono HB1.out.size))
  clear hb2
  go_wp2_with fail
  go_ret
  exact ⟨rfl, HB2.out⟩
set_option maxRecDepth 100000 in
set_option maxHeartbeats 8000000 in
theorem rfinds_many (w : World) (A K : Option Addr) (cap kc : Nat) (T k : Atl) (nodes leads : Int) (name : ByteArray) (h : MapIn w A cap T) (hk : MapIn w K kc k) (hn : name.size ≤ 9223372036854775807) (hz : (Lit.int .i64 leads).wf = true) (hzn : (Lit.int .i64 nodes).wf = true) (hm : tr (MapOk T) = true) (h1 : 1 ≤ nodes) (h2 : 7 < nodes) :
    Calls Try.prog 8 #[T.val (.slice A T.sp.length cap), k.val (.slice K k.sp.length kc), .int .i64 nodes, .string name, .int .i64 leads] w fun e w' => e = .returned (.bool true) ∧ Below w.heap.size w w' := by
  have hC := fun w h => check_any w A cap T h
  rw [hm] at hC
  have HC := Lib.hid hC; have HI := Lib.hid h; have HK := Lib.hid hk; have Hm := Lib.hid hm
  clear hC h hk hm
  go_enter Try.func8, Try.ntmps8
  go_upto_region 1 with fail
  change Code.wp _ _ _ _ ((w.alloc (T.blk (.slice A T.sp.length cap))).alloc (k.blk (.slice K k.sp.length kc)))
  have hT0 : ((w.alloc (T.blk (.slice A T.sp.length cap))).alloc (k.blk (.slice K k.sp.length kc))).heap[w.heap.size]? = some (T.blk (.slice A T.sp.length cap)) := (Below.heap_alloc _ _ _ (by simp)).trans (heap_alloc_new w _)
  have hK0 : ((w.alloc (T.blk (.slice A T.sp.length cap))).alloc (k.blk (.slice K k.sp.length kc))).heap[w.heap.size + 1]? = some (k.blk (.slice K k.sp.length kc)) := heap_second _ _ _
  have hB0 : Below w.heap.size w ((w.alloc (T.blk (.slice A T.sp.length cap))).alloc (k.blk (.slice K k.sp.length kc))) := al2 _ _
  generalize ((w.alloc (T.blk (.slice A T.sp.length cap))).alloc (k.blk (.slice K k.sp.length kc))) = w0 at *
  have HT0 := Lib.hid hT0; have HK0 := Lib.hid hK0; have HB0 := Lib.hid hB0
  clear hT0 hK0 hB0
  go_upto_region 3 with (go_at_call 21
                         refine (awakeR _).mono ?_
                         rintro e w1 ⟨rfl, hb1⟩
                         have HT1 := Lib.hid (blk_below hb1 (lt_of_some HT0.out) HT0.out)
                         have HK1 := Lib.hid (blk_below hb1 (lt_of_some HK0.out) HK0.out)
                         have HB1 := Lib.hid (HB0.out.trans (hb1.mono HB0.out.size))
                         clear hb1)
  refine wp_region_lit ?_
  refine wpList_load26 rfl (.tmp 5) rfl (w.heap.size) rfl HT1.out ?_
  simp only [Act.put, List.setIfInBounds_toArray, List.set_cons_zero, List.set_cons_succ]
  refine wpList_step (fun K hK => ?_)
  go_simp
  go_at_call 29
  refine (HC.out _ (HI.out.below HB1.out)).mono ?_
  rintro e w2 ⟨rfl, hb2⟩
  refine hK _ _ ?_
  clear hK K
  have HT2 := Lib.hid (blk_below hb2 (lt_of_some HT1.out) HT1.out)
  have HK2 := Lib.hid (blk_below hb2 (lt_of_some HK1.out) HK1.out)
  have HB2 := Lib.hid (HB1.out.trans (hb2.mono HB1.out.size))
  clear hb2
  go_wp2_with fail
  go_ret
  exact ⟨rfl, HB2.out⟩
set_option maxRecDepth 100000 in
set_option maxHeartbeats 8000000 in
theorem rfinds_nameless (w : World) (A K : Option Addr) (cap kc : Nat) (T k : Atl) (nodes leads : Int) (name : ByteArray) (h : MapIn w A cap T) (hk : MapIn w K kc k) (hn : name.size ≤ 9223372036854775807) (hz : (Lit.int .i64 leads).wf = true) (hzn : (Lit.int .i64 nodes).wf = true) (hm : tr (MapOk T) = true) (h1 : 1 ≤ nodes) (h2 : nodes ≤ 7) (hG : ∀ w, MapIn w K kc k → Calls Try.prog 24 #[.int .i64 nodes, .string name, k.val (.slice K k.sp.length kc), .int .i64 64] w fun e w' => ∃ A' cap', e = .returned (.tuple #[zeroR.val (.slice A' zeroR.map.sp.length cap') nilV, .int .i64 1]) ∧ MapIn w' A' cap' zeroR.map ∧ Below w.heap.size w w') :
    Calls Try.prog 8 #[T.val (.slice A T.sp.length cap), k.val (.slice K k.sp.length kc), .int .i64 nodes, .string name, .int .i64 leads] w fun e w' => e = .returned (.bool true) ∧ Below w.heap.size w w' := by
  have HG := Lib.hid hG; clear hG
  have hC := fun w h => check_any w A cap T h
  rw [hm] at hC
  have HC := Lib.hid hC; have HI := Lib.hid h; have HK := Lib.hid hk; have Hm := Lib.hid hm
  clear hC h hk hm
  go_enter Try.func8, Try.ntmps8
  go_upto_region 1 with fail
  change Code.wp _ _ _ _ ((w.alloc (T.blk (.slice A T.sp.length cap))).alloc (k.blk (.slice K k.sp.length kc)))
  have hT0 : ((w.alloc (T.blk (.slice A T.sp.length cap))).alloc (k.blk (.slice K k.sp.length kc))).heap[w.heap.size]? = some (T.blk (.slice A T.sp.length cap)) := (Below.heap_alloc _ _ _ (by simp)).trans (heap_alloc_new w _)
  have hK0 : ((w.alloc (T.blk (.slice A T.sp.length cap))).alloc (k.blk (.slice K k.sp.length kc))).heap[w.heap.size + 1]? = some (k.blk (.slice K k.sp.length kc)) := heap_second _ _ _
  have hB0 : Below w.heap.size w ((w.alloc (T.blk (.slice A T.sp.length cap))).alloc (k.blk (.slice K k.sp.length kc))) := al2 _ _
  generalize ((w.alloc (T.blk (.slice A T.sp.length cap))).alloc (k.blk (.slice K k.sp.length kc))) = w0 at *
  have HT0 := Lib.hid hT0; have HK0 := Lib.hid hK0; have HB0 := Lib.hid hB0
  clear hT0 hK0 hB0
  go_upto_region 3 with (go_at_call 21
                         refine (awakeR _).mono ?_
                         rintro e w1 ⟨rfl, hb1⟩
                         have HT1 := Lib.hid (blk_below hb1 (lt_of_some HT0.out) HT0.out)
                         have HK1 := Lib.hid (blk_below hb1 (lt_of_some HK0.out) HK0.out)
                         have HB1 := Lib.hid (HB0.out.trans (hb1.mono HB0.out.size))
                         clear hb1)
  refine wp_region_lit ?_
  refine wpList_load26 rfl (.tmp 5) rfl (w.heap.size) rfl HT1.out ?_
  simp only [Act.put, List.setIfInBounds_toArray, List.set_cons_zero, List.set_cons_succ]
  refine wpList_step (fun K hK => ?_)
  go_simp
  go_at_call 29
  refine (HC.out _ (HI.out.below HB1.out)).mono ?_
  rintro e w2 ⟨rfl, hb2⟩
  refine hK _ _ ?_
  clear hK K
  have HT2 := Lib.hid (blk_below hb2 (lt_of_some HT1.out) HT1.out)
  have HK2 := Lib.hid (blk_below hb2 (lt_of_some HK1.out) HK1.out)
  have HB2 := Lib.hid (HB1.out.trans (hb2.mono HB1.out.size))
  clear hb2
  go_upto_region 5 with fail
  refine wp_region_lit ?_
  refine wpList_step (fun K hK => ?_)
  go_simp
  refine hK _ _ ?_
  clear hK K
  refine wpList_step (fun K hK => ?_)
  go_simp
  refine hK _ _ ?_
  clear hK K
  refine wpList_load26 rfl (.tmp 6) rfl ((w.heap.size + 1)) rfl HK2.out ?_
  simp only [Act.put, List.setIfInBounds_toArray, List.set_cons_zero, List.set_cons_succ]
  refine wpList_step (fun K hK => ?_)
  go_simp
  go_at_call 24
  refine (HG.out _ (HK.out.below HB2.out)).mono ?_
  rintro e w3 ⟨A1, c1, rfl, hI3, hb3⟩
  refine hK _ _ ?_
  clear hK K
  refine wpList_step (fun K hK => ?_)
  go_simp
  refine hK _ _ ?_
  clear hK K
  refine wpList_step (fun K hK => ?_)
  go_simp
  refine hK _ _ ?_
  clear hK K
  refine wpList_step (fun K hK => ?_)
  go_simp
  refine hK _ _ ?_
  clear hK K
  refine wpList_step (fun K hK => ?_)
  go_simp
  refine hK _ _ ?_
  clear hK K
  refine wpList_store39 rfl (.tmp 11) (.tmp 40) rfl w3.heap.size rfl (r := zeroR) (v := (.slice A1 zeroR.map.sp.length c1)) (j := nilV) (r0 := zeroR) (v0 := nilV) (j0 := nilV) rfl rfl rfl (heap_alloc_new w3 _) ?_
  intro w4 hR4 ho
  simp only [Act.put, List.setIfInBounds_toArray, List.set_cons_zero, List.set_cons_succ]
  have hb : Below w3.heap.size w3 w4 := ho.below (al _) (fun k hk => by omega) (by simp)
  have hl : w3.heap.size < w4.heap.size := lt_of_some hR4
  clear ho
  have hb4 : Below w2.heap.size w2 w4 := hb3.trans (hb.mono hb3.size)
  have HT4 := Lib.hid (blk_below hb4 (lt_of_some HT2.out) HT2.out)
  have HB4 := Lib.hid (HB2.out.trans (hb4.mono HB2.out.size))
  have HI4 := Lib.hid (hI3.below hb)
  have HR4 := Lib.hid hR4
  have hgb : w.heap.size < w3.heap.size := Nat.lt_of_lt_of_le (lt_of_some HT2.out) hb3.size
  clear hb3 hb hb4 hI3 hR4 hl
  go_wp2_with fail
  go_ret
  exact ⟨rfl, HB4.out⟩
set_option maxRecDepth 100000 in
set_option maxHeartbeats 8000000 in
theorem rfinds_go (w : World) (A K : Option Addr) (cap kc : Nat) (T k : Atl) (nodes leads : Int) (name : ByteArray) (h : MapIn w A cap T) (hk : MapIn w K kc k) (hn : name.size ≤ 9223372036854775807) (hz : (Lit.int .i64 leads).wf = true) (hzn : (Lit.int .i64 nodes).wf = true) (hm : tr (MapOk T) = true) (h1 : 1 ≤ nodes) (h2 : nodes ≤ 7) (hnm : named name = true) (R : Rte) (hR : ∀ lead, 1 ≤ lead → OnWay T nodes lead name 0 R) (hG : ∀ w, MapIn w K kc k → Calls Try.prog 24 #[.int .i64 nodes, .string name, k.val (.slice K k.sp.length kc), .int .i64 64] w fun e w' => ∃ A' cap', e = .returned (.tuple #[R.val (.slice A' R.map.sp.length cap') nilV, .int .i64 0]) ∧ MapIn w' A' cap' R.map ∧ Below w.heap.size w w') :
    Calls Try.prog 8 #[T.val (.slice A T.sp.length cap), k.val (.slice K k.sp.length kc), .int .i64 nodes, .string name, .int .i64 leads] w fun e w' => e = .returned (.bool true) ∧ Below w.heap.size w w' := by
  have HG := Lib.hid hG; clear hG
  have hC := fun w h => check_any w A cap T h
  rw [hm] at hC
  have HC := Lib.hid hC; have HI := Lib.hid h; have HK := Lib.hid hk; have Hm := Lib.hid hm
  clear hC h hk hm
  go_enter Try.func8, Try.ntmps8
  go_upto_region 1 with fail
  change Code.wp _ _ _ _ ((w.alloc (T.blk (.slice A T.sp.length cap))).alloc (k.blk (.slice K k.sp.length kc)))
  have hT0 : ((w.alloc (T.blk (.slice A T.sp.length cap))).alloc (k.blk (.slice K k.sp.length kc))).heap[w.heap.size]? = some (T.blk (.slice A T.sp.length cap)) := (Below.heap_alloc _ _ _ (by simp)).trans (heap_alloc_new w _)
  have hK0 : ((w.alloc (T.blk (.slice A T.sp.length cap))).alloc (k.blk (.slice K k.sp.length kc))).heap[w.heap.size + 1]? = some (k.blk (.slice K k.sp.length kc)) := heap_second _ _ _
  have hB0 : Below w.heap.size w ((w.alloc (T.blk (.slice A T.sp.length cap))).alloc (k.blk (.slice K k.sp.length kc))) := al2 _ _
  generalize ((w.alloc (T.blk (.slice A T.sp.length cap))).alloc (k.blk (.slice K k.sp.length kc))) = w0 at *
  have HT0 := Lib.hid hT0; have HK0 := Lib.hid hK0; have HB0 := Lib.hid hB0
  clear hT0 hK0 hB0
  go_upto_region 3 with (go_at_call 21
                         refine (awakeR _).mono ?_
                         rintro e w1 ⟨rfl, hb1⟩
                         have HT1 := Lib.hid (blk_below hb1 (lt_of_some HT0.out) HT0.out)
                         have HK1 := Lib.hid (blk_below hb1 (lt_of_some HK0.out) HK0.out)
                         have HB1 := Lib.hid (HB0.out.trans (hb1.mono HB0.out.size))
                         clear hb1)
  refine wp_region_lit ?_
  refine wpList_load26 rfl (.tmp 5) rfl (w.heap.size) rfl HT1.out ?_
  simp only [Act.put, List.setIfInBounds_toArray, List.set_cons_zero, List.set_cons_succ]
  refine wpList_step (fun K hK => ?_)
  go_simp
  go_at_call 29
  refine (HC.out _ (HI.out.below HB1.out)).mono ?_
  rintro e w2 ⟨rfl, hb2⟩
  refine hK _ _ ?_
  clear hK K
  have HT2 := Lib.hid (blk_below hb2 (lt_of_some HT1.out) HT1.out)
  have HK2 := Lib.hid (blk_below hb2 (lt_of_some HK1.out) HK1.out)
  have HB2 := Lib.hid (HB1.out.trans (hb2.mono HB1.out.size))
  clear hb2
  go_upto_region 5 with fail
  refine wp_region_lit ?_
  refine wpList_step (fun K hK => ?_)
  go_simp
  refine hK _ _ ?_
  clear hK K
  refine wpList_step (fun K hK => ?_)
  go_simp
  refine hK _ _ ?_
  clear hK K
  refine wpList_load26 rfl (.tmp 6) rfl ((w.heap.size + 1)) rfl HK2.out ?_
  simp only [Act.put, List.setIfInBounds_toArray, List.set_cons_zero, List.set_cons_succ]
  refine wpList_step (fun K hK => ?_)
  go_simp
  go_at_call 24
  refine (HG.out _ (HK.out.below HB2.out)).mono ?_
  rintro e w3 ⟨A1, c1, rfl, hI3, hb3⟩
  refine hK _ _ ?_
  clear hK K
  refine wpList_step (fun K hK => ?_)
  go_simp
  refine hK _ _ ?_
  clear hK K
  refine wpList_step (fun K hK => ?_)
  go_simp
  refine hK _ _ ?_
  clear hK K
  refine wpList_step (fun K hK => ?_)
  go_simp
  refine hK _ _ ?_
  clear hK K
  refine wpList_step (fun K hK => ?_)
  go_simp
  refine hK _ _ ?_
  clear hK K
  refine wpList_store39 rfl (.tmp 11) (.tmp 40) rfl w3.heap.size rfl (r := R) (v := (.slice A1 R.map.sp.length c1)) (j := nilV) (r0 := zeroR) (v0 := nilV) (j0 := nilV) rfl rfl rfl (heap_alloc_new w3 _) ?_
  intro w4 hR4 ho
  simp only [Act.put, List.setIfInBounds_toArray, List.set_cons_zero, List.set_cons_succ]
  have hb : Below w3.heap.size w3 w4 := ho.below (al _) (fun k hk => by omega) (by simp)
  have hl : w3.heap.size < w4.heap.size := lt_of_some hR4
  clear ho
  have hb4 : Below w2.heap.size w2 w4 := hb3.trans (hb.mono hb3.size)
  have HT4 := Lib.hid (blk_below hb4 (lt_of_some HT2.out) HT2.out)
  have HB4 := Lib.hid (HB2.out.trans (hb4.mono HB2.out.size))
  have HI4 := Lib.hid (hI3.below hb)
  have HR4 := Lib.hid hR4
  have hgb : w.heap.size < w3.heap.size := Nat.lt_of_lt_of_le (lt_of_some HT2.out) hb3.size
  clear hb3 hb hb4 hI3 hR4 hl
  go_upto_region 9 with fail
  have hlead := lead_ok leads nodes h1 h2
  generalize wrap64 (1 + wrap64 ((IntKind.u64.wrap leads).tmod nodes)) = lead at *
  have HWay0 := Lib.hid (hR lead hlead.1)
  clear hR
  obtain ⟨g, hg⟩ : ∃ g, w3.heap.size = g := ⟨_, rfl⟩
  rw [hg] at HR4 hgb
  simp only [hg]
  clear hg
  go_wp2_with fail
  go_loopw [14] (fun v wr => ∃ (i : Nat) (r : Rte) (V j : Value), v = .int .i64 i ∧ wr.heap[g]? = some (r.blk V j) ∧ V.oneCell' = true ∧ j.oneCell' = true ∧ Below w.heap.size w wr ∧ wr.heap[w.heap.size]? = some (T.blk (.slice A T.sp.length cap)) ∧ i ≤ 33 ∧ (Told r ∨ ∃ A1 c1 J jc, V = .slice A1 r.map.sp.length c1 ∧ j = .slice J 0 jc ∧ MapIn wr A1 c1 r.map ∧ OnWay T nodes lead name i r)) (fun v _ => 40 - (intOf v).toNat)
  case atStart => exact ⟨0, R, _, _, rfl, HR4.out, rfl, rfl, HB4.out, HT4.out, by omega, .inr ⟨A1, c1, none, 0, rfl, rfl, HI4.out, HWay0.out⟩⟩
  case round =>
    clear HT0 HT1 HT2 HT4 HB0 HB1 HB2 HB4 HR4 HI4 HK0 HK1 HK2 HWay0
    obtain ⟨i, r, V, j, rfl, hR, hv1, hv2, hB, hT, hi33, hcase⟩ := hrel
    have HR := Lib.hid hR; have HT := Lib.hid hT; have HB := Lib.hid hB
    clear hR hT hB
    obtain ⟨⟨c0, cn, c13, c14, c15, c16, clt⟩, _, c17, c18, c19⟩ := rte_cells HR.out
    rcases hcase with ⟨hd, he, ht⟩ | ⟨A1, c1, J, jc, rfl, rfl, hM, hW⟩
    · skip
      rw [hd] at c16
      by_cases hi : (i : Int) < 4 * nodes + 4
      · go_wp2_with fail
        go_ret
        exact ⟨rfl, HB.out⟩
      · go_wp2_with fail
        go_ret
        exact ⟨rfl, HB.out⟩
    · obtain ⟨hok, hi⟩ := hW.ok h1 h2 hlead.2 hnm
      have e1 := hW.1; have e2 := hW.2.1; have e3 := hW.2.2.1; have e4 := hW.2.2.2.1; have e5 := hW.2.2.2.2.1; have e6 := hW.2.2.2.2.2.1
      rw [e3] at c16
      have hrn : r.name.size ≤ 9223372036854775807 := by rw [e2]; exact hn
      have hl1 : ¬ r.left = 1 := by omega
      have HM := Lib.hid hM; have HOk := Lib.hid hok; have HWay := Lib.hid hW; have HDn := Lib.hid e3
      clear hM hok e1 e2 e3 e4
      have hw1 : IntKind.i64.wrap ((i : Int) + 1) = (i : Int) + 1 := IntWalk.i64_in _ (by omega)
      have hr16 : r.map.sp.length ≤ 16 := OnWay.len hW
      have hr56 : r.map.sp.length * 56 ≤ 140737488355328 := by omega
      clear hW
      rcases HWay.out.2.2.2.2.2.2 with ⟨hf, _, _⟩ | ⟨hf, hmo, hor⟩
      · have hw := fun w h => where_fetch w A1 c1 (.slice J 0 jc) r h hrn HOk.out HDn.out hf
        have HW := Lib.hid hw; have Hf := Lib.hid hf
        clear hw hf
        by_cases hnl : r.node = lead
        · have b1 : (r.node == lead) = true := by simpa using hnl
          have Hnl := Lib.hid hnl; clear hnl
          go_upto_region 14 with fail
          refine wp_region_lit ?_
          refine wpList_load39 rfl (.tmp 11) rfl (g) rfl HR.out ?_
          simp only [Act.put, List.setIfInBounds_toArray, List.set_cons_zero, List.set_cons_succ]
          refine wpList_step (fun K hK => ?_)
          go_simp
          go_at_call 22
          refine (HW.out _ HM.out).mono ?_
          rintro e w5 ⟨rfl, hb5⟩
          refine hK _ _ ?_
          clear hK K
          have HD5 := Lib.hid hb5
          clear hb5
          go_upto_region 15 with fail
          refine wp_region_lit ?_
          refine wpList_step (fun K hK => ?_)
          go_simp
          refine hK _ _ ?_
          clear hK K
          refine wpList_step (fun K hK => ?_)
          go_simp
          refine hK _ _ ?_
          clear hK K
          refine wpList_store59 rfl (.tmp 19) (.tmp 79) rfl w5.heap.size rfl (p := turnP) (j := nilV) (v := nilV) (p0 := zeroRep) (j0 := nilV) (v0 := nilV) rfl rfl rfl (heap_alloc_new w5 _) ?_
          intro w6 hP ho
          simp only [Act.put, List.setIfInBounds_toArray, List.set_cons_zero, List.set_cons_succ]
          have hb : Below w5.heap.size w5 w6 := ho.below (al _) (fun k hk => by omega) (by simp)
          have HD6 := Lib.hid (HD5.out.trans (hb.mono HD5.out.size))
          have HP6 := Lib.hid hP
          have Hpl := Lib.hid HD5.out.size
          clear hP ho hb
          go_upto_region 17 with fail
          refine wp_region_lit ?_
          refine wpList_load26 rfl (.tmp 5) rfl (w.heap.size) rfl (blk_below HD6.out (lt_of_some HT.out) HT.out) ?_
          simp only [Act.put, List.setIfInBounds_toArray, List.set_cons_zero, List.set_cons_succ]
          refine wpList_step (fun K hK => ?_)
          go_simp
          refine hK _ _ ?_
          clear hK K
          refine wpList_store59 rfl (.tmp 19) (.tmp 88) rfl w5.heap.size rfl (p := (truthP T)) (j := nilV) (v := (.slice A T.sp.length cap)) (p0 := turnP) (j0 := nilV) (v0 := nilV) rfl rfl rfl HP6.out ?_
          intro w7 hP ho
          simp only [Act.put, List.setIfInBounds_toArray, List.set_cons_zero, List.set_cons_succ]
          have HD7 := Lib.hid (ho.below HD6.out (fun q hq => by have hq : q = w5.heap.size := hq; have := Hpl.out; omega) HD6.out.size)
          have HP7 := Lib.hid hP
          clear hP ho
          go_upto_region 23 with fail
          refine wp_region_lit ?_
          refine wpList_load39 rfl (.tmp 11) rfl (g) rfl (blk_below HD7.out (lt_of_some HR.out) HR.out) ?_
          simp only [Act.put, List.setIfInBounds_toArray, List.set_cons_zero, List.set_cons_succ]
          refine wpList_load59 rfl (.tmp 19) rfl w5.heap.size rfl HP7.out ?_
          simp only [Act.put, List.setIfInBounds_toArray, List.set_cons_zero, List.set_cons_succ]
          refine wpList_step (fun K hK => ?_)
          go_simp
          go_at_call 33
          refine (heard_mapped _ A1 J A c1 jc cap r [] (truthP T) nilV (HM.out.below HD7.out) hrn hr56 (rowAt_nil _ _ _ _) (by decide) HOk.out HDn.out (HI.out.below (HB.out.trans (HD7.out.mono HB.out.size))) rfl Hf.out Hm.out hl1).mono ?_
          rintro e w8 ⟨A2, c2, J2, jc2, rfl, hO, _, hbh⟩
          refine hK _ _ ?_
          clear hK K
          have HD8 := Lib.hid (HD7.out.trans (hbh.mono HD7.out.size))
          have hgi : g < w7.heap.size := Nat.lt_of_lt_of_le (lt_of_some HR.out) HD7.out.size
          clear hbh
          refine wpList_store39 rfl (.tmp 11) (.tmp 127) rfl g rfl (r := { r with map := T, fetch := !named r.name, node := 1, left := r.left - 1 }) (v := .slice A2 T.sp.length c2) (j := .slice J2 0 jc2) (r0 := r) (v0 := (.slice A1 r.map.sp.length c1)) (j0 := (.slice J 0 jc)) rfl rfl rfl (blk_below HD8.out (lt_of_some HR.out) HR.out) ?_
          intro w9 hN ho
          simp only [Act.put, List.setIfInBounds_toArray, List.set_cons_zero, List.set_cons_succ]
          have hT : w9.heap[w.heap.size]? = some (T.blk (.slice A T.sp.length cap)) := (ho.block _ (lt_of_some (blk_below HD8.out (lt_of_some HT.out) HT.out)) (by show ¬ _ = g; have := hgb; omega)).trans (blk_below HD8.out (lt_of_some HT.out) HT.out)
          have hB : Below w.heap.size w w9 := ho.below (HB.out.trans (HD8.out.mono HB.out.size)) (fun q hq => by have hq : q = g := hq; have := hgb; omega) (HB.out.trans (HD8.out.mono HB.out.size)).size
          have hMI : MapIn w9 A2 c2 T := MapIn.ofOwn (a := T) (HI.out.below (HB.out.trans (HD7.out.mono HB.out.size))) (own_only hO ho (fun q hq he => by have := (hO.lt q hq).1; have he : q = g := he; omega))
          have hR := HWay.out.map Hm.out hlead.1 hnm Hf.out Hnl.out
          have HN := Lib.hid hN; have HT2 := Lib.hid hT; have HB2 := Lib.hid hB; have HMI := Lib.hid hMI; have HR2 := Lib.hid hR
          clear hN hT hB hMI hR ho hO
          go_wp2_with fail
          go_roundw
          case rel => exact ⟨i + 1, { r with map := T, fetch := !named r.name, node := 1, left := r.left - 1 }, .slice A2 T.sp.length c2, .slice J2 0 jc2, by go_num, HN.out, rfl, rfl, HB2.out, HT2.out, by omega, Or.inr ⟨A2, c2, J2, jc2, rfl, rfl, HMI.out, HR2.out⟩⟩
          case measure => simp [intOf]; omega
        · have b1 : (r.node == lead) = false := by simpa using hnl
          go_upto_region 14 with fail
          refine wp_region_lit ?_
          refine wpList_load39 rfl (.tmp 11) rfl (g) rfl HR.out ?_
          simp only [Act.put, List.setIfInBounds_toArray, List.set_cons_zero, List.set_cons_succ]
          refine wpList_step (fun K hK => ?_)
          go_simp
          go_at_call 22
          refine (HW.out _ HM.out).mono ?_
          rintro e w5 ⟨rfl, hb5⟩
          refine hK _ _ ?_
          clear hK K
          have HD5 := Lib.hid hb5
          clear hb5
          go_upto_region 15 with fail
          refine wp_region_lit ?_
          refine wpList_step (fun K hK => ?_)
          go_simp
          refine hK _ _ ?_
          clear hK K
          refine wpList_step (fun K hK => ?_)
          go_simp
          refine hK _ _ ?_
          clear hK K
          refine wpList_store59 rfl (.tmp 19) (.tmp 79) rfl w5.heap.size rfl (p := turnP) (j := nilV) (v := nilV) (p0 := zeroRep) (j0 := nilV) (v0 := nilV) rfl rfl rfl (heap_alloc_new w5 _) ?_
          intro w6 hP ho
          simp only [Act.put, List.setIfInBounds_toArray, List.set_cons_zero, List.set_cons_succ]
          have hb : Below w5.heap.size w5 w6 := ho.below (al _) (fun k hk => by omega) (by simp)
          have HD6 := Lib.hid (HD5.out.trans (hb.mono HD5.out.size))
          have HP6 := Lib.hid hP
          have Hpl := Lib.hid HD5.out.size
          clear hP ho hb
          go_upto_region 23 with fail
          refine wp_region_lit ?_
          refine wpList_load39 rfl (.tmp 11) rfl (g) rfl (blk_below HD6.out (lt_of_some HR.out) HR.out) ?_
          simp only [Act.put, List.setIfInBounds_toArray, List.set_cons_zero, List.set_cons_succ]
          refine wpList_load59 rfl (.tmp 19) rfl w5.heap.size rfl HP6.out ?_
          simp only [Act.put, List.setIfInBounds_toArray, List.set_cons_zero, List.set_cons_succ]
          refine wpList_step (fun K hK => ?_)
          go_simp
          go_at_call 33
          refine (heard_keep1a _ A1 J c1 jc r [] turnP nilV nilV (HM.out.below HD6.out) hrn hr56 (rowAt_nil _ _ _ _) (by decide) HOk.out HDn.out rfl (by decide) hl1).mono ?_
          rintro e w7 ⟨A2, c2, J2, jc2, rfl, hO, _, hbh⟩
          refine hK _ _ ?_
          clear hK K
          have HD7 := Lib.hid (HD6.out.trans (hbh.mono HD6.out.size))
          have hgi : g < w6.heap.size := Nat.lt_of_lt_of_le (lt_of_some HR.out) HD6.out.size
          clear hbh
          refine wpList_store39 rfl (.tmp 11) (.tmp 127) rfl g rfl (r := { r with node := r.node % r.nodes + 1, left := r.left - 1 }) (v := .slice A2 r.map.sp.length c2) (j := .slice J2 0 jc2) (r0 := r) (v0 := (.slice A1 r.map.sp.length c1)) (j0 := (.slice J 0 jc)) rfl rfl rfl (blk_below HD7.out (lt_of_some HR.out) HR.out) ?_
          intro w8 hN ho
          simp only [Act.put, List.setIfInBounds_toArray, List.set_cons_zero, List.set_cons_succ]
          have hT : w8.heap[w.heap.size]? = some (T.blk (.slice A T.sp.length cap)) := (ho.block _ (lt_of_some (blk_below HD7.out (lt_of_some HT.out) HT.out)) (by show ¬ _ = g; have := hgb; omega)).trans (blk_below HD7.out (lt_of_some HT.out) HT.out)
          have hB : Below w.heap.size w w8 := ho.below (HB.out.trans (HD7.out.mono HB.out.size)) (fun q hq => by have hq : q = g := hq; have := hgb; omega) (HB.out.trans (HD7.out.mono HB.out.size)).size
          have hMI : MapIn w8 A2 c2 r.map := MapIn.ofOwn (a := r.map) (HM.out.below HD6.out) (own_only hO ho (fun q hq he => by have := (hO.lt q hq).1; have he : q = g := he; omega))
          have hR := HWay.out.next hlead.2 hnl
          have HN := Lib.hid hN; have HT2 := Lib.hid hT; have HB2 := Lib.hid hB; have HMI := Lib.hid hMI; have HR2 := Lib.hid hR
          clear hN hT hB hMI hR ho hO
          go_wp2_with fail
          go_roundw
          case rel => exact ⟨i + 1, { r with node := r.node % r.nodes + 1, left := r.left - 1 }, .slice A2 r.map.sp.length c2, .slice J2 0 jc2, by go_num, HN.out, rfl, rfl, HB2.out, HT2.out, by omega, Or.inr ⟨A2, c2, J2, jc2, rfl, rfl, HMI.out, HR2.out⟩⟩
          case measure => simp [intOf]; omega
      · obtain ⟨k1, hk1, hx1, hg1⟩ := spanOf r.map r.name hmo
        have hw := fun w h => where_some w A1 c1 (.slice J 0 jc) r h hrn k1 hk1 hx1 HOk.out HDn.out hf hmo (by rw [HWay.out.2.1]; exact hnm)
        obtain ⟨s, hs⟩ : ∃ s, r.map.sp[k1] = s := ⟨_, rfl⟩
        rw [hs] at hw hg1
        have HW := Lib.hid hw; have Hf := Lib.hid hf; have Hs := Lib.hid hs; have Hx1 := Lib.hid hx1
        clear hw hf hor hmo hs hx1
        by_cases hnl : r.node = lead
        · have b1 : (r.node == lead) = true := by simpa using hnl
          have b2 : (s.gr == 0) = false := by simp; omega
          have b3 : (s.gr != 0) = true := by simp; omega
          have Hnl := Lib.hid hnl; clear hnl
          go_upto_region 14 with fail
          refine wp_region_lit ?_
          refine wpList_load39 rfl (.tmp 11) rfl (g) rfl HR.out ?_
          simp only [Act.put, List.setIfInBounds_toArray, List.set_cons_zero, List.set_cons_succ]
          refine wpList_step (fun K hK => ?_)
          go_simp
          go_at_call 22
          refine (HW.out _ HM.out).mono ?_
          rintro e w5 ⟨rfl, hb5⟩
          refine hK _ _ ?_
          clear hK K
          have HD5 := Lib.hid hb5
          clear hb5
          go_upto_region 15 with fail
          refine wp_region_lit ?_
          refine wpList_step (fun K hK => ?_)
          go_simp
          refine hK _ _ ?_
          clear hK K
          refine wpList_step (fun K hK => ?_)
          go_simp
          refine hK _ _ ?_
          clear hK K
          refine wpList_store59 rfl (.tmp 19) (.tmp 79) rfl w5.heap.size rfl (p := turnP) (j := nilV) (v := nilV) (p0 := zeroRep) (j0 := nilV) (v0 := nilV) rfl rfl rfl (heap_alloc_new w5 _) ?_
          intro w6 hP ho
          simp only [Act.put, List.setIfInBounds_toArray, List.set_cons_zero, List.set_cons_succ]
          have hb : Below w5.heap.size w5 w6 := ho.below (al _) (fun k hk => by omega) (by simp)
          have HD6 := Lib.hid (HD5.out.trans (hb.mono HD5.out.size))
          have HP6 := Lib.hid hP
          have Hpl := Lib.hid HD5.out.size
          clear hP ho hb
          go_upto_region 19 with fail
          refine wp_region_lit ?_
          refine wpList_step (fun K hK => ?_)
          go_simp
          refine hK _ _ ?_
          clear hK K
          refine wpList_step (fun K hK => ?_)
          go_simp
          refine hK _ _ ?_
          clear hK K
          refine wpList_store59 rfl (.tmp 19) (.tmp 97) rfl w5.heap.size rfl (p := staleP) (j := nilV) (v := nilV) (p0 := turnP) (j0 := nilV) (v0 := nilV) rfl rfl rfl HP6.out ?_
          intro w7 hP ho
          simp only [Act.put, List.setIfInBounds_toArray, List.set_cons_zero, List.set_cons_succ]
          have HD7 := Lib.hid (ho.below HD6.out (fun q hq => by have hq : q = w5.heap.size := hq; have := Hpl.out; omega) HD6.out.size)
          have HP7 := Lib.hid hP
          clear hP ho
          go_upto_region 20 with fail
          obtain ⟨k2, hk2, hx2, hg2⟩ := spanOf T name Hm.out
          have hst : r.map = T → s = T.sp[k2] := fun h => by
            have h3 := Hx1.out
            rw [← Hs.out]
            subst h
            rw [HWay.out.2.1] at h3
            have : k1 = k2 := by rw [hx2] at h3; omega
            subst this
            rfl
          have hF := fun w h => find_some w A cap T name k2 h Hm.out hn hnm hk2 hx2
          obtain ⟨t, ht⟩ : ∃ t, T.sp[k2] = t := ⟨_, rfl⟩
          rw [ht] at hF hst
          have HF := Lib.hid hF; have Hst := Lib.hid hst
          clear hF hst ht hx2 hg2
          refine wp_region_lit ?_
          refine wpList_load26 rfl (.tmp 5) rfl (w.heap.size) rfl (blk_below HD7.out (lt_of_some HT.out) HT.out) ?_
          simp only [Act.put, List.setIfInBounds_toArray, List.set_cons_zero, List.set_cons_succ]
          refine wpList_step (fun K hK => ?_)
          go_simp
          refine hK _ _ ?_
          clear hK K
          refine wpList_step (fun K hK => ?_)
          go_simp
          go_at_call 30
          refine (HF.out _ (HI.out.below (HB.out.trans (HD7.out.mono HB.out.size)))).mono ?_
          rintro e w8 ⟨rfl, hb8⟩
          refine hK _ _ ?_
          clear hK K
          have HD8 := Lib.hid (HD7.out.trans (hb8.mono HD7.out.size))
          have HP8 := Lib.hid (blk_below hb8 (lt_of_some HP7.out) HP7.out)
          clear hb8
          refine wpList_step (fun K hK => ?_)
          go_simp
          refine hK _ _ ?_
          clear hK K
          refine wpList_step (fun K hK => ?_)
          go_simp
          refine hK _ _ ?_
          clear hK K
          refine wpList_step (fun K hK => ?_)
          go_simp
          refine hK _ _ ?_
          clear hK K
          refine wpList_step (fun K hK => ?_)
          go_simp
          refine hK _ _ ?_
          clear hK K
          refine wpList_store50 rfl (.tmp 20) (.tmp 102) rfl w8.heap.size rfl (p := t) (p0 := zeroS) rfl (heap_alloc_new w8 _) ?_
          intro w9 hN ho
          simp only [Act.put, List.setIfInBounds_toArray, List.set_cons_zero, List.set_cons_succ]
          have hb : Below w8.heap.size w8 w9 := ho.below (al _) (fun k hk => by omega) (by simp)
          have HD9 := Lib.hid (HD8.out.trans (hb.mono HD8.out.size))
          have HP9 := Lib.hid (blk_below hb (lt_of_some HP8.out) HP8.out)
          have HS9 := Lib.hid hN
          clear hN ho hb
          obtain ⟨s0, s1, s2, s3, s4, slt⟩ := span_blk HS9.out
          have hmiss : ¬ s = t → ¬ r.map = T := fun h1 h2 => h1 (Hst.out h2)
          have Hmiss := Lib.hid hmiss; clear hmiss
          cases a1 : (t.gr == s.gr)
          · have hne : ¬ r.map = T := Hmiss.out (fun h => by rw [h] at a1; simp at a1)
            go_upto_region 23 with fail
            refine wp_region_lit ?_
            refine wpList_load39 rfl (.tmp 11) rfl (g) rfl (blk_below HD9.out (lt_of_some HR.out) HR.out) ?_
            simp only [Act.put, List.setIfInBounds_toArray, List.set_cons_zero, List.set_cons_succ]
            refine wpList_load59 rfl (.tmp 19) rfl w5.heap.size rfl HP9.out ?_
            simp only [Act.put, List.setIfInBounds_toArray, List.set_cons_zero, List.set_cons_succ]
            refine wpList_step (fun K hK => ?_)
            go_simp
            go_at_call 33
            refine (heard_stale _ A1 J c1 jc r [] staleP nilV nilV (HM.out.below HD9.out) hrn hr56 (rowAt_nil _ _ _ _) (by decide) HOk.out HDn.out rfl Hf.out (by decide) hl1).mono ?_
            rintro e w10 ⟨A2, c2, J2, jc2, rfl, hO, _, hbh⟩
            refine hK _ _ ?_
            clear hK K
            have HD10 := Lib.hid (HD9.out.trans (hbh.mono HD9.out.size))
            have hgi : g < w9.heap.size := Nat.lt_of_lt_of_le (lt_of_some HR.out) HD9.out.size
            clear hbh
            refine wpList_store39 rfl (.tmp 11) (.tmp 127) rfl g rfl (r := { r with fetch := true, node := 1, left := r.left - 1 }) (v := .slice A2 r.map.sp.length c2) (j := .slice J2 0 jc2) (r0 := r) (v0 := (.slice A1 r.map.sp.length c1)) (j0 := (.slice J 0 jc)) rfl rfl rfl (blk_below HD10.out (lt_of_some HR.out) HR.out) ?_
            intro w11 hN ho
            simp only [Act.put, List.setIfInBounds_toArray, List.set_cons_zero, List.set_cons_succ]
            have hT : w11.heap[w.heap.size]? = some (T.blk (.slice A T.sp.length cap)) := (ho.block _ (lt_of_some (blk_below HD10.out (lt_of_some HT.out) HT.out)) (by show ¬ _ = g; have := hgb; omega)).trans (blk_below HD10.out (lt_of_some HT.out) HT.out)
            have hB : Below w.heap.size w w11 := ho.below (HB.out.trans (HD10.out.mono HB.out.size)) (fun q hq => by have hq : q = g := hq; have := hgb; omega) (HB.out.trans (HD10.out.mono HB.out.size)).size
            have hMI : MapIn w11 A2 c2 r.map := MapIn.ofOwn (a := r.map) (HM.out.below HD9.out) (own_only hO ho (fun q hq he => by have := (hO.lt q hq).1; have he : q = g := he; omega))
            have hR := HWay.out.old hlead.1 Hf.out Hnl.out hne
            have HN := Lib.hid hN; have HT2 := Lib.hid hT; have HB2 := Lib.hid hB; have HMI := Lib.hid hMI; have HR2 := Lib.hid hR
            clear hN hT hB hMI hR ho hO
            go_wp2_with fail
            go_roundw
            case rel => exact ⟨i + 1, { r with fetch := true, node := 1, left := r.left - 1 }, .slice A2 r.map.sp.length c2, .slice J2 0 jc2, by go_num, HN.out, rfl, rfl, HB2.out, HT2.out, by omega, Or.inr ⟨A2, c2, J2, jc2, rfl, rfl, HMI.out, HR2.out⟩⟩
            case measure => simp [intOf]; omega
          cases a2 : (t.sh == s.sh)
          · have hne : ¬ r.map = T := Hmiss.out (fun h => by rw [h] at a2; simp at a2)
            go_upto_region 23 with fail
            refine wp_region_lit ?_
            refine wpList_load39 rfl (.tmp 11) rfl (g) rfl (blk_below HD9.out (lt_of_some HR.out) HR.out) ?_
            simp only [Act.put, List.setIfInBounds_toArray, List.set_cons_zero, List.set_cons_succ]
            refine wpList_load59 rfl (.tmp 19) rfl w5.heap.size rfl HP9.out ?_
            simp only [Act.put, List.setIfInBounds_toArray, List.set_cons_zero, List.set_cons_succ]
            refine wpList_step (fun K hK => ?_)
            go_simp
            go_at_call 33
            refine (heard_stale _ A1 J c1 jc r [] staleP nilV nilV (HM.out.below HD9.out) hrn hr56 (rowAt_nil _ _ _ _) (by decide) HOk.out HDn.out rfl Hf.out (by decide) hl1).mono ?_
            rintro e w10 ⟨A2, c2, J2, jc2, rfl, hO, _, hbh⟩
            refine hK _ _ ?_
            clear hK K
            have HD10 := Lib.hid (HD9.out.trans (hbh.mono HD9.out.size))
            have hgi : g < w9.heap.size := Nat.lt_of_lt_of_le (lt_of_some HR.out) HD9.out.size
            clear hbh
            refine wpList_store39 rfl (.tmp 11) (.tmp 127) rfl g rfl (r := { r with fetch := true, node := 1, left := r.left - 1 }) (v := .slice A2 r.map.sp.length c2) (j := .slice J2 0 jc2) (r0 := r) (v0 := (.slice A1 r.map.sp.length c1)) (j0 := (.slice J 0 jc)) rfl rfl rfl (blk_below HD10.out (lt_of_some HR.out) HR.out) ?_
            intro w11 hN ho
            simp only [Act.put, List.setIfInBounds_toArray, List.set_cons_zero, List.set_cons_succ]
            have hT : w11.heap[w.heap.size]? = some (T.blk (.slice A T.sp.length cap)) := (ho.block _ (lt_of_some (blk_below HD10.out (lt_of_some HT.out) HT.out)) (by show ¬ _ = g; have := hgb; omega)).trans (blk_below HD10.out (lt_of_some HT.out) HT.out)
            have hB : Below w.heap.size w w11 := ho.below (HB.out.trans (HD10.out.mono HB.out.size)) (fun q hq => by have hq : q = g := hq; have := hgb; omega) (HB.out.trans (HD10.out.mono HB.out.size)).size
            have hMI : MapIn w11 A2 c2 r.map := MapIn.ofOwn (a := r.map) (HM.out.below HD9.out) (own_only hO ho (fun q hq he => by have := (hO.lt q hq).1; have he : q = g := he; omega))
            have hR := HWay.out.old hlead.1 Hf.out Hnl.out hne
            have HN := Lib.hid hN; have HT2 := Lib.hid hT; have HB2 := Lib.hid hB; have HMI := Lib.hid hMI; have HR2 := Lib.hid hR
            clear hN hT hB hMI hR ho hO
            go_wp2_with fail
            go_roundw
            case rel => exact ⟨i + 1, { r with fetch := true, node := 1, left := r.left - 1 }, .slice A2 r.map.sp.length c2, .slice J2 0 jc2, by go_num, HN.out, rfl, rfl, HB2.out, HT2.out, by omega, Or.inr ⟨A2, c2, J2, jc2, rfl, rfl, HMI.out, HR2.out⟩⟩
            case measure => simp [intOf]; omega
          cases a3 : (t.ep == s.ep)
          · have hne : ¬ r.map = T := Hmiss.out (fun h => by rw [h] at a3; simp at a3)
            go_upto_region 23 with fail
            refine wp_region_lit ?_
            refine wpList_load39 rfl (.tmp 11) rfl (g) rfl (blk_below HD9.out (lt_of_some HR.out) HR.out) ?_
            simp only [Act.put, List.setIfInBounds_toArray, List.set_cons_zero, List.set_cons_succ]
            refine wpList_load59 rfl (.tmp 19) rfl w5.heap.size rfl HP9.out ?_
            simp only [Act.put, List.setIfInBounds_toArray, List.set_cons_zero, List.set_cons_succ]
            refine wpList_step (fun K hK => ?_)
            go_simp
            go_at_call 33
            refine (heard_stale _ A1 J c1 jc r [] staleP nilV nilV (HM.out.below HD9.out) hrn hr56 (rowAt_nil _ _ _ _) (by decide) HOk.out HDn.out rfl Hf.out (by decide) hl1).mono ?_
            rintro e w10 ⟨A2, c2, J2, jc2, rfl, hO, _, hbh⟩
            refine hK _ _ ?_
            clear hK K
            have HD10 := Lib.hid (HD9.out.trans (hbh.mono HD9.out.size))
            have hgi : g < w9.heap.size := Nat.lt_of_lt_of_le (lt_of_some HR.out) HD9.out.size
            clear hbh
            refine wpList_store39 rfl (.tmp 11) (.tmp 127) rfl g rfl (r := { r with fetch := true, node := 1, left := r.left - 1 }) (v := .slice A2 r.map.sp.length c2) (j := .slice J2 0 jc2) (r0 := r) (v0 := (.slice A1 r.map.sp.length c1)) (j0 := (.slice J 0 jc)) rfl rfl rfl (blk_below HD10.out (lt_of_some HR.out) HR.out) ?_
            intro w11 hN ho
            simp only [Act.put, List.setIfInBounds_toArray, List.set_cons_zero, List.set_cons_succ]
            have hT : w11.heap[w.heap.size]? = some (T.blk (.slice A T.sp.length cap)) := (ho.block _ (lt_of_some (blk_below HD10.out (lt_of_some HT.out) HT.out)) (by show ¬ _ = g; have := hgb; omega)).trans (blk_below HD10.out (lt_of_some HT.out) HT.out)
            have hB : Below w.heap.size w w11 := ho.below (HB.out.trans (HD10.out.mono HB.out.size)) (fun q hq => by have hq : q = g := hq; have := hgb; omega) (HB.out.trans (HD10.out.mono HB.out.size)).size
            have hMI : MapIn w11 A2 c2 r.map := MapIn.ofOwn (a := r.map) (HM.out.below HD9.out) (own_only hO ho (fun q hq he => by have := (hO.lt q hq).1; have he : q = g := he; omega))
            have hR := HWay.out.old hlead.1 Hf.out Hnl.out hne
            have HN := Lib.hid hN; have HT2 := Lib.hid hT; have HB2 := Lib.hid hB; have HMI := Lib.hid hMI; have HR2 := Lib.hid hR
            clear hN hT hB hMI hR ho hO
            go_wp2_with fail
            go_roundw
            case rel => exact ⟨i + 1, { r with fetch := true, node := 1, left := r.left - 1 }, .slice A2 r.map.sp.length c2, .slice J2 0 jc2, by go_num, HN.out, rfl, rfl, HB2.out, HT2.out, by omega, Or.inr ⟨A2, c2, J2, jc2, rfl, rfl, HMI.out, HR2.out⟩⟩
            case measure => simp [intOf]; omega
          obtain ⟨p0, p1, p2, p3, p4, plt⟩ := (rep_cells HP9.out).1
          have fz2 := fz_blk HP9.out 2; have fz3 := fz_blk HP9.out 3; have fz4 := fz_blk HP9.out 4
          have hset := rep_res HP9.out
          have hon : Only (· = w5.heap.size) w9 (((w9.setCell ⟨w5.heap.size, 2, none⟩ (.int .i64 151)).setCell ⟨w5.heap.size, 3, none⟩ (.int .i64 7)).setCell ⟨w5.heap.size, 4, none⟩ nilV) := ((only_setCell w9 ⟨w5.heap.size, 2, none⟩ (.int .i64 151)).trans (only_setCell _ ⟨w5.heap.size, 3, none⟩ (.int .i64 7)) (fun _ _ h => h)).trans (only_setCell _ ⟨w5.heap.size, 4, none⟩ nilV) (fun _ _ h => h)
          have HON := Lib.hid hon; have HSET := Lib.hid hset
          clear hon hset
          go_upto_region 23 with fail
          have hD10 := HON.out.below HD9.out (fun q hq => by have hq : q = w5.heap.size := hq; have := Hpl.out; omega) HD9.out.size
          have hP10 := HSET.out
          change Code.wp _ _ _ _ (((w9.setCell ⟨w5.heap.size, 2, none⟩ (.int .i64 151)).setCell ⟨w5.heap.size, 3, none⟩ (.int .i64 7)).setCell ⟨w5.heap.size, 4, none⟩ nilV)
          clear HON HSET
          generalize (((w9.setCell ⟨w5.heap.size, 2, none⟩ (.int .i64 151)).setCell ⟨w5.heap.size, 3, none⟩ (.int .i64 7)).setCell ⟨w5.heap.size, 4, none⟩ nilV) = w10 at *
          have HD10 := Lib.hid hD10; have HP10 := Lib.hid hP10
          clear hD10 hP10
          go_upto_region 23 with fail
          refine wp_region_lit ?_
          refine wpList_load39 rfl (.tmp 11) rfl (g) rfl (blk_below HD10.out (lt_of_some HR.out) HR.out) ?_
          simp only [Act.put, List.setIfInBounds_toArray, List.set_cons_zero, List.set_cons_succ]
          refine wpList_load59 rfl (.tmp 19) rfl w5.heap.size rfl HP10.out ?_
          simp only [Act.put, List.setIfInBounds_toArray, List.set_cons_zero, List.set_cons_succ]
          refine wpList_step (fun K hK => ?_)
          go_simp
          go_at_call 33
          refine (heard_answer _ A1 J none c1 jc 0 r [] hitP [] nilV (HM.out.below HD10.out) hrn hr56 (rowAt_nil _ _ _ _) (by decide) HOk.out HDn.out (rowAt_nil _ _ _ _) (by decide) rfl Hf.out (by decide)).mono ?_
          rintro e w11 ⟨A2, c2, J2, jc2, rfl, hO, _, hbh⟩
          refine hK _ _ ?_
          clear hK K
          have HD11 := Lib.hid (HD10.out.trans (hbh.mono HD10.out.size))
          have hgi : g < w10.heap.size := Nat.lt_of_lt_of_le (lt_of_some HR.out) HD10.out.size
          clear hbh
          refine wpList_store39 rfl (.tmp 11) (.tmp 127) rfl g rfl (r := { r with done := true, err := 151, time := 7 }) (v := .slice A2 r.map.sp.length c2) (j := .slice J2 0 jc2) (r0 := r) (v0 := (.slice A1 r.map.sp.length c1)) (j0 := (.slice J 0 jc)) rfl rfl rfl (blk_below HD11.out (lt_of_some HR.out) HR.out) ?_
          intro w12 hN ho
          simp only [Act.put, List.setIfInBounds_toArray, List.set_cons_zero, List.set_cons_succ]
          have hT : w12.heap[w.heap.size]? = some (T.blk (.slice A T.sp.length cap)) := (ho.block _ (lt_of_some (blk_below HD11.out (lt_of_some HT.out) HT.out)) (by show ¬ _ = g; have := hgb; omega)).trans (blk_below HD11.out (lt_of_some HT.out) HT.out)
          have hB : Below w.heap.size w w12 := ho.below (HB.out.trans (HD11.out.mono HB.out.size)) (fun q hq => by have hq : q = g := hq; have := hgb; omega) (HB.out.trans (HD11.out.mono HB.out.size)).size
          have hMI : MapIn w12 A2 c2 r.map := MapIn.ofOwn (a := r.map) (HM.out.below HD10.out) (own_only hO ho (fun q hq he => by have := (hO.lt q hq).1; have he : q = g := he; omega))
          have hR := (⟨rfl, rfl, rfl⟩ : Told { r with done := true, err := 151, time := 7 })
          have HN := Lib.hid hN; have HT2 := Lib.hid hT; have HB2 := Lib.hid hB; have HMI := Lib.hid hMI; have HR2 := Lib.hid hR
          clear hN hT hB hMI hR ho hO
          go_wp2_with fail
          go_roundw
          case rel => exact ⟨i + 1, { r with done := true, err := 151, time := 7 }, .slice A2 r.map.sp.length c2, .slice J2 0 jc2, by go_num, HN.out, rfl, rfl, HB2.out, HT2.out, by omega, Or.inl HR2.out⟩
          case measure => simp [intOf]; omega
        · have b1 : (r.node == lead) = false := by simpa using hnl
          go_upto_region 14 with fail
          refine wp_region_lit ?_
          refine wpList_load39 rfl (.tmp 11) rfl (g) rfl HR.out ?_
          simp only [Act.put, List.setIfInBounds_toArray, List.set_cons_zero, List.set_cons_succ]
          refine wpList_step (fun K hK => ?_)
          go_simp
          go_at_call 22
          refine (HW.out _ HM.out).mono ?_
          rintro e w5 ⟨rfl, hb5⟩
          refine hK _ _ ?_
          clear hK K
          have HD5 := Lib.hid hb5
          clear hb5
          go_upto_region 15 with fail
          refine wp_region_lit ?_
          refine wpList_step (fun K hK => ?_)
          go_simp
          refine hK _ _ ?_
          clear hK K
          refine wpList_step (fun K hK => ?_)
          go_simp
          refine hK _ _ ?_
          clear hK K
          refine wpList_store59 rfl (.tmp 19) (.tmp 79) rfl w5.heap.size rfl (p := turnP) (j := nilV) (v := nilV) (p0 := zeroRep) (j0 := nilV) (v0 := nilV) rfl rfl rfl (heap_alloc_new w5 _) ?_
          intro w6 hP ho
          simp only [Act.put, List.setIfInBounds_toArray, List.set_cons_zero, List.set_cons_succ]
          have hb : Below w5.heap.size w5 w6 := ho.below (al _) (fun k hk => by omega) (by simp)
          have HD6 := Lib.hid (HD5.out.trans (hb.mono HD5.out.size))
          have HP6 := Lib.hid hP
          have Hpl := Lib.hid HD5.out.size
          clear hP ho hb
          go_upto_region 23 with fail
          refine wp_region_lit ?_
          refine wpList_load39 rfl (.tmp 11) rfl (g) rfl (blk_below HD6.out (lt_of_some HR.out) HR.out) ?_
          simp only [Act.put, List.setIfInBounds_toArray, List.set_cons_zero, List.set_cons_succ]
          refine wpList_load59 rfl (.tmp 19) rfl w5.heap.size rfl HP6.out ?_
          simp only [Act.put, List.setIfInBounds_toArray, List.set_cons_zero, List.set_cons_succ]
          refine wpList_step (fun K hK => ?_)
          go_simp
          go_at_call 33
          refine (heard_keep1a _ A1 J c1 jc r [] turnP nilV nilV (HM.out.below HD6.out) hrn hr56 (rowAt_nil _ _ _ _) (by decide) HOk.out HDn.out rfl (by decide) hl1).mono ?_
          rintro e w7 ⟨A2, c2, J2, jc2, rfl, hO, _, hbh⟩
          refine hK _ _ ?_
          clear hK K
          have HD7 := Lib.hid (HD6.out.trans (hbh.mono HD6.out.size))
          have hgi : g < w6.heap.size := Nat.lt_of_lt_of_le (lt_of_some HR.out) HD6.out.size
          clear hbh
          refine wpList_store39 rfl (.tmp 11) (.tmp 127) rfl g rfl (r := { r with node := r.node % r.nodes + 1, left := r.left - 1 }) (v := .slice A2 r.map.sp.length c2) (j := .slice J2 0 jc2) (r0 := r) (v0 := (.slice A1 r.map.sp.length c1)) (j0 := (.slice J 0 jc)) rfl rfl rfl (blk_below HD7.out (lt_of_some HR.out) HR.out) ?_
          intro w8 hN ho
          simp only [Act.put, List.setIfInBounds_toArray, List.set_cons_zero, List.set_cons_succ]
          have hT : w8.heap[w.heap.size]? = some (T.blk (.slice A T.sp.length cap)) := (ho.block _ (lt_of_some (blk_below HD7.out (lt_of_some HT.out) HT.out)) (by show ¬ _ = g; have := hgb; omega)).trans (blk_below HD7.out (lt_of_some HT.out) HT.out)
          have hB : Below w.heap.size w w8 := ho.below (HB.out.trans (HD7.out.mono HB.out.size)) (fun q hq => by have hq : q = g := hq; have := hgb; omega) (HB.out.trans (HD7.out.mono HB.out.size)).size
          have hMI : MapIn w8 A2 c2 r.map := MapIn.ofOwn (a := r.map) (HM.out.below HD6.out) (own_only hO ho (fun q hq he => by have := (hO.lt q hq).1; have he : q = g := he; omega))
          have hR := HWay.out.next hlead.2 hnl
          have HN := Lib.hid hN; have HT2 := Lib.hid hT; have HB2 := Lib.hid hB; have HMI := Lib.hid hMI; have HR2 := Lib.hid hR
          clear hN hT hB hMI hR ho hO
          go_wp2_with fail
          go_roundw
          case rel => exact ⟨i + 1, { r with node := r.node % r.nodes + 1, left := r.left - 1 }, .slice A2 r.map.sp.length c2, .slice J2 0 jc2, by go_num, HN.out, rfl, rfl, HB2.out, HT2.out, by omega, Or.inr ⟨A2, c2, J2, jc2, rfl, rfl, HMI.out, HR2.out⟩⟩
          case measure => simp [intOf]; omega
end Go.Proofs.Ytimondpollbdfaa
