/- What is proved: both programs' Where, and both programs' Begin, answer alike on every input; a whole way is read inside a region that only reads. -/
import Derived.Test.YtimondpollbdfaaRSame
set_option linter.unusedVariables false
set_option linter.unusedSimpArgs false
namespace Go.Proofs.Ytimondpollbdfaa
open Go.RowKit
attribute [local go_sem] Span.val Atl.val Plan.val Rte.val

theorem where_both (A : Option Addr) (cap : Nat) (j : Value) (r : Rte) (w0 : World) (h0 : MapIn w0 A cap r.map) (hn : r.name.size ≤ 9223372036854775807) :
    ∃ a b c d, (∀ w, MapIn w A cap r.map → Calls Try.prog 22 #[r.val (.slice A r.map.sp.length cap) j] w fun e w' => e = .returned (tup4 a b c d) ∧ Below w.heap.size w w') ∧
      (∀ w, MapIn w A cap r.map → Calls Try.prog 23 #[r.val (.slice A r.map.sp.length cap) j] w fun e w' => e = .returned (tup4 a b c d) ∧ Below w.heap.size w w') := by
  cases hv : tr (RteOk r)
  · exact ⟨0, 0, 0, 0, fun w h => where_wrong w A cap j r h hn hv, fun w h => rwhere_wrong w A cap j r h hn hv⟩
  cases hd : r.done
  · cases hf : r.fetch
    · have hok := of_tr hv
      have h9 := hok.2.2.2.2.2.2.2.2
      rw [hd, hf] at h9
      have h10 : emptyB r.map = false ∧ named r.name = true := by
        rcases h9 with h | h | h
        · cases h
        · cases h
        · exact h
      have hm : tr (MapOk r.map) = true := by
        rcases hok.2.2.2.2.2.2.2.1 with h | h
        · rw [h10.1] at h; cases h
        · exact h
      obtain ⟨i, hi, hx, hy, hz⟩ := inSp_ex r.name (of_tr hm).2.2.2.1
      exact ⟨_, _, _, _, fun w h => where_some w A cap j r h hn i hi hx hv hd hf hm h10.2, fun w h => rwhere_some w A cap j r h hn i hi hy hz hv hd hf hm h10.2⟩
    · exact ⟨_, _, _, _, fun w h => where_fetch w A cap j r h hn hv hd hf, fun w h => rwhere_fetch w A cap j r h hn hv hd hf⟩
  · exact ⟨0, 0, 0, 0, fun w h => where_done w A cap j r h hn hv hd, fun w h => rwhere_done w A cap j r h hn hv hd⟩

/-- What a way's beginning hands back: the way, with a map that lies somewhere, and the number of its fault. -/
def Begun (f : FuncId) (nodes tries : Int) (name : ByteArray) (a : Atl) (A : Option Addr) (cap : Nat) (R : Rte) (n : Int) : Prop :=
  ∀ w, MapIn w A cap a → Calls Try.prog f #[.int .i64 nodes, .string name, a.val (.slice A a.sp.length cap), .int .i64 tries] w fun e w' => ∃ A' cap', e = .returned (.tuple #[R.val (.slice A' R.map.sp.length cap') nilV, .int .i64 n]) ∧ MapIn w' A' cap' R.map ∧ Below w.heap.size w w'
theorem noMap_in (w : World) {m : Atl} (h : m.sp = []) (hk : m.plan.key = ⟨#[]⟩) : MapIn w none 0 m := by
  refine ⟨?_, ?_, by decide, fun s hs => ?_, ?_⟩
  · rw [h]; exact rowAt_nil _ _ _ _
  · rw [h]; exact Nat.zero_le _
  · rw [h] at hs; cases hs
  · rw [hk]; decide
theorem begun_nil {f : FuncId} {nodes tries : Int} {name : ByteArray} {a : Atl} {A : Option Addr} {cap : Nat} {R : Rte} {n : Int} (hs : R.map.sp = []) (hk : R.map.plan.key = ⟨#[]⟩)
    (h : ∀ w, MapIn w A cap a → Calls Try.prog f #[.int .i64 nodes, .string name, a.val (.slice A a.sp.length cap), .int .i64 tries] w fun e w' => e = .returned (.tuple #[R.val nilV nilV, .int .i64 n]) ∧ Below w.heap.size w w') : Begun f nodes tries name a A cap R n := by
  intro w hw
  refine (h w hw).mono ?_
  rintro e w' ⟨rfl, hb⟩
  refine ⟨none, 0, ?_, noMap_in w' hs hk, hb⟩
  rw [hs]
  rfl
theorem begin_both (A : Option Addr) (cap : Nat) (a : Atl) (nodes tries : Int) (name : ByteArray) (hn : name.size ≤ 9223372036854775807) : ∃ R n, Begun 24 nodes tries name a A cap R n ∧ Begun 25 nodes tries name a A cap R n := by
  by_cases h1 : nodes < 1
  · exact ⟨zeroR, 1, begun_nil rfl rfl fun w h => begin_bad1 w A cap a nodes tries name hn h1, begun_nil rfl rfl fun w h => rBegin_bad1 w A cap a nodes tries name hn h1⟩
  have k1 : 1 ≤ nodes := by omega
  by_cases h2 : 7 < nodes
  · exact ⟨zeroR, 1, begun_nil rfl rfl fun w h => begin_bad2 w A cap a nodes tries name hn k1 h2, begun_nil rfl rfl fun w h => rBegin_bad2 w A cap a nodes tries name hn k1 h2⟩
  have k2 : nodes ≤ 7 := by omega
  by_cases h3 : tries < 1
  · exact ⟨zeroR, 1, begun_nil rfl rfl fun w h => begin_bad3 w A cap a nodes tries name hn k1 k2 h3, begun_nil rfl rfl fun w h => rBegin_bad3 w A cap a nodes tries name hn k1 k2 h3⟩
  have k3 : 1 ≤ tries := by omega
  by_cases h4 : 64 < tries
  · exact ⟨zeroR, 1, begun_nil rfl rfl fun w h => begin_bad4 w A cap a nodes tries name hn k1 k2 k3 h4, begun_nil rfl rfl fun w h => rBegin_bad4 w A cap a nodes tries name hn k1 k2 k3 h4⟩
  have k4 : tries ≤ 64 := by omega
  cases h5 : named name
  · exact ⟨zeroR, 1, begun_nil rfl rfl fun w h => begin_bad5 w A cap a nodes tries name hn k1 k2 k3 k4 h5, begun_nil rfl rfl fun w h => rBegin_bad5 w A cap a nodes tries name hn k1 k2 k3 k4 h5⟩
  cases hm : tr (MapOk a)
  · exact ⟨startR nodes tries name, 0, begun_nil rfl rfl fun w h => begin_new w A cap a nodes tries name hn k1 k2 k3 k4 h5 h hm, begun_nil rfl rfl fun w h => rBegin_new w A cap a nodes tries name hn k1 k2 k3 k4 h5 h hm⟩
  · refine ⟨mapR nodes tries name a, 0, fun w h => begin_map w A cap a nodes tries name hn k1 k2 k3 k4 h5 h hm, fun w h => (rBegin_map w A cap a nodes tries name hn k1 k2 k3 k4 h5 h hm).mono ?_⟩
    rintro e w' ⟨rfl, hb⟩
    exact ⟨A, cap, rfl, h.below hb, hb⟩

theorem blk_over {w : World} {x : More} {g : Nat} {o : Obj} (h : w.heap[g]? = some o) : (over w x).heap[g]? = some o := (heap_over w x g (lt_of_some h)).trans h
theorem wpQuiet_load39 {ops : Array Oper} {rest : List Oper} {op : Oper} {a : Act} {w : World} {Q : Act → Prop} (hw : Region.wanted op (yielded ops a.tmps) = true) (x : Operand) (ho : op.op = .load 39 x) (g : Nat) (hx : a.eval x = .pointer (some ⟨g, 0, none⟩))
    {r : Rte} {v j : Value} (h : w.heap[g]? = some (r.blk v j)) (hK : wpQuiet Try.prog ops (fun w' => ∃ x, w' = over w x) Q rest (a.put op.dst (r.val v j))) : wpQuiet Try.prog ops (fun w' => ∃ x, w' = over w x) Q (op :: rest) a := by
  refine wpQuiet_step fun K hK' => ?_
  rw [if_pos hw]
  refine ⟨_, ?_, hK' _ hK⟩
  rintro _ ⟨y, rfl⟩
  unfold Oper.quietAt execOp
  simp only [ho, hx, Instr.loadAt, Instr.sureAddr, Sem.run_bind, Sem.run_pure, Result.andThen_ok, run_loadVar_mid (over w y) g 0 39 _ _ (rte_range (blk_over h)) Try.underlying39 rfl info39]
  exact ⟨rfl, rfl⟩
end Go.Proofs.Ytimondpollbdfaa
