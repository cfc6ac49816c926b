/-
  No cell of these rows narrows 'for every input' (looked for: loops, veiled, ifaces, maps, wideKeys, modest, calm, conditions, laid).
  DERIVED. THE GIVEN ROWS OF THIS SEAT. 4 by the template 'for every input the law returns true; each argument reads behind the call as it read before'; 0 by the template 'total and deterministic' (their statements: YtbgobcjnckoekaaTotals.lean).
  GIVEN WITH THE SEED: the statements are not yours to turn. If you find one false, say at which input.
  Laid BY PROGRAM, IN A SANDBOX (cutbox-rows.mjs): the forced cells as the released guide's own fill.sh prints them over the translation 0f7e7760cba344eb… (all of the seat's roots in one cut). By AI agents, Wed Nov 11 2026. No macro, syntax, notation, axiom, sorry.
-/
import Derived.Test.YtbgobcjnckoekaaChecked
import GoSem.Claim
import GoSem.ClaimJoined
import GoSem.ClaimMapViews
import Derived.JoinedTies
import Derived.KernelRfl
namespace Go.Proofs.Ytbgobcjnckoekaa
/- THE CELL 'sum', in the pinned program and in every row, IS THE sha256 OF THE DUMP (.gsa) THAT YtbgobcjnckoekaaProg.lean LOADS. Nothing in Lean hashes anything: it is a label: what it is worth is what the hold of that sum in a sandbox is worth. -/
noncomputable def Try.pinned : Pinned := { name := "ytbgobcjnckoekaa", sum := "0f7e7760cba344eb535eb17df462518f1c07f682fd86196f13bcd0fd5398a297", checked := Try.checked }
namespace Rows
def none {H : Type} : Left H := { results := [], args := [] }

/-- 'matinslaw11.MeshOnce': WHATEVER THE INPUT: true; the input reads as it did. -/
def meshOnceSpec : ChangeSpec := { name := "meshOnce", fn := fun _ => fun
  | [d1, d2] => { results := [.lit (.bool true)], args := [d1, d2] }
  | _ => none }
def meshOnceRow : OpenClaim := { program := "ytbgobcjnckoekaa", sum := "0f7e7760cba344eb535eb17df462518f1c07f682fd86196f13bcd0fd5398a297", func := "matins/matinslaw11.MeshOnce", spec := "meshOnce", unfollowed := true, recurses := true, plainKeys := false, apart := false }
def MeshOnceSaid : Prop := meshOnceRow.holds Try.pinned (OpenSpec.ofChange meshOnceSpec)

/-- ITS FALSE NEIGHBOUR: 'it returns false'. Refute it at one input. -/
def meshOnceWrong : ChangeSpec := { name := "meshOnce", fn := fun _ => fun
  | [d1, d2] => { results := [.lit (.bool false)], args := [d1, d2] }
  | _ => none }
def MeshOnceWrongFalsely : Prop := meshOnceRow.holds Try.pinned (OpenSpec.ofChange meshOnceWrong)

/-- 'matinslaw11.MeshCuts': WHATEVER THE INPUT: true; the input reads as it did. -/
def meshCutsSpec : ChangeSpec := { name := "meshCuts", fn := fun _ => fun
  | [d1, d2, d3] => { results := [.lit (.bool true)], args := [d1, d2, d3] }
  | _ => none }
def meshCutsRow : OpenClaim := { program := "ytbgobcjnckoekaa", sum := "0f7e7760cba344eb535eb17df462518f1c07f682fd86196f13bcd0fd5398a297", func := "matins/matinslaw11.MeshCuts", spec := "meshCuts", unfollowed := true, recurses := true, plainKeys := false, apart := false }
def MeshCutsSaid : Prop := meshCutsRow.holds Try.pinned (OpenSpec.ofChange meshCutsSpec)

/-- ITS FALSE NEIGHBOUR: 'it returns false'. Refute it at one input. -/
def meshCutsWrong : ChangeSpec := { name := "meshCuts", fn := fun _ => fun
  | [d1, d2, d3] => { results := [.lit (.bool false)], args := [d1, d2, d3] }
  | _ => none }
def MeshCutsWrongFalsely : Prop := meshCutsRow.holds Try.pinned (OpenSpec.ofChange meshCutsWrong)

/-- 'matinslaw11.MeshScripts': WHATEVER THE INPUT: true; the input reads as it did. -/
def meshScriptsSpec : ChangeSpec := { name := "meshScripts", fn := fun _ => fun
  | [d] => { results := [.lit (.bool true)], args := [d] }
  | _ => none }
def meshScriptsRow : OpenClaim := { program := "ytbgobcjnckoekaa", sum := "0f7e7760cba344eb535eb17df462518f1c07f682fd86196f13bcd0fd5398a297", func := "matins/matinslaw11.MeshScripts", spec := "meshScripts", unfollowed := true, recurses := true, plainKeys := false, apart := false }
def MeshScriptsSaid : Prop := meshScriptsRow.holds Try.pinned (OpenSpec.ofChange meshScriptsSpec)

/-- ITS FALSE NEIGHBOUR: 'it returns false'. Refute it at one input. -/
def meshScriptsWrong : ChangeSpec := { name := "meshScripts", fn := fun _ => fun
  | [d] => { results := [.lit (.bool false)], args := [d] }
  | _ => none }
def MeshScriptsWrongFalsely : Prop := meshScriptsRow.holds Try.pinned (OpenSpec.ofChange meshScriptsWrong)

/-- 'matinslaw11.MeshIds': WHATEVER THE INPUT: true; the input reads as it did. -/
def meshIdsSpec : ChangeSpec := { name := "meshIds", fn := fun _ => fun
  | [d] => { results := [.lit (.bool true)], args := [d] }
  | _ => none }
def meshIdsRow : OpenClaim := { program := "ytbgobcjnckoekaa", sum := "0f7e7760cba344eb535eb17df462518f1c07f682fd86196f13bcd0fd5398a297", func := "matins/matinslaw11.MeshIds", spec := "meshIds", unfollowed := true, recurses := true, plainKeys := false, apart := false }
def MeshIdsSaid : Prop := meshIdsRow.holds Try.pinned (OpenSpec.ofChange meshIdsSpec)

/-- ITS FALSE NEIGHBOUR: 'it returns false'. Refute it at one input. -/
def meshIdsWrong : ChangeSpec := { name := "meshIds", fn := fun _ => fun
  | [d] => { results := [.lit (.bool false)], args := [d] }
  | _ => none }
def MeshIdsWrongFalsely : Prop := meshIdsRow.holds Try.pinned (OpenSpec.ofChange meshIdsWrong)

/- THE SECOND FORM. 'bulk': how many values and letters a reading holds, each counted each time it is reached (what is shared counts as often as it is met; a slice's spare places count too). A statement '..UptoSaid' is the law's where the arguments, and the package variables that the reading takes, are together of bulk at most 1048576: NARROWER than '..Said'. Prove '..Said' where nothing that the law and all that it calls make is longer than what came in: it says more and counts as full. Else prove '..UptoSaid'. A law counts once. -/
mutual
def uptoBulk {H : Type} : DataW H → Nat
  | .lit (.string bytes) => bytes.length + 1
  | .lit _ => 1
  | .nil => 1
  | .ptr d => uptoBulk d + 1
  | .slice elems spare => uptoBulkAll elems + uptoBulkAll spare + 1
  | .agg parts => uptoBulkAll parts + 1
  | .iface _ d => uptoBulk d + 1
  | .map entries => uptoBulkEntries entries + 1
  | .held _ => 1
def uptoBulkAll {H : Type} : List (DataW H) → Nat
  | [] => 0
  | d :: r => uptoBulk d + uptoBulkAll r
def uptoBulkEntries {H : Type} : List (Lit × DataW H) → Nat
  | [] => 0
  | x :: r => uptoBulkEntry x + uptoBulkEntries r
def uptoBulkEntry {H : Type} : Lit × DataW H → Nat
  | (.string bytes, d) => bytes.length + uptoBulk d + 1
  | (_, d) => uptoBulk d + 1
 end
def uptoSmall : (H : Type) → List (DataW H) → Bool := fun _ ds => decide (uptoBulkAll ds ≤ 1048576)
def OpenSpec.upto (s : _root_.Go.ChangeSpec) : _root_.Go.OpenSpec := { _root_.Go.OpenSpec.ofChange s with cond := some uptoSmall }

/-- 'matinslaw11.MeshOnce', WHERE WHAT IT READS IS OF BULK AT MOST 1048576: true; the input reads as it did. -/
def meshOnceUptoRow : OpenClaim := { program := "ytbgobcjnckoekaa", sum := "0f7e7760cba344eb535eb17df462518f1c07f682fd86196f13bcd0fd5398a297", func := "matins/matinslaw11.MeshOnce", spec := "meshOnce", unfollowed := true, recurses := true, plainKeys := false, apart := false, narrowed := true }
def MeshOnceUptoSaid : Prop := meshOnceUptoRow.holds Try.pinned (OpenSpec.upto meshOnceSpec)

/-- 'matinslaw11.MeshCuts', WHERE WHAT IT READS IS OF BULK AT MOST 1048576: true; the input reads as it did. -/
def meshCutsUptoRow : OpenClaim := { program := "ytbgobcjnckoekaa", sum := "0f7e7760cba344eb535eb17df462518f1c07f682fd86196f13bcd0fd5398a297", func := "matins/matinslaw11.MeshCuts", spec := "meshCuts", unfollowed := true, recurses := true, plainKeys := false, apart := false, narrowed := true }
def MeshCutsUptoSaid : Prop := meshCutsUptoRow.holds Try.pinned (OpenSpec.upto meshCutsSpec)

/-- 'matinslaw11.MeshScripts', WHERE WHAT IT READS IS OF BULK AT MOST 1048576: true; the input reads as it did. -/
def meshScriptsUptoRow : OpenClaim := { program := "ytbgobcjnckoekaa", sum := "0f7e7760cba344eb535eb17df462518f1c07f682fd86196f13bcd0fd5398a297", func := "matins/matinslaw11.MeshScripts", spec := "meshScripts", unfollowed := true, recurses := true, plainKeys := false, apart := false, narrowed := true }
def MeshScriptsUptoSaid : Prop := meshScriptsUptoRow.holds Try.pinned (OpenSpec.upto meshScriptsSpec)

/-- 'matinslaw11.MeshIds', WHERE WHAT IT READS IS OF BULK AT MOST 1048576: true; the input reads as it did. -/
def meshIdsUptoRow : OpenClaim := { program := "ytbgobcjnckoekaa", sum := "0f7e7760cba344eb535eb17df462518f1c07f682fd86196f13bcd0fd5398a297", func := "matins/matinslaw11.MeshIds", spec := "meshIds", unfollowed := true, recurses := true, plainKeys := false, apart := false, narrowed := true }
def MeshIdsUptoSaid : Prop := meshIdsUptoRow.holds Try.pinned (OpenSpec.upto meshIdsSpec)

end Rows
end Go.Proofs.Ytbgobcjnckoekaa
