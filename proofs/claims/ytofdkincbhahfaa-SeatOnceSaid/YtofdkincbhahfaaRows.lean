/-
  No cell of these rows narrows 'for every input' (looked for: loops, veiled, ifaces, maps, wideKeys, modest, calm, conditions, laid).
  DERIVED. THE GIVEN ROWS OF THIS SEAT. 4 by the template 'for every input the law returns true; each argument reads behind the call as it read before'; 0 by the template 'total and deterministic' (their statements: YtofdkincbhahfaaTotals.lean).
  GIVEN WITH THE SEED: the statements are not yours to turn. If you find one false, say at which input.
  Laid BY PROGRAM, IN A SANDBOX (cutbox-rows.mjs): the forced cells as the released guide's own fill.sh prints them over the translation 9f49fa1ada51036d… (all of the seat's roots in one cut). By AI agents, Wed Nov 11 2026. No macro, syntax, notation, axiom, sorry.
-/
import Derived.Test.YtofdkincbhahfaaChecked
import GoSem.Claim
import GoSem.ClaimJoined
import GoSem.ClaimMapViews
import Derived.JoinedTies
import Derived.KernelRfl
namespace Go.Proofs.Ytofdkincbhahfaa
/- THE CELL 'sum', in the pinned program and in every row, IS THE sha256 OF THE DUMP (.gsa) THAT YtofdkincbhahfaaProg.lean LOADS. Nothing in Lean hashes anything: it is a label: what it is worth is what the hold of that sum in a sandbox is worth. -/
noncomputable def Try.pinned : Pinned := { name := "ytofdkincbhahfaa", sum := "9f49fa1ada51036d5d73bba4490a6167a5adc057dc56d4658c815bafa86061db", checked := Try.checked }
namespace Rows
def none {H : Type} : Left H := { results := [], args := [] }

/-- 'matinslaw17.SeatLooks': WHATEVER THE INPUT: true; the input reads as it did. -/
def seatLooksSpec : ChangeSpec := { name := "seatLooks", fn := fun _ => fun
  | [d1, d2, d3, d4] => { results := [.lit (.bool true)], args := [d1, d2, d3, d4] }
  | _ => none }
def seatLooksRow : OpenClaim := { program := "ytofdkincbhahfaa", sum := "9f49fa1ada51036d5d73bba4490a6167a5adc057dc56d4658c815bafa86061db", func := "matins/matinslaw17.SeatLooks", spec := "seatLooks", inPlace := ["slices.overlaps[matins/api.Seen]"], unfollowed := true, recurses := true, apart := false }
def SeatLooksSaid : Prop := seatLooksRow.holds Try.pinned (OpenSpec.ofChange seatLooksSpec)

/-- ITS FALSE NEIGHBOUR: 'it returns false'. Refute it at one input. -/
def seatLooksWrong : ChangeSpec := { name := "seatLooks", fn := fun _ => fun
  | [d1, d2, d3, d4] => { results := [.lit (.bool false)], args := [d1, d2, d3, d4] }
  | _ => none }
def SeatLooksWrongFalsely : Prop := seatLooksRow.holds Try.pinned (OpenSpec.ofChange seatLooksWrong)

/-- 'matinslaw17.SeatOnce': WHATEVER THE INPUT: true; the input reads as it did. -/
def seatOnceSpec : ChangeSpec := { name := "seatOnce", fn := fun _ => fun
  | [d] => { results := [.lit (.bool true)], args := [d] }
  | _ => none }
def seatOnceRow : OpenClaim := { program := "ytofdkincbhahfaa", sum := "9f49fa1ada51036d5d73bba4490a6167a5adc057dc56d4658c815bafa86061db", func := "matins/matinslaw17.SeatOnce", spec := "seatOnce", inPlace := ["slices.overlaps[matins/api.Seen]"], unfollowed := true, recurses := true, apart := false }
def SeatOnceSaid : Prop := seatOnceRow.holds Try.pinned (OpenSpec.ofChange seatOnceSpec)

/-- ITS FALSE NEIGHBOUR: 'it returns false'. Refute it at one input. -/
def seatOnceWrong : ChangeSpec := { name := "seatOnce", fn := fun _ => fun
  | [d] => { results := [.lit (.bool false)], args := [d] }
  | _ => none }
def SeatOnceWrongFalsely : Prop := seatOnceRow.holds Try.pinned (OpenSpec.ofChange seatOnceWrong)

/-- 'matinslaw17.SeatApart': WHATEVER THE INPUT: true; the input reads as it did. -/
def seatApartSpec : ChangeSpec := { name := "seatApart", fn := fun _ => fun
  | [d1, d2, d3] => { results := [.lit (.bool true)], args := [d1, d2, d3] }
  | _ => none }
def seatApartRow : OpenClaim := { program := "ytofdkincbhahfaa", sum := "9f49fa1ada51036d5d73bba4490a6167a5adc057dc56d4658c815bafa86061db", func := "matins/matinslaw17.SeatApart", spec := "seatApart", inPlace := ["slices.overlaps[matins/api.Seen]"], unfollowed := true, recurses := true, apart := false }
def SeatApartSaid : Prop := seatApartRow.holds Try.pinned (OpenSpec.ofChange seatApartSpec)

/-- ITS FALSE NEIGHBOUR: 'it returns false'. Refute it at one input. -/
def seatApartWrong : ChangeSpec := { name := "seatApart", fn := fun _ => fun
  | [d1, d2, d3] => { results := [.lit (.bool false)], args := [d1, d2, d3] }
  | _ => none }
def SeatApartWrongFalsely : Prop := seatApartRow.holds Try.pinned (OpenSpec.ofChange seatApartWrong)

/-- 'matinslaw17.SeatJoins': WHATEVER THE INPUT: true; the input reads as it did. -/
def seatJoinsSpec : ChangeSpec := { name := "seatJoins", fn := fun _ => fun
  | [d1, d2] => { results := [.lit (.bool true)], args := [d1, d2] }
  | _ => none }
def seatJoinsRow : OpenClaim := { program := "ytofdkincbhahfaa", sum := "9f49fa1ada51036d5d73bba4490a6167a5adc057dc56d4658c815bafa86061db", func := "matins/matinslaw17.SeatJoins", spec := "seatJoins", inPlace := ["slices.overlaps[matins/api.Seen]"], unfollowed := true, recurses := true, apart := false }
def SeatJoinsSaid : Prop := seatJoinsRow.holds Try.pinned (OpenSpec.ofChange seatJoinsSpec)

/-- ITS FALSE NEIGHBOUR: 'it returns false'. Refute it at one input. -/
def seatJoinsWrong : ChangeSpec := { name := "seatJoins", fn := fun _ => fun
  | [d1, d2] => { results := [.lit (.bool false)], args := [d1, d2] }
  | _ => none }
def SeatJoinsWrongFalsely : Prop := seatJoinsRow.holds Try.pinned (OpenSpec.ofChange seatJoinsWrong)

/- THE SECOND FORM. 'bulk': how many values and letters a reading holds, each counted each time it is reached (what is shared counts as often as it is met; a slice's spare places count too). A statement '..UptoSaid' is the law's where the arguments, and the package variables that the reading takes, are together of bulk at most 1048576: NARROWER than '..Said'. Prove '..Said' where nothing that the law and all that it calls make is longer than what came in: it says more and counts as full. Else prove '..UptoSaid'. A law counts once. -/
mutual
def uptoBulk {H : Type} : DataW H → Nat
  | .lit (.string bytes) => bytes.length + 1
  | .lit _ => 1
  | .nil => 1
  | .ptr d => uptoBulk d + 1
  | .slice elems spare => uptoBulkAll elems + uptoBulkAll spare + 1
  | .agg parts => uptoBulkAll parts + 1
  | .iface _ d => uptoBulk d + 1
  | .map entries => uptoBulkEntries entries + 1
  | .held _ => 1
def uptoBulkAll {H : Type} : List (DataW H) → Nat
  | [] => 0
  | d :: r => uptoBulk d + uptoBulkAll r
def uptoBulkEntries {H : Type} : List (Lit × DataW H) → Nat
  | [] => 0
  | x :: r => uptoBulkEntry x + uptoBulkEntries r
def uptoBulkEntry {H : Type} : Lit × DataW H → Nat
  | (.string bytes, d) => bytes.length + uptoBulk d + 1
  | (_, d) => uptoBulk d + 1
 end
def uptoSmall : (H : Type) → List (DataW H) → Bool := fun _ ds => decide (uptoBulkAll ds ≤ 1048576)
def OpenSpec.upto (s : _root_.Go.ChangeSpec) : _root_.Go.OpenSpec := { _root_.Go.OpenSpec.ofChange s with cond := some uptoSmall }

/-- 'matinslaw17.SeatLooks', WHERE WHAT IT READS IS OF BULK AT MOST 1048576: true; the input reads as it did. -/
def seatLooksUptoRow : OpenClaim := { program := "ytofdkincbhahfaa", sum := "9f49fa1ada51036d5d73bba4490a6167a5adc057dc56d4658c815bafa86061db", func := "matins/matinslaw17.SeatLooks", spec := "seatLooks", inPlace := ["slices.overlaps[matins/api.Seen]"], unfollowed := true, recurses := true, apart := false, narrowed := true }
def SeatLooksUptoSaid : Prop := seatLooksUptoRow.holds Try.pinned (OpenSpec.upto seatLooksSpec)

/-- 'matinslaw17.SeatOnce', WHERE WHAT IT READS IS OF BULK AT MOST 1048576: true; the input reads as it did. -/
def seatOnceUptoRow : OpenClaim := { program := "ytofdkincbhahfaa", sum := "9f49fa1ada51036d5d73bba4490a6167a5adc057dc56d4658c815bafa86061db", func := "matins/matinslaw17.SeatOnce", spec := "seatOnce", inPlace := ["slices.overlaps[matins/api.Seen]"], unfollowed := true, recurses := true, apart := false, narrowed := true }
def SeatOnceUptoSaid : Prop := seatOnceUptoRow.holds Try.pinned (OpenSpec.upto seatOnceSpec)

/-- 'matinslaw17.SeatApart', WHERE WHAT IT READS IS OF BULK AT MOST 1048576: true; the input reads as it did. -/
def seatApartUptoRow : OpenClaim := { program := "ytofdkincbhahfaa", sum := "9f49fa1ada51036d5d73bba4490a6167a5adc057dc56d4658c815bafa86061db", func := "matins/matinslaw17.SeatApart", spec := "seatApart", inPlace := ["slices.overlaps[matins/api.Seen]"], unfollowed := true, recurses := true, apart := false, narrowed := true }
def SeatApartUptoSaid : Prop := seatApartUptoRow.holds Try.pinned (OpenSpec.upto seatApartSpec)

/-- 'matinslaw17.SeatJoins', WHERE WHAT IT READS IS OF BULK AT MOST 1048576: true; the input reads as it did. -/
def seatJoinsUptoRow : OpenClaim := { program := "ytofdkincbhahfaa", sum := "9f49fa1ada51036d5d73bba4490a6167a5adc057dc56d4658c815bafa86061db", func := "matins/matinslaw17.SeatJoins", spec := "seatJoins", inPlace := ["slices.overlaps[matins/api.Seen]"], unfollowed := true, recurses := true, apart := false, narrowed := true }
def SeatJoinsUptoSaid : Prop := seatJoinsUptoRow.holds Try.pinned (OpenSpec.upto seatJoinsSpec)

end Rows
end Go.Proofs.Ytofdkincbhahfaa
