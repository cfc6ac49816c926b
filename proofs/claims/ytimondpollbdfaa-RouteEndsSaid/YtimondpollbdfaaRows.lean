/-
  No cell of these rows narrows 'for every input' (looked for: loops, veiled, ifaces, maps, wideKeys, modest, calm, conditions, laid).
  DERIVED. THE GIVEN ROWS OF THIS SEAT. 10 by the template 'for every input the law returns true; each argument reads behind the call as it read before'; 0 by the template 'total and deterministic' (their statements: YtimondpollbdfaaTotals.lean).
  GIVEN WITH THE SEED: the statements are not yours to turn. If you find one false, say at which input.
  Laid BY PROGRAM, IN A SANDBOX (cutbox-rows.mjs): the forced cells as the released guide's own fill.sh prints them over the translation 4683599e29c8362e… (all of the seat's roots in one cut). By AI agents, Wed Nov 11 2026. No macro, syntax, notation, axiom, sorry.
-/
import Derived.Test.YtimondpollbdfaaChecked
import GoSem.Claim
import GoSem.ClaimJoined
import GoSem.ClaimMapViews
import Derived.JoinedTies
import Derived.KernelRfl
namespace Go.Proofs.Ytimondpollbdfaa
/- THE CELL 'sum', in the pinned program and in every row, IS THE sha256 OF THE DUMP (.gsa) THAT YtimondpollbdfaaProg.lean LOADS. Nothing in Lean hashes anything: it is a label: what it is worth is what the hold of that sum in a sandbox is worth. -/
noncomputable def Try.pinned : Pinned := { name := "ytimondpollbdfaa", sum := "4683599e29c8362ede07d8cf77671d5551736720ccb44f2758bea41492e491cc", checked := Try.checked }
namespace Rows
def none {H : Type} : Left H := { results := [], args := [] }

/-- 'matinslaw19.AtlasDoes': WHATEVER THE INPUT: true; the input reads as it did. -/
def atlasDoesSpec : ChangeSpec := { name := "atlasDoes", fn := fun _ => fun
  | [d1, d2, d3] => { results := [.lit (.bool true)], args := [d1, d2, d3] }
  | _ => none }
def atlasDoesRow : OpenClaim := { program := "ytimondpollbdfaa", sum := "4683599e29c8362ede07d8cf77671d5551736720ccb44f2758bea41492e491cc", func := "matins/matinslaw19.AtlasDoes", spec := "atlasDoes", inPlace := ["slices.overlaps[matins/api.Span]"], unfollowed := true, recurses := true, apart := false }
def AtlasDoesSaid : Prop := atlasDoesRow.holds Try.pinned (OpenSpec.ofChange atlasDoesSpec)

/-- ITS FALSE NEIGHBOUR: 'it returns false'. Refute it at one input. -/
def atlasDoesWrong : ChangeSpec := { name := "atlasDoes", fn := fun _ => fun
  | [d1, d2, d3] => { results := [.lit (.bool false)], args := [d1, d2, d3] }
  | _ => none }
def AtlasDoesWrongFalsely : Prop := atlasDoesRow.holds Try.pinned (OpenSpec.ofChange atlasDoesWrong)

/-- 'matinslaw21.RouteTells': WHATEVER THE INPUT: true; the input reads as it did. -/
def routeTellsSpec : ChangeSpec := { name := "routeTells", fn := fun _ => fun
  | [d1, d2, d3, d4, d5] => { results := [.lit (.bool true)], args := [d1, d2, d3, d4, d5] }
  | _ => none }
def routeTellsRow : OpenClaim := { program := "ytimondpollbdfaa", sum := "4683599e29c8362ede07d8cf77671d5551736720ccb44f2758bea41492e491cc", func := "matins/matinslaw21.RouteTells", spec := "routeTells", unfollowed := true, recurses := true, apart := false }
def RouteTellsSaid : Prop := routeTellsRow.holds Try.pinned (OpenSpec.ofChange routeTellsSpec)

/-- ITS FALSE NEIGHBOUR: 'it returns false'. Refute it at one input. -/
def routeTellsWrong : ChangeSpec := { name := "routeTells", fn := fun _ => fun
  | [d1, d2, d3, d4, d5] => { results := [.lit (.bool false)], args := [d1, d2, d3, d4, d5] }
  | _ => none }
def RouteTellsWrongFalsely : Prop := routeTellsRow.holds Try.pinned (OpenSpec.ofChange routeTellsWrong)

/-- 'matinslaw19.AtlasCovers': WHATEVER THE INPUT: true; the input reads as it did. -/
def atlasCoversSpec : ChangeSpec := { name := "atlasCovers", fn := fun _ => fun
  | [d1, d2, d3] => { results := [.lit (.bool true)], args := [d1, d2, d3] }
  | _ => none }
def atlasCoversRow : OpenClaim := { program := "ytimondpollbdfaa", sum := "4683599e29c8362ede07d8cf77671d5551736720ccb44f2758bea41492e491cc", func := "matins/matinslaw19.AtlasCovers", spec := "atlasCovers", inPlace := ["slices.overlaps[matins/api.Span]"], unfollowed := true, recurses := true, apart := false }
def AtlasCoversSaid : Prop := atlasCoversRow.holds Try.pinned (OpenSpec.ofChange atlasCoversSpec)

/-- ITS FALSE NEIGHBOUR: 'it returns false'. Refute it at one input. -/
def atlasCoversWrong : ChangeSpec := { name := "atlasCovers", fn := fun _ => fun
  | [d1, d2, d3] => { results := [.lit (.bool false)], args := [d1, d2, d3] }
  | _ => none }
def AtlasCoversWrongFalsely : Prop := atlasCoversRow.holds Try.pinned (OpenSpec.ofChange atlasCoversWrong)

/-- 'matinslaw21.RouteHears': WHATEVER THE INPUT: true; the input reads as it did. -/
def routeHearsSpec : ChangeSpec := { name := "routeHears", fn := fun _ => fun
  | [d1, d2] => { results := [.lit (.bool true)], args := [d1, d2] }
  | _ => none }
def routeHearsRow : OpenClaim := { program := "ytimondpollbdfaa", sum := "4683599e29c8362ede07d8cf77671d5551736720ccb44f2758bea41492e491cc", func := "matins/matinslaw21.RouteHears", spec := "routeHears", unfollowed := true, recurses := true, apart := false }
def RouteHearsSaid : Prop := routeHearsRow.holds Try.pinned (OpenSpec.ofChange routeHearsSpec)

/-- ITS FALSE NEIGHBOUR: 'it returns false'. Refute it at one input. -/
def routeHearsWrong : ChangeSpec := { name := "routeHears", fn := fun _ => fun
  | [d1, d2] => { results := [.lit (.bool false)], args := [d1, d2] }
  | _ => none }
def RouteHearsWrongFalsely : Prop := routeHearsRow.holds Try.pinned (OpenSpec.ofChange routeHearsWrong)

/-- 'matinslaw21.RouteEnds': WHATEVER THE INPUT: true; the input reads as it did. -/
def routeEndsSpec : ChangeSpec := { name := "routeEnds", fn := fun _ => fun
  | [d1, d2] => { results := [.lit (.bool true)], args := [d1, d2] }
  | _ => none }
def routeEndsRow : OpenClaim := { program := "ytimondpollbdfaa", sum := "4683599e29c8362ede07d8cf77671d5551736720ccb44f2758bea41492e491cc", func := "matins/matinslaw21.RouteEnds", spec := "routeEnds", unfollowed := true, recurses := true, apart := false }
def RouteEndsSaid : Prop := routeEndsRow.holds Try.pinned (OpenSpec.ofChange routeEndsSpec)

/-- ITS FALSE NEIGHBOUR: 'it returns false'. Refute it at one input. -/
def routeEndsWrong : ChangeSpec := { name := "routeEnds", fn := fun _ => fun
  | [d1, d2] => { results := [.lit (.bool false)], args := [d1, d2] }
  | _ => none }
def RouteEndsWrongFalsely : Prop := routeEndsRow.holds Try.pinned (OpenSpec.ofChange routeEndsWrong)

/-- 'matinslaw21.RouteFinds': WHATEVER THE INPUT: true; the input reads as it did. -/
def routeFindsSpec : ChangeSpec := { name := "routeFinds", fn := fun _ => fun
  | [d1, d2, d3, d4, d5] => { results := [.lit (.bool true)], args := [d1, d2, d3, d4, d5] }
  | _ => none }
def routeFindsRow : OpenClaim := { program := "ytimondpollbdfaa", sum := "4683599e29c8362ede07d8cf77671d5551736720ccb44f2758bea41492e491cc", func := "matins/matinslaw21.RouteFinds", spec := "routeFinds", unfollowed := true, recurses := true, apart := false }
def RouteFindsSaid : Prop := routeFindsRow.holds Try.pinned (OpenSpec.ofChange routeFindsSpec)

/-- ITS FALSE NEIGHBOUR: 'it returns false'. Refute it at one input. -/
def routeFindsWrong : ChangeSpec := { name := "routeFinds", fn := fun _ => fun
  | [d1, d2, d3, d4, d5] => { results := [.lit (.bool false)], args := [d1, d2, d3, d4, d5] }
  | _ => none }
def RouteFindsWrongFalsely : Prop := routeFindsRow.holds Try.pinned (OpenSpec.ofChange routeFindsWrong)

/-- 'matinslaw19.AtlasTells': WHATEVER THE INPUT: true; the input reads as it did. -/
def atlasTellsSpec : ChangeSpec := { name := "atlasTells", fn := fun _ => fun
  | [d1, d2, d3] => { results := [.lit (.bool true)], args := [d1, d2, d3] }
  | _ => none }
def atlasTellsRow : OpenClaim := { program := "ytimondpollbdfaa", sum := "4683599e29c8362ede07d8cf77671d5551736720ccb44f2758bea41492e491cc", func := "matins/matinslaw19.AtlasTells", spec := "atlasTells", inPlace := ["slices.overlaps[matins/api.Span]"], unfollowed := true, recurses := true, apart := false }
def AtlasTellsSaid : Prop := atlasTellsRow.holds Try.pinned (OpenSpec.ofChange atlasTellsSpec)

/-- ITS FALSE NEIGHBOUR: 'it returns false'. Refute it at one input. -/
def atlasTellsWrong : ChangeSpec := { name := "atlasTells", fn := fun _ => fun
  | [d1, d2, d3] => { results := [.lit (.bool false)], args := [d1, d2, d3] }
  | _ => none }
def AtlasTellsWrongFalsely : Prop := atlasTellsRow.holds Try.pinned (OpenSpec.ofChange atlasTellsWrong)

/-- 'matinslaw19.AtlasBack': WHATEVER THE INPUT: true; the input reads as it did. -/
def atlasBackSpec : ChangeSpec := { name := "atlasBack", fn := fun _ => fun
  | [d1, d2, d3, d4] => { results := [.lit (.bool true)], args := [d1, d2, d3, d4] }
  | _ => none }
def atlasBackRow : OpenClaim := { program := "ytimondpollbdfaa", sum := "4683599e29c8362ede07d8cf77671d5551736720ccb44f2758bea41492e491cc", func := "matins/matinslaw19.AtlasBack", spec := "atlasBack", inPlace := ["slices.overlaps[matins/api.Span]"], unfollowed := true, recurses := true, apart := false }
def AtlasBackSaid : Prop := atlasBackRow.holds Try.pinned (OpenSpec.ofChange atlasBackSpec)

/-- ITS FALSE NEIGHBOUR: 'it returns false'. Refute it at one input. -/
def atlasBackWrong : ChangeSpec := { name := "atlasBack", fn := fun _ => fun
  | [d1, d2, d3, d4] => { results := [.lit (.bool false)], args := [d1, d2, d3, d4] }
  | _ => none }
def AtlasBackWrongFalsely : Prop := atlasBackRow.holds Try.pinned (OpenSpec.ofChange atlasBackWrong)

/-- 'matinslaw19.AtlasFinds': WHATEVER THE INPUT: true; the input reads as it did. -/
def atlasFindsSpec : ChangeSpec := { name := "atlasFinds", fn := fun _ => fun
  | [d1, d2, d3, d4] => { results := [.lit (.bool true)], args := [d1, d2, d3, d4] }
  | _ => none }
def atlasFindsRow : OpenClaim := { program := "ytimondpollbdfaa", sum := "4683599e29c8362ede07d8cf77671d5551736720ccb44f2758bea41492e491cc", func := "matins/matinslaw19.AtlasFinds", spec := "atlasFinds", inPlace := ["slices.overlaps[matins/api.Span]"], unfollowed := true, recurses := true, apart := false }
def AtlasFindsSaid : Prop := atlasFindsRow.holds Try.pinned (OpenSpec.ofChange atlasFindsSpec)

/-- ITS FALSE NEIGHBOUR: 'it returns false'. Refute it at one input. -/
def atlasFindsWrong : ChangeSpec := { name := "atlasFinds", fn := fun _ => fun
  | [d1, d2, d3, d4] => { results := [.lit (.bool false)], args := [d1, d2, d3, d4] }
  | _ => none }
def AtlasFindsWrongFalsely : Prop := atlasFindsRow.holds Try.pinned (OpenSpec.ofChange atlasFindsWrong)

/-- 'matinslaw19.AtlasPlans': WHATEVER THE INPUT: true; the input reads as it did. -/
def atlasPlansSpec : ChangeSpec := { name := "atlasPlans", fn := fun _ => fun
  | [d1, d2, d3] => { results := [.lit (.bool true)], args := [d1, d2, d3] }
  | _ => none }
def atlasPlansRow : OpenClaim := { program := "ytimondpollbdfaa", sum := "4683599e29c8362ede07d8cf77671d5551736720ccb44f2758bea41492e491cc", func := "matins/matinslaw19.AtlasPlans", spec := "atlasPlans", inPlace := ["slices.overlaps[matins/api.Span]"], unfollowed := true, recurses := true, apart := false }
def AtlasPlansSaid : Prop := atlasPlansRow.holds Try.pinned (OpenSpec.ofChange atlasPlansSpec)

/-- ITS FALSE NEIGHBOUR: 'it returns false'. Refute it at one input. -/
def atlasPlansWrong : ChangeSpec := { name := "atlasPlans", fn := fun _ => fun
  | [d1, d2, d3] => { results := [.lit (.bool false)], args := [d1, d2, d3] }
  | _ => none }
def AtlasPlansWrongFalsely : Prop := atlasPlansRow.holds Try.pinned (OpenSpec.ofChange atlasPlansWrong)

/- THE SECOND FORM. 'bulk': how many values and letters a reading holds, each counted each time it is reached (what is shared counts as often as it is met; a slice's spare places count too). A statement '..UptoSaid' is the law's where the arguments, and the package variables that the reading takes, are together of bulk at most 1048576: NARROWER than '..Said'. Prove '..Said' where nothing that the law and all that it calls make is longer than what came in: it says more and counts as full. Else prove '..UptoSaid'. A law counts once. -/
mutual
def uptoBulk {H : Type} : DataW H → Nat
  | .lit (.string bytes) => bytes.length + 1
  | .lit _ => 1
  | .nil => 1
  | .ptr d => uptoBulk d + 1
  | .slice elems spare => uptoBulkAll elems + uptoBulkAll spare + 1
  | .agg parts => uptoBulkAll parts + 1
  | .iface _ d => uptoBulk d + 1
  | .map entries => uptoBulkEntries entries + 1
  | .held _ => 1
def uptoBulkAll {H : Type} : List (DataW H) → Nat
  | [] => 0
  | d :: r => uptoBulk d + uptoBulkAll r
def uptoBulkEntries {H : Type} : List (Lit × DataW H) → Nat
  | [] => 0
  | x :: r => uptoBulkEntry x + uptoBulkEntries r
def uptoBulkEntry {H : Type} : Lit × DataW H → Nat
  | (.string bytes, d) => bytes.length + uptoBulk d + 1
  | (_, d) => uptoBulk d + 1
 end
def uptoSmall : (H : Type) → List (DataW H) → Bool := fun _ ds => decide (uptoBulkAll ds ≤ 1048576)
def OpenSpec.upto (s : _root_.Go.ChangeSpec) : _root_.Go.OpenSpec := { _root_.Go.OpenSpec.ofChange s with cond := some uptoSmall }

/-- 'matinslaw19.AtlasDoes', WHERE WHAT IT READS IS OF BULK AT MOST 1048576: true; the input reads as it did. -/
def atlasDoesUptoRow : OpenClaim := { program := "ytimondpollbdfaa", sum := "4683599e29c8362ede07d8cf77671d5551736720ccb44f2758bea41492e491cc", func := "matins/matinslaw19.AtlasDoes", spec := "atlasDoes", inPlace := ["slices.overlaps[matins/api.Span]"], unfollowed := true, recurses := true, apart := false, narrowed := true }
def AtlasDoesUptoSaid : Prop := atlasDoesUptoRow.holds Try.pinned (OpenSpec.upto atlasDoesSpec)

/-- 'matinslaw21.RouteTells', WHERE WHAT IT READS IS OF BULK AT MOST 1048576: true; the input reads as it did. -/
def routeTellsUptoRow : OpenClaim := { program := "ytimondpollbdfaa", sum := "4683599e29c8362ede07d8cf77671d5551736720ccb44f2758bea41492e491cc", func := "matins/matinslaw21.RouteTells", spec := "routeTells", unfollowed := true, recurses := true, apart := false, narrowed := true }
def RouteTellsUptoSaid : Prop := routeTellsUptoRow.holds Try.pinned (OpenSpec.upto routeTellsSpec)

/-- 'matinslaw19.AtlasCovers', WHERE WHAT IT READS IS OF BULK AT MOST 1048576: true; the input reads as it did. -/
def atlasCoversUptoRow : OpenClaim := { program := "ytimondpollbdfaa", sum := "4683599e29c8362ede07d8cf77671d5551736720ccb44f2758bea41492e491cc", func := "matins/matinslaw19.AtlasCovers", spec := "atlasCovers", inPlace := ["slices.overlaps[matins/api.Span]"], unfollowed := true, recurses := true, apart := false, narrowed := true }
def AtlasCoversUptoSaid : Prop := atlasCoversUptoRow.holds Try.pinned (OpenSpec.upto atlasCoversSpec)

/-- 'matinslaw21.RouteHears', WHERE WHAT IT READS IS OF BULK AT MOST 1048576: true; the input reads as it did. -/
def routeHearsUptoRow : OpenClaim := { program := "ytimondpollbdfaa", sum := "4683599e29c8362ede07d8cf77671d5551736720ccb44f2758bea41492e491cc", func := "matins/matinslaw21.RouteHears", spec := "routeHears", unfollowed := true, recurses := true, apart := false, narrowed := true }
def RouteHearsUptoSaid : Prop := routeHearsUptoRow.holds Try.pinned (OpenSpec.upto routeHearsSpec)

/-- 'matinslaw21.RouteEnds', WHERE WHAT IT READS IS OF BULK AT MOST 1048576: true; the input reads as it did. -/
def routeEndsUptoRow : OpenClaim := { program := "ytimondpollbdfaa", sum := "4683599e29c8362ede07d8cf77671d5551736720ccb44f2758bea41492e491cc", func := "matins/matinslaw21.RouteEnds", spec := "routeEnds", unfollowed := true, recurses := true, apart := false, narrowed := true }
def RouteEndsUptoSaid : Prop := routeEndsUptoRow.holds Try.pinned (OpenSpec.upto routeEndsSpec)

/-- 'matinslaw21.RouteFinds', WHERE WHAT IT READS IS OF BULK AT MOST 1048576: true; the input reads as it did. -/
def routeFindsUptoRow : OpenClaim := { program := "ytimondpollbdfaa", sum := "4683599e29c8362ede07d8cf77671d5551736720ccb44f2758bea41492e491cc", func := "matins/matinslaw21.RouteFinds", spec := "routeFinds", unfollowed := true, recurses := true, apart := false, narrowed := true }
def RouteFindsUptoSaid : Prop := routeFindsUptoRow.holds Try.pinned (OpenSpec.upto routeFindsSpec)

/-- 'matinslaw19.AtlasTells', WHERE WHAT IT READS IS OF BULK AT MOST 1048576: true; the input reads as it did. -/
def atlasTellsUptoRow : OpenClaim := { program := "ytimondpollbdfaa", sum := "4683599e29c8362ede07d8cf77671d5551736720ccb44f2758bea41492e491cc", func := "matins/matinslaw19.AtlasTells", spec := "atlasTells", inPlace := ["slices.overlaps[matins/api.Span]"], unfollowed := true, recurses := true, apart := false, narrowed := true }
def AtlasTellsUptoSaid : Prop := atlasTellsUptoRow.holds Try.pinned (OpenSpec.upto atlasTellsSpec)

/-- 'matinslaw19.AtlasBack', WHERE WHAT IT READS IS OF BULK AT MOST 1048576: true; the input reads as it did. -/
def atlasBackUptoRow : OpenClaim := { program := "ytimondpollbdfaa", sum := "4683599e29c8362ede07d8cf77671d5551736720ccb44f2758bea41492e491cc", func := "matins/matinslaw19.AtlasBack", spec := "atlasBack", inPlace := ["slices.overlaps[matins/api.Span]"], unfollowed := true, recurses := true, apart := false, narrowed := true }
def AtlasBackUptoSaid : Prop := atlasBackUptoRow.holds Try.pinned (OpenSpec.upto atlasBackSpec)

/-- 'matinslaw19.AtlasFinds', WHERE WHAT IT READS IS OF BULK AT MOST 1048576: true; the input reads as it did. -/
def atlasFindsUptoRow : OpenClaim := { program := "ytimondpollbdfaa", sum := "4683599e29c8362ede07d8cf77671d5551736720ccb44f2758bea41492e491cc", func := "matins/matinslaw19.AtlasFinds", spec := "atlasFinds", inPlace := ["slices.overlaps[matins/api.Span]"], unfollowed := true, recurses := true, apart := false, narrowed := true }
def AtlasFindsUptoSaid : Prop := atlasFindsUptoRow.holds Try.pinned (OpenSpec.upto atlasFindsSpec)

/-- 'matinslaw19.AtlasPlans', WHERE WHAT IT READS IS OF BULK AT MOST 1048576: true; the input reads as it did. -/
def atlasPlansUptoRow : OpenClaim := { program := "ytimondpollbdfaa", sum := "4683599e29c8362ede07d8cf77671d5551736720ccb44f2758bea41492e491cc", func := "matins/matinslaw19.AtlasPlans", spec := "atlasPlans", inPlace := ["slices.overlaps[matins/api.Span]"], unfollowed := true, recurses := true, apart := false, narrowed := true }
def AtlasPlansUptoSaid : Prop := atlasPlansUptoRow.holds Try.pinned (OpenSpec.upto atlasPlansSpec)

end Rows
end Go.Proofs.Ytimondpollbdfaa
