/-
  No cell of these rows narrows 'for every input' (looked for: loops, veiled, ifaces, maps, wideKeys, modest, calm, conditions, laid).
  DERIVED. THE GIVEN ROWS OF THIS SEAT. 20 by the template 'for every input the law returns true; each argument reads behind the call as it read before'; 0 by the template 'total and deterministic' (their statements: YtgapiecbinplfaaGreatTotals.lean).
  GIVEN WITH THE SEED: the statements are not yours to turn. If you find one false, say at which input.
  Laid BY PROGRAM, IN A SANDBOX (cutbox-rows.mjs): the forced cells as the released guide's own fill.sh prints them over the translation 6d0101e7b75ec960… (all of the seat's roots in one cut). By AI agents, Wed Nov 11 2026. No macro, syntax, notation, axiom, sorry.
-/
import Derived.Test.YtgapiecbinplfaaGreatChecked
import GoSem.Claim
import GoSem.ClaimJoined
import GoSem.ClaimMapViews
import Derived.JoinedTies
import Derived.KernelRfl
namespace Go.Proofs.YtgapiecbinplfaaGreat
/- THE CELL 'sum', in the pinned program and in every row, IS THE sha256 OF THE DUMP (.gsa) THAT YtgapiecbinplfaaGreatProg.lean LOADS. Nothing in Lean hashes anything: it is a label: what it is worth is what the hold of that sum in a sandbox is worth. -/
noncomputable def Tryz.pinned : Pinned := { name := "ytgapiecbinplfaagreat", sum := "6d0101e7b75ec960034674bfb65df58d99fc1c521d43c85436d5c0eaa466d0fa", checked := Tryz.checked }
namespace Rows
def none {H : Type} : Left H := { results := [], args := [] }

/-- 'sorrellaw19.CompKnown': WHATEVER THE INPUT: true; the input reads as it did. -/
def compKnownSpec : ChangeSpec := { name := "compKnown", fn := fun _ => fun
  | [d1, d2, d3] => { results := [.lit (.bool true)], args := [d1, d2, d3] }
  | _ => none }
def compKnownRow : OpenClaim := { program := "ytgapiecbinplfaagreat", sum := "6d0101e7b75ec960034674bfb65df58d99fc1c521d43c85436d5c0eaa466d0fa", func := "sorrel/sorrellaw19.CompKnown", spec := "compKnown", inPlace := ["internal/abi.NoEscape", "internal/bytealg.MakeNoZero"], unfollowed := true, recurses := true, apart := false }
def CompKnownSaid : Prop := compKnownRow.holds Tryz.pinned (OpenSpec.ofChange compKnownSpec)

/-- ITS FALSE NEIGHBOUR: 'it returns false'. Refute it at one input. -/
def compKnownWrong : ChangeSpec := { name := "compKnown", fn := fun _ => fun
  | [d1, d2, d3] => { results := [.lit (.bool false)], args := [d1, d2, d3] }
  | _ => none }
def CompKnownWrongFalsely : Prop := compKnownRow.holds Tryz.pinned (OpenSpec.ofChange compKnownWrong)

/-- 'sorrellaw19.CompBoth': WHATEVER THE INPUT: true; the input reads as it did. -/
def compBothSpec : ChangeSpec := { name := "compBoth", fn := fun _ => fun
  | [d1, d2, d3] => { results := [.lit (.bool true)], args := [d1, d2, d3] }
  | _ => none }
def compBothRow : OpenClaim := { program := "ytgapiecbinplfaagreat", sum := "6d0101e7b75ec960034674bfb65df58d99fc1c521d43c85436d5c0eaa466d0fa", func := "sorrel/sorrellaw19.CompBoth", spec := "compBoth", inPlace := ["internal/abi.NoEscape", "internal/bytealg.MakeNoZero"], unfollowed := true, recurses := true, apart := false }
def CompBothSaid : Prop := compBothRow.holds Tryz.pinned (OpenSpec.ofChange compBothSpec)

/-- ITS FALSE NEIGHBOUR: 'it returns false'. Refute it at one input. -/
def compBothWrong : ChangeSpec := { name := "compBoth", fn := fun _ => fun
  | [d1, d2, d3] => { results := [.lit (.bool false)], args := [d1, d2, d3] }
  | _ => none }
def CompBothWrongFalsely : Prop := compBothRow.holds Tryz.pinned (OpenSpec.ofChange compBothWrong)

/-- 'sorrellaw16.GroundTells': WHATEVER THE INPUT: true; the input reads as it did. -/
def groundTellsSpec : ChangeSpec := { name := "groundTells", fn := fun _ => fun
  | [d1, d2] => { results := [.lit (.bool true)], args := [d1, d2] }
  | _ => none }
def groundTellsRow : OpenClaim := { program := "ytgapiecbinplfaagreat", sum := "6d0101e7b75ec960034674bfb65df58d99fc1c521d43c85436d5c0eaa466d0fa", func := "sorrel/sorrellaw16.GroundTells", spec := "groundTells", unfollowed := true, recurses := true, apart := false }
def GroundTellsSaid : Prop := groundTellsRow.holds Tryz.pinned (OpenSpec.ofChange groundTellsSpec)

/-- ITS FALSE NEIGHBOUR: 'it returns false'. Refute it at one input. -/
def groundTellsWrong : ChangeSpec := { name := "groundTells", fn := fun _ => fun
  | [d1, d2] => { results := [.lit (.bool false)], args := [d1, d2] }
  | _ => none }
def GroundTellsWrongFalsely : Prop := groundTellsRow.holds Tryz.pinned (OpenSpec.ofChange groundTellsWrong)

/-- 'sorrellaw16.GroundAsks': WHATEVER THE INPUT: true; the input reads as it did. -/
def groundAsksSpec : ChangeSpec := { name := "groundAsks", fn := fun _ => fun
  | [d1, d2, d3] => { results := [.lit (.bool true)], args := [d1, d2, d3] }
  | _ => none }
def groundAsksRow : OpenClaim := { program := "ytgapiecbinplfaagreat", sum := "6d0101e7b75ec960034674bfb65df58d99fc1c521d43c85436d5c0eaa466d0fa", func := "sorrel/sorrellaw16.GroundAsks", spec := "groundAsks", unfollowed := true, recurses := true, apart := false }
def GroundAsksSaid : Prop := groundAsksRow.holds Tryz.pinned (OpenSpec.ofChange groundAsksSpec)

/-- ITS FALSE NEIGHBOUR: 'it returns false'. Refute it at one input. -/
def groundAsksWrong : ChangeSpec := { name := "groundAsks", fn := fun _ => fun
  | [d1, d2, d3] => { results := [.lit (.bool false)], args := [d1, d2, d3] }
  | _ => none }
def GroundAsksWrongFalsely : Prop := groundAsksRow.holds Tryz.pinned (OpenSpec.ofChange groundAsksWrong)

/-- 'sorrellaw16.GroundSets': WHATEVER THE INPUT: true; the input reads as it did. -/
def groundSetsSpec : ChangeSpec := { name := "groundSets", fn := fun _ => fun
  | [d1, d2] => { results := [.lit (.bool true)], args := [d1, d2] }
  | _ => none }
def groundSetsRow : OpenClaim := { program := "ytgapiecbinplfaagreat", sum := "6d0101e7b75ec960034674bfb65df58d99fc1c521d43c85436d5c0eaa466d0fa", func := "sorrel/sorrellaw16.GroundSets", spec := "groundSets", unfollowed := true, recurses := true, apart := false }
def GroundSetsSaid : Prop := groundSetsRow.holds Tryz.pinned (OpenSpec.ofChange groundSetsSpec)

/-- ITS FALSE NEIGHBOUR: 'it returns false'. Refute it at one input. -/
def groundSetsWrong : ChangeSpec := { name := "groundSets", fn := fun _ => fun
  | [d1, d2] => { results := [.lit (.bool false)], args := [d1, d2] }
  | _ => none }
def GroundSetsWrongFalsely : Prop := groundSetsRow.holds Tryz.pinned (OpenSpec.ofChange groundSetsWrong)

/-- 'sorrellaw16.GroundBack': WHATEVER THE INPUT: true; the input reads as it did. -/
def groundBackSpec : ChangeSpec := { name := "groundBack", fn := fun _ => fun
  | [d] => { results := [.lit (.bool true)], args := [d] }
  | _ => none }
def groundBackRow : OpenClaim := { program := "ytgapiecbinplfaagreat", sum := "6d0101e7b75ec960034674bfb65df58d99fc1c521d43c85436d5c0eaa466d0fa", func := "sorrel/sorrellaw16.GroundBack", spec := "groundBack", unfollowed := true, recurses := true, apart := false }
def GroundBackSaid : Prop := groundBackRow.holds Tryz.pinned (OpenSpec.ofChange groundBackSpec)

/-- ITS FALSE NEIGHBOUR: 'it returns false'. Refute it at one input. -/
def groundBackWrong : ChangeSpec := { name := "groundBack", fn := fun _ => fun
  | [d] => { results := [.lit (.bool false)], args := [d] }
  | _ => none }
def GroundBackWrongFalsely : Prop := groundBackRow.holds Tryz.pinned (OpenSpec.ofChange groundBackWrong)

/-- 'sorrellaw16.GroundFinds': WHATEVER THE INPUT: true; the input reads as it did. -/
def groundFindsSpec : ChangeSpec := { name := "groundFinds", fn := fun _ => fun
  | [d1, d2] => { results := [.lit (.bool true)], args := [d1, d2] }
  | _ => none }
def groundFindsRow : OpenClaim := { program := "ytgapiecbinplfaagreat", sum := "6d0101e7b75ec960034674bfb65df58d99fc1c521d43c85436d5c0eaa466d0fa", func := "sorrel/sorrellaw16.GroundFinds", spec := "groundFinds", unfollowed := true, recurses := true, apart := false }
def GroundFindsSaid : Prop := groundFindsRow.holds Tryz.pinned (OpenSpec.ofChange groundFindsSpec)

/-- ITS FALSE NEIGHBOUR: 'it returns false'. Refute it at one input. -/
def groundFindsWrong : ChangeSpec := { name := "groundFinds", fn := fun _ => fun
  | [d1, d2] => { results := [.lit (.bool false)], args := [d1, d2] }
  | _ => none }
def GroundFindsWrongFalsely : Prop := groundFindsRow.holds Tryz.pinned (OpenSpec.ofChange groundFindsWrong)

/-- 'sorrellaw16.GroundCut': WHATEVER THE INPUT: true; the input reads as it did. -/
def groundCutSpec : ChangeSpec := { name := "groundCut", fn := fun _ => fun
  | [d1, d2] => { results := [.lit (.bool true)], args := [d1, d2] }
  | _ => none }
def groundCutRow : OpenClaim := { program := "ytgapiecbinplfaagreat", sum := "6d0101e7b75ec960034674bfb65df58d99fc1c521d43c85436d5c0eaa466d0fa", func := "sorrel/sorrellaw16.GroundCut", spec := "groundCut", unfollowed := true, recurses := true, apart := false }
def GroundCutSaid : Prop := groundCutRow.holds Tryz.pinned (OpenSpec.ofChange groundCutSpec)

/-- ITS FALSE NEIGHBOUR: 'it returns false'. Refute it at one input. -/
def groundCutWrong : ChangeSpec := { name := "groundCut", fn := fun _ => fun
  | [d1, d2] => { results := [.lit (.bool false)], args := [d1, d2] }
  | _ => none }
def GroundCutWrongFalsely : Prop := groundCutRow.holds Tryz.pinned (OpenSpec.ofChange groundCutWrong)

/-- 'sorrellaw16.GroundLeans': WHATEVER THE INPUT: true; the input reads as it did. -/
def groundLeansSpec : ChangeSpec := { name := "groundLeans", fn := fun _ => fun
  | [d1, d2, d3] => { results := [.lit (.bool true)], args := [d1, d2, d3] }
  | _ => none }
def groundLeansRow : OpenClaim := { program := "ytgapiecbinplfaagreat", sum := "6d0101e7b75ec960034674bfb65df58d99fc1c521d43c85436d5c0eaa466d0fa", func := "sorrel/sorrellaw16.GroundLeans", spec := "groundLeans", unfollowed := true, recurses := true, apart := false }
def GroundLeansSaid : Prop := groundLeansRow.holds Tryz.pinned (OpenSpec.ofChange groundLeansSpec)

/-- ITS FALSE NEIGHBOUR: 'it returns false'. Refute it at one input. -/
def groundLeansWrong : ChangeSpec := { name := "groundLeans", fn := fun _ => fun
  | [d1, d2, d3] => { results := [.lit (.bool false)], args := [d1, d2, d3] }
  | _ => none }
def GroundLeansWrongFalsely : Prop := groundLeansRow.holds Tryz.pinned (OpenSpec.ofChange groundLeansWrong)

/-- 'sorrellaw16.GroundMore': WHATEVER THE INPUT: true; the input reads as it did. -/
def groundMoreSpec : ChangeSpec := { name := "groundMore", fn := fun _ => fun
  | [d1, d2] => { results := [.lit (.bool true)], args := [d1, d2] }
  | _ => none }
def groundMoreRow : OpenClaim := { program := "ytgapiecbinplfaagreat", sum := "6d0101e7b75ec960034674bfb65df58d99fc1c521d43c85436d5c0eaa466d0fa", func := "sorrel/sorrellaw16.GroundMore", spec := "groundMore", unfollowed := true, recurses := true, apart := false }
def GroundMoreSaid : Prop := groundMoreRow.holds Tryz.pinned (OpenSpec.ofChange groundMoreSpec)

/-- ITS FALSE NEIGHBOUR: 'it returns false'. Refute it at one input. -/
def groundMoreWrong : ChangeSpec := { name := "groundMore", fn := fun _ => fun
  | [d1, d2] => { results := [.lit (.bool false)], args := [d1, d2] }
  | _ => none }
def GroundMoreWrongFalsely : Prop := groundMoreRow.holds Tryz.pinned (OpenSpec.ofChange groundMoreWrong)

/-- 'sorrellaw14.SpaceTells': WHATEVER THE INPUT: true; the input reads as it did. -/
def spaceTellsSpec : ChangeSpec := { name := "spaceTells", fn := fun _ => fun
  | [d1, d2, d3] => { results := [.lit (.bool true)], args := [d1, d2, d3] }
  | _ => none }
def spaceTellsRow : OpenClaim := { program := "ytgapiecbinplfaagreat", sum := "6d0101e7b75ec960034674bfb65df58d99fc1c521d43c85436d5c0eaa466d0fa", func := "sorrel/sorrellaw14.SpaceTells", spec := "spaceTells", unfollowed := true, recurses := true, apart := false }
def SpaceTellsSaid : Prop := spaceTellsRow.holds Tryz.pinned (OpenSpec.ofChange spaceTellsSpec)

/-- ITS FALSE NEIGHBOUR: 'it returns false'. Refute it at one input. -/
def spaceTellsWrong : ChangeSpec := { name := "spaceTells", fn := fun _ => fun
  | [d1, d2, d3] => { results := [.lit (.bool false)], args := [d1, d2, d3] }
  | _ => none }
def SpaceTellsWrongFalsely : Prop := spaceTellsRow.holds Tryz.pinned (OpenSpec.ofChange spaceTellsWrong)

/-- 'sorrellaw14.SpaceFinds': WHATEVER THE INPUT: true; the input reads as it did. -/
def spaceFindsSpec : ChangeSpec := { name := "spaceFinds", fn := fun _ => fun
  | [d1, d2] => { results := [.lit (.bool true)], args := [d1, d2] }
  | _ => none }
def spaceFindsRow : OpenClaim := { program := "ytgapiecbinplfaagreat", sum := "6d0101e7b75ec960034674bfb65df58d99fc1c521d43c85436d5c0eaa466d0fa", func := "sorrel/sorrellaw14.SpaceFinds", spec := "spaceFinds", unfollowed := true, recurses := true, apart := false }
def SpaceFindsSaid : Prop := spaceFindsRow.holds Tryz.pinned (OpenSpec.ofChange spaceFindsSpec)

/-- ITS FALSE NEIGHBOUR: 'it returns false'. Refute it at one input. -/
def spaceFindsWrong : ChangeSpec := { name := "spaceFinds", fn := fun _ => fun
  | [d1, d2] => { results := [.lit (.bool false)], args := [d1, d2] }
  | _ => none }
def SpaceFindsWrongFalsely : Prop := spaceFindsRow.holds Tryz.pinned (OpenSpec.ofChange spaceFindsWrong)

/-- 'sorrellaw14.SpaceOnce': WHATEVER THE INPUT: true; the input reads as it did. -/
def spaceOnceSpec : ChangeSpec := { name := "spaceOnce", fn := fun _ => fun
  | [d1, d2] => { results := [.lit (.bool true)], args := [d1, d2] }
  | _ => none }
def spaceOnceRow : OpenClaim := { program := "ytgapiecbinplfaagreat", sum := "6d0101e7b75ec960034674bfb65df58d99fc1c521d43c85436d5c0eaa466d0fa", func := "sorrel/sorrellaw14.SpaceOnce", spec := "spaceOnce", unfollowed := true, recurses := true, apart := false }
def SpaceOnceSaid : Prop := spaceOnceRow.holds Tryz.pinned (OpenSpec.ofChange spaceOnceSpec)

/-- ITS FALSE NEIGHBOUR: 'it returns false'. Refute it at one input. -/
def spaceOnceWrong : ChangeSpec := { name := "spaceOnce", fn := fun _ => fun
  | [d1, d2] => { results := [.lit (.bool false)], args := [d1, d2] }
  | _ => none }
def SpaceOnceWrongFalsely : Prop := spaceOnceRow.holds Tryz.pinned (OpenSpec.ofChange spaceOnceWrong)

/-- 'sorrellaw14.SpaceSort': WHATEVER THE INPUT: true; the input reads as it did. -/
def spaceSortSpec : ChangeSpec := { name := "spaceSort", fn := fun _ => fun
  | [d] => { results := [.lit (.bool true)], args := [d] }
  | _ => none }
def spaceSortRow : OpenClaim := { program := "ytgapiecbinplfaagreat", sum := "6d0101e7b75ec960034674bfb65df58d99fc1c521d43c85436d5c0eaa466d0fa", func := "sorrel/sorrellaw14.SpaceSort", spec := "spaceSort", unfollowed := true, recurses := true, apart := false }
def SpaceSortSaid : Prop := spaceSortRow.holds Tryz.pinned (OpenSpec.ofChange spaceSortSpec)

/-- ITS FALSE NEIGHBOUR: 'it returns false'. Refute it at one input. -/
def spaceSortWrong : ChangeSpec := { name := "spaceSort", fn := fun _ => fun
  | [d] => { results := [.lit (.bool false)], args := [d] }
  | _ => none }
def SpaceSortWrongFalsely : Prop := spaceSortRow.holds Tryz.pinned (OpenSpec.ofChange spaceSortWrong)

/-- 'sorrellaw19.CompTells': WHATEVER THE INPUT: true; the input reads as it did. -/
def compTellsSpec : ChangeSpec := { name := "compTells", fn := fun _ => fun
  | [d1, d2, d3] => { results := [.lit (.bool true)], args := [d1, d2, d3] }
  | _ => none }
def compTellsRow : OpenClaim := { program := "ytgapiecbinplfaagreat", sum := "6d0101e7b75ec960034674bfb65df58d99fc1c521d43c85436d5c0eaa466d0fa", func := "sorrel/sorrellaw19.CompTells", spec := "compTells", inPlace := ["internal/abi.NoEscape", "internal/bytealg.MakeNoZero"], unfollowed := true, recurses := true, apart := false }
def CompTellsSaid : Prop := compTellsRow.holds Tryz.pinned (OpenSpec.ofChange compTellsSpec)

/-- ITS FALSE NEIGHBOUR: 'it returns false'. Refute it at one input. -/
def compTellsWrong : ChangeSpec := { name := "compTells", fn := fun _ => fun
  | [d1, d2, d3] => { results := [.lit (.bool false)], args := [d1, d2, d3] }
  | _ => none }
def CompTellsWrongFalsely : Prop := compTellsRow.holds Tryz.pinned (OpenSpec.ofChange compTellsWrong)

/-- 'sorrellaw19.CompModel': WHATEVER THE INPUT: true; the input reads as it did. -/
def compModelSpec : ChangeSpec := { name := "compModel", fn := fun _ => fun
  | [d] => { results := [.lit (.bool true)], args := [d] }
  | _ => none }
def compModelRow : OpenClaim := { program := "ytgapiecbinplfaagreat", sum := "6d0101e7b75ec960034674bfb65df58d99fc1c521d43c85436d5c0eaa466d0fa", func := "sorrel/sorrellaw19.CompModel", spec := "compModel", inPlace := ["internal/abi.NoEscape", "internal/bytealg.MakeNoZero"], unfollowed := true, recurses := true, apart := false }
def CompModelSaid : Prop := compModelRow.holds Tryz.pinned (OpenSpec.ofChange compModelSpec)

/-- ITS FALSE NEIGHBOUR: 'it returns false'. Refute it at one input. -/
def compModelWrong : ChangeSpec := { name := "compModel", fn := fun _ => fun
  | [d] => { results := [.lit (.bool false)], args := [d] }
  | _ => none }
def CompModelWrongFalsely : Prop := compModelRow.holds Tryz.pinned (OpenSpec.ofChange compModelWrong)

/-- 'sorrellaw19.CompAll': WHATEVER THE INPUT: true; the input reads as it did. -/
def compAllSpec : ChangeSpec := { name := "compAll", fn := fun _ => fun
  | [d] => { results := [.lit (.bool true)], args := [d] }
  | _ => none }
def compAllRow : OpenClaim := { program := "ytgapiecbinplfaagreat", sum := "6d0101e7b75ec960034674bfb65df58d99fc1c521d43c85436d5c0eaa466d0fa", func := "sorrel/sorrellaw19.CompAll", spec := "compAll", inPlace := ["internal/abi.NoEscape", "internal/bytealg.MakeNoZero"], unfollowed := true, recurses := true, apart := false }
def CompAllSaid : Prop := compAllRow.holds Tryz.pinned (OpenSpec.ofChange compAllSpec)

/-- ITS FALSE NEIGHBOUR: 'it returns false'. Refute it at one input. -/
def compAllWrong : ChangeSpec := { name := "compAll", fn := fun _ => fun
  | [d] => { results := [.lit (.bool false)], args := [d] }
  | _ => none }
def CompAllWrongFalsely : Prop := compAllRow.holds Tryz.pinned (OpenSpec.ofChange compAllWrong)

/-- 'sorrellaw19.CompNext': WHATEVER THE INPUT: true; the input reads as it did. -/
def compNextSpec : ChangeSpec := { name := "compNext", fn := fun _ => fun
  | [d] => { results := [.lit (.bool true)], args := [d] }
  | _ => none }
def compNextRow : OpenClaim := { program := "ytgapiecbinplfaagreat", sum := "6d0101e7b75ec960034674bfb65df58d99fc1c521d43c85436d5c0eaa466d0fa", func := "sorrel/sorrellaw19.CompNext", spec := "compNext", inPlace := ["internal/abi.NoEscape", "internal/bytealg.MakeNoZero"], unfollowed := true, recurses := true, apart := false }
def CompNextSaid : Prop := compNextRow.holds Tryz.pinned (OpenSpec.ofChange compNextSpec)

/-- ITS FALSE NEIGHBOUR: 'it returns false'. Refute it at one input. -/
def compNextWrong : ChangeSpec := { name := "compNext", fn := fun _ => fun
  | [d] => { results := [.lit (.bool false)], args := [d] }
  | _ => none }
def CompNextWrongFalsely : Prop := compNextRow.holds Tryz.pinned (OpenSpec.ofChange compNextWrong)

/-- 'sorrellaw19.CompWhole': WHATEVER THE INPUT: true; the input reads as it did. -/
def compWholeSpec : ChangeSpec := { name := "compWhole", fn := fun _ => fun
  | [d1, d2] => { results := [.lit (.bool true)], args := [d1, d2] }
  | _ => none }
def compWholeRow : OpenClaim := { program := "ytgapiecbinplfaagreat", sum := "6d0101e7b75ec960034674bfb65df58d99fc1c521d43c85436d5c0eaa466d0fa", func := "sorrel/sorrellaw19.CompWhole", spec := "compWhole", inPlace := ["internal/abi.NoEscape", "internal/bytealg.MakeNoZero"], unfollowed := true, recurses := true, apart := false }
def CompWholeSaid : Prop := compWholeRow.holds Tryz.pinned (OpenSpec.ofChange compWholeSpec)

/-- ITS FALSE NEIGHBOUR: 'it returns false'. Refute it at one input. -/
def compWholeWrong : ChangeSpec := { name := "compWhole", fn := fun _ => fun
  | [d1, d2] => { results := [.lit (.bool false)], args := [d1, d2] }
  | _ => none }
def CompWholeWrongFalsely : Prop := compWholeRow.holds Tryz.pinned (OpenSpec.ofChange compWholeWrong)

/-- 'sorrellaw19.CompLocal': WHATEVER THE INPUT: true; the input reads as it did. -/
def compLocalSpec : ChangeSpec := { name := "compLocal", fn := fun _ => fun
  | [d1, d2] => { results := [.lit (.bool true)], args := [d1, d2] }
  | _ => none }
def compLocalRow : OpenClaim := { program := "ytgapiecbinplfaagreat", sum := "6d0101e7b75ec960034674bfb65df58d99fc1c521d43c85436d5c0eaa466d0fa", func := "sorrel/sorrellaw19.CompLocal", spec := "compLocal", inPlace := ["internal/abi.NoEscape", "internal/bytealg.MakeNoZero"], unfollowed := true, recurses := true, apart := false }
def CompLocalSaid : Prop := compLocalRow.holds Tryz.pinned (OpenSpec.ofChange compLocalSpec)

/-- ITS FALSE NEIGHBOUR: 'it returns false'. Refute it at one input. -/
def compLocalWrong : ChangeSpec := { name := "compLocal", fn := fun _ => fun
  | [d1, d2] => { results := [.lit (.bool false)], args := [d1, d2] }
  | _ => none }
def CompLocalWrongFalsely : Prop := compLocalRow.holds Tryz.pinned (OpenSpec.ofChange compLocalWrong)

/- THE SECOND FORM. 'bulk': how many values and letters a reading holds, each counted each time it is reached (what is shared counts as often as it is met; a slice's spare places count too). A statement '..UptoSaid' is the law's where the arguments, and the package variables that the reading takes, are together of bulk at most 1048576: NARROWER than '..Said'. Prove '..Said' where nothing that the law and all that it calls make is longer than what came in: it says more and counts as full. Else prove '..UptoSaid'. A law counts once. -/
mutual
def uptoBulk {H : Type} : DataW H → Nat
  | .lit (.string bytes) => bytes.length + 1
  | .lit _ => 1
  | .nil => 1
  | .ptr d => uptoBulk d + 1
  | .slice elems spare => uptoBulkAll elems + uptoBulkAll spare + 1
  | .agg parts => uptoBulkAll parts + 1
  | .iface _ d => uptoBulk d + 1
  | .map entries => uptoBulkEntries entries + 1
  | .held _ => 1
def uptoBulkAll {H : Type} : List (DataW H) → Nat
  | [] => 0
  | d :: r => uptoBulk d + uptoBulkAll r
def uptoBulkEntries {H : Type} : List (Lit × DataW H) → Nat
  | [] => 0
  | x :: r => uptoBulkEntry x + uptoBulkEntries r
def uptoBulkEntry {H : Type} : Lit × DataW H → Nat
  | (.string bytes, d) => bytes.length + uptoBulk d + 1
  | (_, d) => uptoBulk d + 1
 end
def uptoSmall : (H : Type) → List (DataW H) → Bool := fun _ ds => decide (uptoBulkAll ds ≤ 1048576)
def OpenSpec.upto (s : _root_.Go.ChangeSpec) : _root_.Go.OpenSpec := { _root_.Go.OpenSpec.ofChange s with cond := some uptoSmall }

/-- 'sorrellaw19.CompKnown', WHERE WHAT IT READS IS OF BULK AT MOST 1048576: true; the input reads as it did. -/
def compKnownUptoRow : OpenClaim := { program := "ytgapiecbinplfaagreat", sum := "6d0101e7b75ec960034674bfb65df58d99fc1c521d43c85436d5c0eaa466d0fa", func := "sorrel/sorrellaw19.CompKnown", spec := "compKnown", inPlace := ["internal/abi.NoEscape", "internal/bytealg.MakeNoZero"], unfollowed := true, recurses := true, apart := false, narrowed := true }
def CompKnownUptoSaid : Prop := compKnownUptoRow.holds Tryz.pinned (OpenSpec.upto compKnownSpec)

/-- 'sorrellaw19.CompBoth', WHERE WHAT IT READS IS OF BULK AT MOST 1048576: true; the input reads as it did. -/
def compBothUptoRow : OpenClaim := { program := "ytgapiecbinplfaagreat", sum := "6d0101e7b75ec960034674bfb65df58d99fc1c521d43c85436d5c0eaa466d0fa", func := "sorrel/sorrellaw19.CompBoth", spec := "compBoth", inPlace := ["internal/abi.NoEscape", "internal/bytealg.MakeNoZero"], unfollowed := true, recurses := true, apart := false, narrowed := true }
def CompBothUptoSaid : Prop := compBothUptoRow.holds Tryz.pinned (OpenSpec.upto compBothSpec)

/-- 'sorrellaw16.GroundTells', WHERE WHAT IT READS IS OF BULK AT MOST 1048576: true; the input reads as it did. -/
def groundTellsUptoRow : OpenClaim := { program := "ytgapiecbinplfaagreat", sum := "6d0101e7b75ec960034674bfb65df58d99fc1c521d43c85436d5c0eaa466d0fa", func := "sorrel/sorrellaw16.GroundTells", spec := "groundTells", unfollowed := true, recurses := true, apart := false, narrowed := true }
def GroundTellsUptoSaid : Prop := groundTellsUptoRow.holds Tryz.pinned (OpenSpec.upto groundTellsSpec)

/-- 'sorrellaw16.GroundAsks', WHERE WHAT IT READS IS OF BULK AT MOST 1048576: true; the input reads as it did. -/
def groundAsksUptoRow : OpenClaim := { program := "ytgapiecbinplfaagreat", sum := "6d0101e7b75ec960034674bfb65df58d99fc1c521d43c85436d5c0eaa466d0fa", func := "sorrel/sorrellaw16.GroundAsks", spec := "groundAsks", unfollowed := true, recurses := true, apart := false, narrowed := true }
def GroundAsksUptoSaid : Prop := groundAsksUptoRow.holds Tryz.pinned (OpenSpec.upto groundAsksSpec)

/-- 'sorrellaw16.GroundSets', WHERE WHAT IT READS IS OF BULK AT MOST 1048576: true; the input reads as it did. -/
def groundSetsUptoRow : OpenClaim := { program := "ytgapiecbinplfaagreat", sum := "6d0101e7b75ec960034674bfb65df58d99fc1c521d43c85436d5c0eaa466d0fa", func := "sorrel/sorrellaw16.GroundSets", spec := "groundSets", unfollowed := true, recurses := true, apart := false, narrowed := true }
def GroundSetsUptoSaid : Prop := groundSetsUptoRow.holds Tryz.pinned (OpenSpec.upto groundSetsSpec)

/-- 'sorrellaw16.GroundBack', WHERE WHAT IT READS IS OF BULK AT MOST 1048576: true; the input reads as it did. -/
def groundBackUptoRow : OpenClaim := { program := "ytgapiecbinplfaagreat", sum := "6d0101e7b75ec960034674bfb65df58d99fc1c521d43c85436d5c0eaa466d0fa", func := "sorrel/sorrellaw16.GroundBack", spec := "groundBack", unfollowed := true, recurses := true, apart := false, narrowed := true }
def GroundBackUptoSaid : Prop := groundBackUptoRow.holds Tryz.pinned (OpenSpec.upto groundBackSpec)

/-- 'sorrellaw16.GroundFinds', WHERE WHAT IT READS IS OF BULK AT MOST 1048576: true; the input reads as it did. -/
def groundFindsUptoRow : OpenClaim := { program := "ytgapiecbinplfaagreat", sum := "6d0101e7b75ec960034674bfb65df58d99fc1c521d43c85436d5c0eaa466d0fa", func := "sorrel/sorrellaw16.GroundFinds", spec := "groundFinds", unfollowed := true, recurses := true, apart := false, narrowed := true }
def GroundFindsUptoSaid : Prop := groundFindsUptoRow.holds Tryz.pinned (OpenSpec.upto groundFindsSpec)

/-- 'sorrellaw16.GroundCut', WHERE WHAT IT READS IS OF BULK AT MOST 1048576: true; the input reads as it did. -/
def groundCutUptoRow : OpenClaim := { program := "ytgapiecbinplfaagreat", sum := "6d0101e7b75ec960034674bfb65df58d99fc1c521d43c85436d5c0eaa466d0fa", func := "sorrel/sorrellaw16.GroundCut", spec := "groundCut", unfollowed := true, recurses := true, apart := false, narrowed := true }
def GroundCutUptoSaid : Prop := groundCutUptoRow.holds Tryz.pinned (OpenSpec.upto groundCutSpec)

/-- 'sorrellaw16.GroundLeans', WHERE WHAT IT READS IS OF BULK AT MOST 1048576: true; the input reads as it did. -/
def groundLeansUptoRow : OpenClaim := { program := "ytgapiecbinplfaagreat", sum := "6d0101e7b75ec960034674bfb65df58d99fc1c521d43c85436d5c0eaa466d0fa", func := "sorrel/sorrellaw16.GroundLeans", spec := "groundLeans", unfollowed := true, recurses := true, apart := false, narrowed := true }
def GroundLeansUptoSaid : Prop := groundLeansUptoRow.holds Tryz.pinned (OpenSpec.upto groundLeansSpec)

/-- 'sorrellaw16.GroundMore', WHERE WHAT IT READS IS OF BULK AT MOST 1048576: true; the input reads as it did. -/
def groundMoreUptoRow : OpenClaim := { program := "ytgapiecbinplfaagreat", sum := "6d0101e7b75ec960034674bfb65df58d99fc1c521d43c85436d5c0eaa466d0fa", func := "sorrel/sorrellaw16.GroundMore", spec := "groundMore", unfollowed := true, recurses := true, apart := false, narrowed := true }
def GroundMoreUptoSaid : Prop := groundMoreUptoRow.holds Tryz.pinned (OpenSpec.upto groundMoreSpec)

/-- 'sorrellaw14.SpaceTells', WHERE WHAT IT READS IS OF BULK AT MOST 1048576: true; the input reads as it did. -/
def spaceTellsUptoRow : OpenClaim := { program := "ytgapiecbinplfaagreat", sum := "6d0101e7b75ec960034674bfb65df58d99fc1c521d43c85436d5c0eaa466d0fa", func := "sorrel/sorrellaw14.SpaceTells", spec := "spaceTells", unfollowed := true, recurses := true, apart := false, narrowed := true }
def SpaceTellsUptoSaid : Prop := spaceTellsUptoRow.holds Tryz.pinned (OpenSpec.upto spaceTellsSpec)

/-- 'sorrellaw14.SpaceFinds', WHERE WHAT IT READS IS OF BULK AT MOST 1048576: true; the input reads as it did. -/
def spaceFindsUptoRow : OpenClaim := { program := "ytgapiecbinplfaagreat", sum := "6d0101e7b75ec960034674bfb65df58d99fc1c521d43c85436d5c0eaa466d0fa", func := "sorrel/sorrellaw14.SpaceFinds", spec := "spaceFinds", unfollowed := true, recurses := true, apart := false, narrowed := true }
def SpaceFindsUptoSaid : Prop := spaceFindsUptoRow.holds Tryz.pinned (OpenSpec.upto spaceFindsSpec)

/-- 'sorrellaw14.SpaceOnce', WHERE WHAT IT READS IS OF BULK AT MOST 1048576: true; the input reads as it did. -/
def spaceOnceUptoRow : OpenClaim := { program := "ytgapiecbinplfaagreat", sum := "6d0101e7b75ec960034674bfb65df58d99fc1c521d43c85436d5c0eaa466d0fa", func := "sorrel/sorrellaw14.SpaceOnce", spec := "spaceOnce", unfollowed := true, recurses := true, apart := false, narrowed := true }
def SpaceOnceUptoSaid : Prop := spaceOnceUptoRow.holds Tryz.pinned (OpenSpec.upto spaceOnceSpec)

/-- 'sorrellaw14.SpaceSort', WHERE WHAT IT READS IS OF BULK AT MOST 1048576: true; the input reads as it did. -/
def spaceSortUptoRow : OpenClaim := { program := "ytgapiecbinplfaagreat", sum := "6d0101e7b75ec960034674bfb65df58d99fc1c521d43c85436d5c0eaa466d0fa", func := "sorrel/sorrellaw14.SpaceSort", spec := "spaceSort", unfollowed := true, recurses := true, apart := false, narrowed := true }
def SpaceSortUptoSaid : Prop := spaceSortUptoRow.holds Tryz.pinned (OpenSpec.upto spaceSortSpec)

/-- 'sorrellaw19.CompTells', WHERE WHAT IT READS IS OF BULK AT MOST 1048576: true; the input reads as it did. -/
def compTellsUptoRow : OpenClaim := { program := "ytgapiecbinplfaagreat", sum := "6d0101e7b75ec960034674bfb65df58d99fc1c521d43c85436d5c0eaa466d0fa", func := "sorrel/sorrellaw19.CompTells", spec := "compTells", inPlace := ["internal/abi.NoEscape", "internal/bytealg.MakeNoZero"], unfollowed := true, recurses := true, apart := false, narrowed := true }
def CompTellsUptoSaid : Prop := compTellsUptoRow.holds Tryz.pinned (OpenSpec.upto compTellsSpec)

/-- 'sorrellaw19.CompModel', WHERE WHAT IT READS IS OF BULK AT MOST 1048576: true; the input reads as it did. -/
def compModelUptoRow : OpenClaim := { program := "ytgapiecbinplfaagreat", sum := "6d0101e7b75ec960034674bfb65df58d99fc1c521d43c85436d5c0eaa466d0fa", func := "sorrel/sorrellaw19.CompModel", spec := "compModel", inPlace := ["internal/abi.NoEscape", "internal/bytealg.MakeNoZero"], unfollowed := true, recurses := true, apart := false, narrowed := true }
def CompModelUptoSaid : Prop := compModelUptoRow.holds Tryz.pinned (OpenSpec.upto compModelSpec)

/-- 'sorrellaw19.CompAll', WHERE WHAT IT READS IS OF BULK AT MOST 1048576: true; the input reads as it did. -/
def compAllUptoRow : OpenClaim := { program := "ytgapiecbinplfaagreat", sum := "6d0101e7b75ec960034674bfb65df58d99fc1c521d43c85436d5c0eaa466d0fa", func := "sorrel/sorrellaw19.CompAll", spec := "compAll", inPlace := ["internal/abi.NoEscape", "internal/bytealg.MakeNoZero"], unfollowed := true, recurses := true, apart := false, narrowed := true }
def CompAllUptoSaid : Prop := compAllUptoRow.holds Tryz.pinned (OpenSpec.upto compAllSpec)

/-- 'sorrellaw19.CompNext', WHERE WHAT IT READS IS OF BULK AT MOST 1048576: true; the input reads as it did. -/
def compNextUptoRow : OpenClaim := { program := "ytgapiecbinplfaagreat", sum := "6d0101e7b75ec960034674bfb65df58d99fc1c521d43c85436d5c0eaa466d0fa", func := "sorrel/sorrellaw19.CompNext", spec := "compNext", inPlace := ["internal/abi.NoEscape", "internal/bytealg.MakeNoZero"], unfollowed := true, recurses := true, apart := false, narrowed := true }
def CompNextUptoSaid : Prop := compNextUptoRow.holds Tryz.pinned (OpenSpec.upto compNextSpec)

/-- 'sorrellaw19.CompWhole', WHERE WHAT IT READS IS OF BULK AT MOST 1048576: true; the input reads as it did. -/
def compWholeUptoRow : OpenClaim := { program := "ytgapiecbinplfaagreat", sum := "6d0101e7b75ec960034674bfb65df58d99fc1c521d43c85436d5c0eaa466d0fa", func := "sorrel/sorrellaw19.CompWhole", spec := "compWhole", inPlace := ["internal/abi.NoEscape", "internal/bytealg.MakeNoZero"], unfollowed := true, recurses := true, apart := false, narrowed := true }
def CompWholeUptoSaid : Prop := compWholeUptoRow.holds Tryz.pinned (OpenSpec.upto compWholeSpec)

/-- 'sorrellaw19.CompLocal', WHERE WHAT IT READS IS OF BULK AT MOST 1048576: true; the input reads as it did. -/
def compLocalUptoRow : OpenClaim := { program := "ytgapiecbinplfaagreat", sum := "6d0101e7b75ec960034674bfb65df58d99fc1c521d43c85436d5c0eaa466d0fa", func := "sorrel/sorrellaw19.CompLocal", spec := "compLocal", inPlace := ["internal/abi.NoEscape", "internal/bytealg.MakeNoZero"], unfollowed := true, recurses := true, apart := false, narrowed := true }
def CompLocalUptoSaid : Prop := compLocalUptoRow.holds Tryz.pinned (OpenSpec.upto compLocalSpec)

end Rows
end Go.Proofs.YtgapiecbinplfaaGreat
