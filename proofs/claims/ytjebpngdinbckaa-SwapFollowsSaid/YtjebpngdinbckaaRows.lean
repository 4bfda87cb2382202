/-
  No cell of these rows narrows 'for every input' (looked for: loops, veiled, ifaces, maps, wideKeys, modest, calm, conditions, laid).
  DERIVED. THE GIVEN ROWS OF THIS SEAT. 34 by the template 'for every input the law returns true; each argument reads behind the call as it read before'; 0 by the template 'total and deterministic' (their statements: YtjebpngdinbckaaTotals.lean).
  GIVEN WITH THE SEED: the statements are not yours to turn. If you find one false, say at which input.
  Laid BY PROGRAM, IN A SANDBOX (cutbox-rows.mjs): the forced cells as the released guide's own fill.sh prints them over the translation f2336d832f58b65a… (all of the seat's roots in one cut). By AI agents, Wed Nov 11 2026. No macro, syntax, notation, axiom, sorry.
-/
import Derived.Test.YtjebpngdinbckaaChecked
import GoSem.Claim
import GoSem.ClaimJoined
import GoSem.ClaimMapViews
import Derived.JoinedTies
import Derived.KernelRfl
namespace Go.Proofs.Ytjebpngdinbckaa
/- THE CELL 'sum', in the pinned program and in every row, IS THE sha256 OF THE DUMP (.gsa) THAT YtjebpngdinbckaaProg.lean LOADS. Nothing in Lean hashes anything: it is a label: what it is worth is what the hold of that sum in a sandbox is worth. -/
noncomputable def Try.pinned : Pinned := { name := "ytjebpngdinbckaa", sum := "f2336d832f58b65a47a833b67a0555e4912c36fad7adbd3e6ec79a26de1ec407", checked := Try.checked }
namespace Rows
def none {H : Type} : Left H := { results := [], args := [] }

/-- 'drawknifelaw01.SetPoints': WHATEVER THE INPUT: true; the input reads as it did. -/
def setPointsSpec : ChangeSpec := { name := "setPoints", fn := fun _ => fun
  | [d1, d2, d3] => { results := [.lit (.bool true)], args := [d1, d2, d3] }
  | _ => none }
def setPointsRow : OpenClaim := { program := "ytjebpngdinbckaa", sum := "f2336d832f58b65a47a833b67a0555e4912c36fad7adbd3e6ec79a26de1ec407", func := "drawknife/drawknifelaw01.SetPoints", spec := "setPoints", plainKeys := false, apart := false }
def SetPointsSaid : Prop := setPointsRow.holds Try.pinned (OpenSpec.ofChange setPointsSpec)

/-- ITS FALSE NEIGHBOUR: 'it returns false'. Refute it at one input. -/
def setPointsWrong : ChangeSpec := { name := "setPoints", fn := fun _ => fun
  | [d1, d2, d3] => { results := [.lit (.bool false)], args := [d1, d2, d3] }
  | _ => none }
def SetPointsWrongFalsely : Prop := setPointsRow.holds Try.pinned (OpenSpec.ofChange setPointsWrong)

/-- 'drawknifelaw01.SetHalves': WHATEVER THE INPUT: true; the input reads as it did. -/
def setHalvesSpec : ChangeSpec := { name := "setHalves", fn := fun _ => fun
  | [d1, d2, d3] => { results := [.lit (.bool true)], args := [d1, d2, d3] }
  | _ => none }
def setHalvesRow : OpenClaim := { program := "ytjebpngdinbckaa", sum := "f2336d832f58b65a47a833b67a0555e4912c36fad7adbd3e6ec79a26de1ec407", func := "drawknife/drawknifelaw01.SetHalves", spec := "setHalves", plainKeys := false, apart := false }
def SetHalvesSaid : Prop := setHalvesRow.holds Try.pinned (OpenSpec.ofChange setHalvesSpec)

/-- ITS FALSE NEIGHBOUR: 'it returns false'. Refute it at one input. -/
def setHalvesWrong : ChangeSpec := { name := "setHalves", fn := fun _ => fun
  | [d1, d2, d3] => { results := [.lit (.bool false)], args := [d1, d2, d3] }
  | _ => none }
def SetHalvesWrongFalsely : Prop := setHalvesRow.holds Try.pinned (OpenSpec.ofChange setHalvesWrong)

/-- 'drawknifelaw01.SetBoth': WHATEVER THE INPUT: true; the input reads as it did. -/
def setBothSpec : ChangeSpec := { name := "setBoth", fn := fun _ => fun
  | [d1, d2] => { results := [.lit (.bool true)], args := [d1, d2] }
  | _ => none }
def setBothRow : OpenClaim := { program := "ytjebpngdinbckaa", sum := "f2336d832f58b65a47a833b67a0555e4912c36fad7adbd3e6ec79a26de1ec407", func := "drawknife/drawknifelaw01.SetBoth", spec := "setBoth", unfollowed := true, recurses := true, plainKeys := false, apart := false }
def SetBothSaid : Prop := setBothRow.holds Try.pinned (OpenSpec.ofChange setBothSpec)

/-- ITS FALSE NEIGHBOUR: 'it returns false'. Refute it at one input. -/
def setBothWrong : ChangeSpec := { name := "setBoth", fn := fun _ => fun
  | [d1, d2] => { results := [.lit (.bool false)], args := [d1, d2] }
  | _ => none }
def SetBothWrongFalsely : Prop := setBothRow.holds Try.pinned (OpenSpec.ofChange setBothWrong)

/-- 'drawknifelaw01.SetParts': WHATEVER THE INPUT: true; the input reads as it did. -/
def setPartsSpec : ChangeSpec := { name := "setParts", fn := fun _ => fun
  | [d1, d2, d3] => { results := [.lit (.bool true)], args := [d1, d2, d3] }
  | _ => none }
def setPartsRow : OpenClaim := { program := "ytjebpngdinbckaa", sum := "f2336d832f58b65a47a833b67a0555e4912c36fad7adbd3e6ec79a26de1ec407", func := "drawknife/drawknifelaw01.SetParts", spec := "setParts", unfollowed := true, recurses := true, plainKeys := false, apart := false }
def SetPartsSaid : Prop := setPartsRow.holds Try.pinned (OpenSpec.ofChange setPartsSpec)

/-- ITS FALSE NEIGHBOUR: 'it returns false'. Refute it at one input. -/
def setPartsWrong : ChangeSpec := { name := "setParts", fn := fun _ => fun
  | [d1, d2, d3] => { results := [.lit (.bool false)], args := [d1, d2, d3] }
  | _ => none }
def SetPartsWrongFalsely : Prop := setPartsRow.holds Try.pinned (OpenSpec.ofChange setPartsWrong)

/-- 'drawknifelaw02.CubePoints': WHATEVER THE INPUT: true; the input reads as it did. -/
def cubePointsSpec : ChangeSpec := { name := "cubePoints", fn := fun _ => fun
  | [d1, d2] => { results := [.lit (.bool true)], args := [d1, d2] }
  | _ => none }
def cubePointsRow : OpenClaim := { program := "ytjebpngdinbckaa", sum := "f2336d832f58b65a47a833b67a0555e4912c36fad7adbd3e6ec79a26de1ec407", func := "drawknife/drawknifelaw02.CubePoints", spec := "cubePoints", plainKeys := false, apart := false }
def CubePointsSaid : Prop := cubePointsRow.holds Try.pinned (OpenSpec.ofChange cubePointsSpec)

/-- ITS FALSE NEIGHBOUR: 'it returns false'. Refute it at one input. -/
def cubePointsWrong : ChangeSpec := { name := "cubePoints", fn := fun _ => fun
  | [d1, d2] => { results := [.lit (.bool false)], args := [d1, d2] }
  | _ => none }
def CubePointsWrongFalsely : Prop := cubePointsRow.holds Try.pinned (OpenSpec.ofChange cubePointsWrong)

/-- 'drawknifelaw02.CubeParses': WHATEVER THE INPUT: true; the input reads as it did. -/
def cubeParsesSpec : ChangeSpec := { name := "cubeParses", fn := fun _ => fun
  | [d1, d2, d3] => { results := [.lit (.bool true)], args := [d1, d2, d3] }
  | _ => none }
def cubeParsesRow : OpenClaim := { program := "ytjebpngdinbckaa", sum := "f2336d832f58b65a47a833b67a0555e4912c36fad7adbd3e6ec79a26de1ec407", func := "drawknife/drawknifelaw02.CubeParses", spec := "cubeParses", plainKeys := false, apart := false }
def CubeParsesSaid : Prop := cubeParsesRow.holds Try.pinned (OpenSpec.ofChange cubeParsesSpec)

/-- ITS FALSE NEIGHBOUR: 'it returns false'. Refute it at one input. -/
def cubeParsesWrong : ChangeSpec := { name := "cubeParses", fn := fun _ => fun
  | [d1, d2, d3] => { results := [.lit (.bool false)], args := [d1, d2, d3] }
  | _ => none }
def CubeParsesWrongFalsely : Prop := cubeParsesRow.holds Try.pinned (OpenSpec.ofChange cubeParsesWrong)

/-- 'drawknifelaw05.ArenaMakes': WHATEVER THE INPUT: true; the input reads as it did. -/
def arenaMakesSpec : ChangeSpec := { name := "arenaMakes", fn := fun _ => fun
  | [d1, d2, d3] => { results := [.lit (.bool true)], args := [d1, d2, d3] }
  | _ => none }
def arenaMakesRow : OpenClaim := { program := "ytjebpngdinbckaa", sum := "f2336d832f58b65a47a833b67a0555e4912c36fad7adbd3e6ec79a26de1ec407", func := "drawknife/drawknifelaw05.ArenaMakes", spec := "arenaMakes", recurses := true, plainKeys := false, apart := false }
def ArenaMakesSaid : Prop := arenaMakesRow.holds Try.pinned (OpenSpec.ofChange arenaMakesSpec)

/-- ITS FALSE NEIGHBOUR: 'it returns false'. Refute it at one input. -/
def arenaMakesWrong : ChangeSpec := { name := "arenaMakes", fn := fun _ => fun
  | [d1, d2, d3] => { results := [.lit (.bool false)], args := [d1, d2, d3] }
  | _ => none }
def ArenaMakesWrongFalsely : Prop := arenaMakesRow.holds Try.pinned (OpenSpec.ofChange arenaMakesWrong)

/-- 'drawknifelaw05.ArenaKeeps': WHATEVER THE INPUT: true; the input reads as it did. -/
def arenaKeepsSpec : ChangeSpec := { name := "arenaKeeps", fn := fun _ => fun
  | [d1, d2, d3] => { results := [.lit (.bool true)], args := [d1, d2, d3] }
  | _ => none }
def arenaKeepsRow : OpenClaim := { program := "ytjebpngdinbckaa", sum := "f2336d832f58b65a47a833b67a0555e4912c36fad7adbd3e6ec79a26de1ec407", func := "drawknife/drawknifelaw05.ArenaKeeps", spec := "arenaKeeps", recurses := true, plainKeys := false, apart := false }
def ArenaKeepsSaid : Prop := arenaKeepsRow.holds Try.pinned (OpenSpec.ofChange arenaKeepsSpec)

/-- ITS FALSE NEIGHBOUR: 'it returns false'. Refute it at one input. -/
def arenaKeepsWrong : ChangeSpec := { name := "arenaKeeps", fn := fun _ => fun
  | [d1, d2, d3] => { results := [.lit (.bool false)], args := [d1, d2, d3] }
  | _ => none }
def ArenaKeepsWrongFalsely : Prop := arenaKeepsRow.holds Try.pinned (OpenSpec.ofChange arenaKeepsWrong)

/-- 'drawknifelaw05.ArenaNil': WHATEVER THE INPUT: true; the input reads as it did. -/
def arenaNilSpec : ChangeSpec := { name := "arenaNil", fn := fun _ => fun
  | [d1, d2, d3, d4] => { results := [.lit (.bool true)], args := [d1, d2, d3, d4] }
  | _ => none }
def arenaNilRow : OpenClaim := { program := "ytjebpngdinbckaa", sum := "f2336d832f58b65a47a833b67a0555e4912c36fad7adbd3e6ec79a26de1ec407", func := "drawknife/drawknifelaw05.ArenaNil", spec := "arenaNil", recurses := true, plainKeys := false, apart := false }
def ArenaNilSaid : Prop := arenaNilRow.holds Try.pinned (OpenSpec.ofChange arenaNilSpec)

/-- ITS FALSE NEIGHBOUR: 'it returns false'. Refute it at one input. -/
def arenaNilWrong : ChangeSpec := { name := "arenaNil", fn := fun _ => fun
  | [d1, d2, d3, d4] => { results := [.lit (.bool false)], args := [d1, d2, d3, d4] }
  | _ => none }
def ArenaNilWrongFalsely : Prop := arenaNilRow.holds Try.pinned (OpenSpec.ofChange arenaNilWrong)

/-- 'drawknifelaw02.CubeSets': WHATEVER THE INPUT: true; the input reads as it did. -/
def cubeSetsSpec : ChangeSpec := { name := "cubeSets", fn := fun _ => fun
  | [d1, d2, d3, d4] => { results := [.lit (.bool true)], args := [d1, d2, d3, d4] }
  | _ => none }
def cubeSetsRow : OpenClaim := { program := "ytjebpngdinbckaa", sum := "f2336d832f58b65a47a833b67a0555e4912c36fad7adbd3e6ec79a26de1ec407", func := "drawknife/drawknifelaw02.CubeSets", spec := "cubeSets", unfollowed := true, recurses := true, plainKeys := false, apart := false }
def CubeSetsSaid : Prop := cubeSetsRow.holds Try.pinned (OpenSpec.ofChange cubeSetsSpec)

/-- ITS FALSE NEIGHBOUR: 'it returns false'. Refute it at one input. -/
def cubeSetsWrong : ChangeSpec := { name := "cubeSets", fn := fun _ => fun
  | [d1, d2, d3, d4] => { results := [.lit (.bool false)], args := [d1, d2, d3, d4] }
  | _ => none }
def CubeSetsWrongFalsely : Prop := cubeSetsRow.holds Try.pinned (OpenSpec.ofChange cubeSetsWrong)

/-- 'drawknifelaw14.ReduceSteps': WHATEVER THE INPUT: true; the input reads as it did. -/
def reduceStepsSpec : ChangeSpec := { name := "reduceSteps", fn := fun _ => fun
  | [d] => { results := [.lit (.bool true)], args := [d] }
  | _ => none }
def reduceStepsRow : OpenClaim := { program := "ytjebpngdinbckaa", sum := "f2336d832f58b65a47a833b67a0555e4912c36fad7adbd3e6ec79a26de1ec407", func := "drawknife/drawknifelaw14.ReduceSteps", spec := "reduceSteps", unfollowed := true, recurses := true, plainKeys := false, apart := false }
def ReduceStepsSaid : Prop := reduceStepsRow.holds Try.pinned (OpenSpec.ofChange reduceStepsSpec)

/-- ITS FALSE NEIGHBOUR: 'it returns false'. Refute it at one input. -/
def reduceStepsWrong : ChangeSpec := { name := "reduceSteps", fn := fun _ => fun
  | [d] => { results := [.lit (.bool false)], args := [d] }
  | _ => none }
def ReduceStepsWrongFalsely : Prop := reduceStepsRow.holds Try.pinned (OpenSpec.ofChange reduceStepsWrong)

/-- 'drawknifelaw14.ReduceAll': WHATEVER THE INPUT: true; the input reads as it did. -/
def reduceAllSpec : ChangeSpec := { name := "reduceAll", fn := fun _ => fun
  | [d] => { results := [.lit (.bool true)], args := [d] }
  | _ => none }
def reduceAllRow : OpenClaim := { program := "ytjebpngdinbckaa", sum := "f2336d832f58b65a47a833b67a0555e4912c36fad7adbd3e6ec79a26de1ec407", func := "drawknife/drawknifelaw14.ReduceAll", spec := "reduceAll", unfollowed := true, recurses := true, plainKeys := false, apart := false }
def ReduceAllSaid : Prop := reduceAllRow.holds Try.pinned (OpenSpec.ofChange reduceAllSpec)

/-- ITS FALSE NEIGHBOUR: 'it returns false'. Refute it at one input. -/
def reduceAllWrong : ChangeSpec := { name := "reduceAll", fn := fun _ => fun
  | [d] => { results := [.lit (.bool false)], args := [d] }
  | _ => none }
def ReduceAllWrongFalsely : Prop := reduceAllRow.holds Try.pinned (OpenSpec.ofChange reduceAllWrong)

/-- 'drawknifelaw14.ReduceBest': WHATEVER THE INPUT: true; the input reads as it did. -/
def reduceBestSpec : ChangeSpec := { name := "reduceBest", fn := fun _ => fun
  | [d] => { results := [.lit (.bool true)], args := [d] }
  | _ => none }
def reduceBestRow : OpenClaim := { program := "ytjebpngdinbckaa", sum := "f2336d832f58b65a47a833b67a0555e4912c36fad7adbd3e6ec79a26de1ec407", func := "drawknife/drawknifelaw14.ReduceBest", spec := "reduceBest", unfollowed := true, recurses := true, plainKeys := false, apart := false }
def ReduceBestSaid : Prop := reduceBestRow.holds Try.pinned (OpenSpec.ofChange reduceBestSpec)

/-- ITS FALSE NEIGHBOUR: 'it returns false'. Refute it at one input. -/
def reduceBestWrong : ChangeSpec := { name := "reduceBest", fn := fun _ => fun
  | [d] => { results := [.lit (.bool false)], args := [d] }
  | _ => none }
def ReduceBestWrongFalsely : Prop := reduceBestRow.holds Try.pinned (OpenSpec.ofChange reduceBestWrong)

/-- 'drawknifelaw14.ReduceSolves': WHATEVER THE INPUT: true; the input reads as it did. -/
def reduceSolvesSpec : ChangeSpec := { name := "reduceSolves", fn := fun _ => fun
  | [d1, d2] => { results := [.lit (.bool true)], args := [d1, d2] }
  | _ => none }
def reduceSolvesRow : OpenClaim := { program := "ytjebpngdinbckaa", sum := "f2336d832f58b65a47a833b67a0555e4912c36fad7adbd3e6ec79a26de1ec407", func := "drawknife/drawknifelaw14.ReduceSolves", spec := "reduceSolves", unfollowed := true, recurses := true, plainKeys := false, apart := false }
def ReduceSolvesSaid : Prop := reduceSolvesRow.holds Try.pinned (OpenSpec.ofChange reduceSolvesSpec)

/-- ITS FALSE NEIGHBOUR: 'it returns false'. Refute it at one input. -/
def reduceSolvesWrong : ChangeSpec := { name := "reduceSolves", fn := fun _ => fun
  | [d1, d2] => { results := [.lit (.bool false)], args := [d1, d2] }
  | _ => none }
def ReduceSolvesWrongFalsely : Prop := reduceSolvesRow.holds Try.pinned (OpenSpec.ofChange reduceSolvesWrong)

/-- 'drawknifelaw07.OrderSizes': WHATEVER THE INPUT: true; the input reads as it did. -/
def orderSizesSpec : ChangeSpec := { name := "orderSizes", fn := fun _ => fun
  | [d1, d2, d3] => { results := [.lit (.bool true)], args := [d1, d2, d3] }
  | _ => none }
def orderSizesRow : OpenClaim := { program := "ytjebpngdinbckaa", sum := "f2336d832f58b65a47a833b67a0555e4912c36fad7adbd3e6ec79a26de1ec407", func := "drawknife/drawknifelaw07.OrderSizes", spec := "orderSizes", unfollowed := true, recurses := true, plainKeys := false, apart := false }
def OrderSizesSaid : Prop := orderSizesRow.holds Try.pinned (OpenSpec.ofChange orderSizesSpec)

/-- ITS FALSE NEIGHBOUR: 'it returns false'. Refute it at one input. -/
def orderSizesWrong : ChangeSpec := { name := "orderSizes", fn := fun _ => fun
  | [d1, d2, d3] => { results := [.lit (.bool false)], args := [d1, d2, d3] }
  | _ => none }
def OrderSizesWrongFalsely : Prop := orderSizesRow.holds Try.pinned (OpenSpec.ofChange orderSizesWrong)

/-- 'drawknifelaw07.OrderMoves': WHATEVER THE INPUT: true; the input reads as it did. -/
def orderMovesSpec : ChangeSpec := { name := "orderMoves", fn := fun _ => fun
  | [d1, d2, d3] => { results := [.lit (.bool true)], args := [d1, d2, d3] }
  | _ => none }
def orderMovesRow : OpenClaim := { program := "ytjebpngdinbckaa", sum := "f2336d832f58b65a47a833b67a0555e4912c36fad7adbd3e6ec79a26de1ec407", func := "drawknife/drawknifelaw07.OrderMoves", spec := "orderMoves", unfollowed := true, recurses := true, plainKeys := false, apart := false }
def OrderMovesSaid : Prop := orderMovesRow.holds Try.pinned (OpenSpec.ofChange orderMovesSpec)

/-- ITS FALSE NEIGHBOUR: 'it returns false'. Refute it at one input. -/
def orderMovesWrong : ChangeSpec := { name := "orderMoves", fn := fun _ => fun
  | [d1, d2, d3] => { results := [.lit (.bool false)], args := [d1, d2, d3] }
  | _ => none }
def OrderMovesWrongFalsely : Prop := orderMovesRow.holds Try.pinned (OpenSpec.ofChange orderMovesWrong)

/-- 'drawknifelaw07.OrderSifts': WHATEVER THE INPUT: true; the input reads as it did. -/
def orderSiftsSpec : ChangeSpec := { name := "orderSifts", fn := fun _ => fun
  | [d1, d2, d3] => { results := [.lit (.bool true)], args := [d1, d2, d3] }
  | _ => none }
def orderSiftsRow : OpenClaim := { program := "ytjebpngdinbckaa", sum := "f2336d832f58b65a47a833b67a0555e4912c36fad7adbd3e6ec79a26de1ec407", func := "drawknife/drawknifelaw07.OrderSifts", spec := "orderSifts", unfollowed := true, recurses := true, plainKeys := false, apart := false }
def OrderSiftsSaid : Prop := orderSiftsRow.holds Try.pinned (OpenSpec.ofChange orderSiftsSpec)

/-- ITS FALSE NEIGHBOUR: 'it returns false'. Refute it at one input. -/
def orderSiftsWrong : ChangeSpec := { name := "orderSifts", fn := fun _ => fun
  | [d1, d2, d3] => { results := [.lit (.bool false)], args := [d1, d2, d3] }
  | _ => none }
def OrderSiftsWrongFalsely : Prop := orderSiftsRow.holds Try.pinned (OpenSpec.ofChange orderSiftsWrong)

/-- 'drawknifelaw07.OrderShrinks': WHATEVER THE INPUT: true; the input reads as it did. -/
def orderShrinksSpec : ChangeSpec := { name := "orderShrinks", fn := fun _ => fun
  | [d1, d2, d3] => { results := [.lit (.bool true)], args := [d1, d2, d3] }
  | _ => none }
def orderShrinksRow : OpenClaim := { program := "ytjebpngdinbckaa", sum := "f2336d832f58b65a47a833b67a0555e4912c36fad7adbd3e6ec79a26de1ec407", func := "drawknife/drawknifelaw07.OrderShrinks", spec := "orderShrinks", unfollowed := true, recurses := true, plainKeys := false, apart := false }
def OrderShrinksSaid : Prop := orderShrinksRow.holds Try.pinned (OpenSpec.ofChange orderShrinksSpec)

/-- ITS FALSE NEIGHBOUR: 'it returns false'. Refute it at one input. -/
def orderShrinksWrong : ChangeSpec := { name := "orderShrinks", fn := fun _ => fun
  | [d1, d2, d3] => { results := [.lit (.bool false)], args := [d1, d2, d3] }
  | _ => none }
def OrderShrinksWrongFalsely : Prop := orderShrinksRow.holds Try.pinned (OpenSpec.ofChange orderShrinksWrong)

/-- 'drawknifelaw06.BddSets': WHATEVER THE INPUT: true; the input reads as it did. -/
def bddSetsSpec : ChangeSpec := { name := "bddSets", fn := fun _ => fun
  | [d1, d2] => { results := [.lit (.bool true)], args := [d1, d2] }
  | _ => none }
def bddSetsRow : OpenClaim := { program := "ytjebpngdinbckaa", sum := "f2336d832f58b65a47a833b67a0555e4912c36fad7adbd3e6ec79a26de1ec407", func := "drawknife/drawknifelaw06.BddSets", spec := "bddSets", unfollowed := true, recurses := true, plainKeys := false, apart := false }
def BddSetsSaid : Prop := bddSetsRow.holds Try.pinned (OpenSpec.ofChange bddSetsSpec)

/-- ITS FALSE NEIGHBOUR: 'it returns false'. Refute it at one input. -/
def bddSetsWrong : ChangeSpec := { name := "bddSets", fn := fun _ => fun
  | [d1, d2] => { results := [.lit (.bool false)], args := [d1, d2] }
  | _ => none }
def BddSetsWrongFalsely : Prop := bddSetsRow.holds Try.pinned (OpenSpec.ofChange bddSetsWrong)

/-- 'drawknifelaw06.BddRoom': WHATEVER THE INPUT: true; the input reads as it did. -/
def bddRoomSpec : ChangeSpec := { name := "bddRoom", fn := fun _ => fun
  | [d1, d2, d3, d4] => { results := [.lit (.bool true)], args := [d1, d2, d3, d4] }
  | _ => none }
def bddRoomRow : OpenClaim := { program := "ytjebpngdinbckaa", sum := "f2336d832f58b65a47a833b67a0555e4912c36fad7adbd3e6ec79a26de1ec407", func := "drawknife/drawknifelaw06.BddRoom", spec := "bddRoom", unfollowed := true, recurses := true, plainKeys := false, apart := false }
def BddRoomSaid : Prop := bddRoomRow.holds Try.pinned (OpenSpec.ofChange bddRoomSpec)

/-- ITS FALSE NEIGHBOUR: 'it returns false'. Refute it at one input. -/
def bddRoomWrong : ChangeSpec := { name := "bddRoom", fn := fun _ => fun
  | [d1, d2, d3, d4] => { results := [.lit (.bool false)], args := [d1, d2, d3, d4] }
  | _ => none }
def BddRoomWrongFalsely : Prop := bddRoomRow.holds Try.pinned (OpenSpec.ofChange bddRoomWrong)

/-- 'drawknifelaw06.BddOne': WHATEVER THE INPUT: true; the input reads as it did. -/
def bddOneSpec : ChangeSpec := { name := "bddOne", fn := fun _ => fun
  | [d1, d2, d3, d4] => { results := [.lit (.bool true)], args := [d1, d2, d3, d4] }
  | _ => none }
def bddOneRow : OpenClaim := { program := "ytjebpngdinbckaa", sum := "f2336d832f58b65a47a833b67a0555e4912c36fad7adbd3e6ec79a26de1ec407", func := "drawknife/drawknifelaw06.BddOne", spec := "bddOne", unfollowed := true, recurses := true, plainKeys := false, apart := false }
def BddOneSaid : Prop := bddOneRow.holds Try.pinned (OpenSpec.ofChange bddOneSpec)

/-- ITS FALSE NEIGHBOUR: 'it returns false'. Refute it at one input. -/
def bddOneWrong : ChangeSpec := { name := "bddOne", fn := fun _ => fun
  | [d1, d2, d3, d4] => { results := [.lit (.bool false)], args := [d1, d2, d3, d4] }
  | _ => none }
def BddOneWrongFalsely : Prop := bddOneRow.holds Try.pinned (OpenSpec.ofChange bddOneWrong)

/-- 'drawknifelaw15.SearchBounds': WHATEVER THE INPUT: true; the input reads as it did. -/
def searchBoundsSpec : ChangeSpec := { name := "searchBounds", fn := fun _ => fun
  | [d] => { results := [.lit (.bool true)], args := [d] }
  | _ => none }
def searchBoundsRow : OpenClaim := { program := "ytjebpngdinbckaa", sum := "f2336d832f58b65a47a833b67a0555e4912c36fad7adbd3e6ec79a26de1ec407", func := "drawknife/drawknifelaw15.SearchBounds", spec := "searchBounds", unfollowed := true, recurses := true, plainKeys := false, apart := false }
def SearchBoundsSaid : Prop := searchBoundsRow.holds Try.pinned (OpenSpec.ofChange searchBoundsSpec)

/-- ITS FALSE NEIGHBOUR: 'it returns false'. Refute it at one input. -/
def searchBoundsWrong : ChangeSpec := { name := "searchBounds", fn := fun _ => fun
  | [d] => { results := [.lit (.bool false)], args := [d] }
  | _ => none }
def SearchBoundsWrongFalsely : Prop := searchBoundsRow.holds Try.pinned (OpenSpec.ofChange searchBoundsWrong)

/-- 'drawknifelaw15.SearchFewest': WHATEVER THE INPUT: true; the input reads as it did. -/
def searchFewestSpec : ChangeSpec := { name := "searchFewest", fn := fun _ => fun
  | [d] => { results := [.lit (.bool true)], args := [d] }
  | _ => none }
def searchFewestRow : OpenClaim := { program := "ytjebpngdinbckaa", sum := "f2336d832f58b65a47a833b67a0555e4912c36fad7adbd3e6ec79a26de1ec407", func := "drawknife/drawknifelaw15.SearchFewest", spec := "searchFewest", unfollowed := true, recurses := true, plainKeys := false, apart := false }
def SearchFewestSaid : Prop := searchFewestRow.holds Try.pinned (OpenSpec.ofChange searchFewestSpec)

/-- ITS FALSE NEIGHBOUR: 'it returns false'. Refute it at one input. -/
def searchFewestWrong : ChangeSpec := { name := "searchFewest", fn := fun _ => fun
  | [d] => { results := [.lit (.bool false)], args := [d] }
  | _ => none }
def SearchFewestWrongFalsely : Prop := searchFewestRow.holds Try.pinned (OpenSpec.ofChange searchFewestWrong)

/-- 'drawknifelaw15.SearchNone': WHATEVER THE INPUT: true; the input reads as it did. -/
def searchNoneSpec : ChangeSpec := { name := "searchNone", fn := fun _ => fun
  | [d1, d2] => { results := [.lit (.bool true)], args := [d1, d2] }
  | _ => none }
def searchNoneRow : OpenClaim := { program := "ytjebpngdinbckaa", sum := "f2336d832f58b65a47a833b67a0555e4912c36fad7adbd3e6ec79a26de1ec407", func := "drawknife/drawknifelaw15.SearchNone", spec := "searchNone", unfollowed := true, recurses := true, plainKeys := false, apart := false }
def SearchNoneSaid : Prop := searchNoneRow.holds Try.pinned (OpenSpec.ofChange searchNoneSpec)

/-- ITS FALSE NEIGHBOUR: 'it returns false'. Refute it at one input. -/
def searchNoneWrong : ChangeSpec := { name := "searchNone", fn := fun _ => fun
  | [d1, d2] => { results := [.lit (.bool false)], args := [d1, d2] }
  | _ => none }
def SearchNoneWrongFalsely : Prop := searchNoneRow.holds Try.pinned (OpenSpec.ofChange searchNoneWrong)

/-- 'drawknifelaw06.BddDoes': WHATEVER THE INPUT: true; the input reads as it did. -/
def bddDoesSpec : ChangeSpec := { name := "bddDoes", fn := fun _ => fun
  | [d1, d2, d3, d4, d5] => { results := [.lit (.bool true)], args := [d1, d2, d3, d4, d5] }
  | _ => none }
def bddDoesRow : OpenClaim := { program := "ytjebpngdinbckaa", sum := "f2336d832f58b65a47a833b67a0555e4912c36fad7adbd3e6ec79a26de1ec407", func := "drawknife/drawknifelaw06.BddDoes", spec := "bddDoes", unfollowed := true, recurses := true, plainKeys := false, apart := false }
def BddDoesSaid : Prop := bddDoesRow.holds Try.pinned (OpenSpec.ofChange bddDoesSpec)

/-- ITS FALSE NEIGHBOUR: 'it returns false'. Refute it at one input. -/
def bddDoesWrong : ChangeSpec := { name := "bddDoes", fn := fun _ => fun
  | [d1, d2, d3, d4, d5] => { results := [.lit (.bool false)], args := [d1, d2, d3, d4, d5] }
  | _ => none }
def BddDoesWrongFalsely : Prop := bddDoesRow.holds Try.pinned (OpenSpec.ofChange bddDoesWrong)

/-- 'drawknifelaw21.SwapSteps': WHATEVER THE INPUT: true; the input reads as it did. -/
def swapStepsSpec : ChangeSpec := { name := "swapSteps", fn := fun _ => fun
  | [d1, d2] => { results := [.lit (.bool true)], args := [d1, d2] }
  | _ => none }
def swapStepsRow : OpenClaim := { program := "ytjebpngdinbckaa", sum := "f2336d832f58b65a47a833b67a0555e4912c36fad7adbd3e6ec79a26de1ec407", func := "drawknife/drawknifelaw21.SwapSteps", spec := "swapSteps", unfollowed := true, recurses := true, plainKeys := false, apart := false }
def SwapStepsSaid : Prop := swapStepsRow.holds Try.pinned (OpenSpec.ofChange swapStepsSpec)

/-- ITS FALSE NEIGHBOUR: 'it returns false'. Refute it at one input. -/
def swapStepsWrong : ChangeSpec := { name := "swapSteps", fn := fun _ => fun
  | [d1, d2] => { results := [.lit (.bool false)], args := [d1, d2] }
  | _ => none }
def SwapStepsWrongFalsely : Prop := swapStepsRow.holds Try.pinned (OpenSpec.ofChange swapStepsWrong)

/-- 'drawknifelaw21.SwapOne': WHATEVER THE INPUT: true; the input reads as it did. -/
def swapOneSpec : ChangeSpec := { name := "swapOne", fn := fun _ => fun
  | [d1, d2, d3] => { results := [.lit (.bool true)], args := [d1, d2, d3] }
  | _ => none }
def swapOneRow : OpenClaim := { program := "ytjebpngdinbckaa", sum := "f2336d832f58b65a47a833b67a0555e4912c36fad7adbd3e6ec79a26de1ec407", func := "drawknife/drawknifelaw21.SwapOne", spec := "swapOne", unfollowed := true, recurses := true, plainKeys := false, apart := false }
def SwapOneSaid : Prop := swapOneRow.holds Try.pinned (OpenSpec.ofChange swapOneSpec)

/-- ITS FALSE NEIGHBOUR: 'it returns false'. Refute it at one input. -/
def swapOneWrong : ChangeSpec := { name := "swapOne", fn := fun _ => fun
  | [d1, d2, d3] => { results := [.lit (.bool false)], args := [d1, d2, d3] }
  | _ => none }
def SwapOneWrongFalsely : Prop := swapOneRow.holds Try.pinned (OpenSpec.ofChange swapOneWrong)

/-- 'drawknifelaw21.SwapFollows': WHATEVER THE INPUT: true; the input reads as it did. -/
def swapFollowsSpec : ChangeSpec := { name := "swapFollows", fn := fun _ => fun
  | [d1, d2] => { results := [.lit (.bool true)], args := [d1, d2] }
  | _ => none }
def swapFollowsRow : OpenClaim := { program := "ytjebpngdinbckaa", sum := "f2336d832f58b65a47a833b67a0555e4912c36fad7adbd3e6ec79a26de1ec407", func := "drawknife/drawknifelaw21.SwapFollows", spec := "swapFollows", unfollowed := true, recurses := true, plainKeys := false, apart := false }
def SwapFollowsSaid : Prop := swapFollowsRow.holds Try.pinned (OpenSpec.ofChange swapFollowsSpec)

/-- ITS FALSE NEIGHBOUR: 'it returns false'. Refute it at one input. -/
def swapFollowsWrong : ChangeSpec := { name := "swapFollows", fn := fun _ => fun
  | [d1, d2] => { results := [.lit (.bool false)], args := [d1, d2] }
  | _ => none }
def SwapFollowsWrongFalsely : Prop := swapFollowsRow.holds Try.pinned (OpenSpec.ofChange swapFollowsWrong)

/-- 'drawknifelaw21.SwapGraphs': WHATEVER THE INPUT: true; the input reads as it did. -/
def swapGraphsSpec : ChangeSpec := { name := "swapGraphs", fn := fun _ => fun
  | [d1, d2] => { results := [.lit (.bool true)], args := [d1, d2] }
  | _ => none }
def swapGraphsRow : OpenClaim := { program := "ytjebpngdinbckaa", sum := "f2336d832f58b65a47a833b67a0555e4912c36fad7adbd3e6ec79a26de1ec407", func := "drawknife/drawknifelaw21.SwapGraphs", spec := "swapGraphs", unfollowed := true, recurses := true, plainKeys := false, apart := false }
def SwapGraphsSaid : Prop := swapGraphsRow.holds Try.pinned (OpenSpec.ofChange swapGraphsSpec)

/-- ITS FALSE NEIGHBOUR: 'it returns false'. Refute it at one input. -/
def swapGraphsWrong : ChangeSpec := { name := "swapGraphs", fn := fun _ => fun
  | [d1, d2] => { results := [.lit (.bool false)], args := [d1, d2] }
  | _ => none }
def SwapGraphsWrongFalsely : Prop := swapGraphsRow.holds Try.pinned (OpenSpec.ofChange swapGraphsWrong)

/-- 'drawknifelaw21.SwapRights': WHATEVER THE INPUT: true; the input reads as it did. -/
def swapRightsSpec : ChangeSpec := { name := "swapRights", fn := fun _ => fun
  | [d] => { results := [.lit (.bool true)], args := [d] }
  | _ => none }
def swapRightsRow : OpenClaim := { program := "ytjebpngdinbckaa", sum := "f2336d832f58b65a47a833b67a0555e4912c36fad7adbd3e6ec79a26de1ec407", func := "drawknife/drawknifelaw21.SwapRights", spec := "swapRights", unfollowed := true, recurses := true, plainKeys := false, apart := false }
def SwapRightsSaid : Prop := swapRightsRow.holds Try.pinned (OpenSpec.ofChange swapRightsSpec)

/-- ITS FALSE NEIGHBOUR: 'it returns false'. Refute it at one input. -/
def swapRightsWrong : ChangeSpec := { name := "swapRights", fn := fun _ => fun
  | [d] => { results := [.lit (.bool false)], args := [d] }
  | _ => none }
def SwapRightsWrongFalsely : Prop := swapRightsRow.holds Try.pinned (OpenSpec.ofChange swapRightsWrong)

/-- 'drawknifelaw19.ComposeFixes': WHATEVER THE INPUT: true; the input reads as it did. -/
def composeFixesSpec : ChangeSpec := { name := "composeFixes", fn := fun _ => fun
  | [d1, d2, d3, d4, d5] => { results := [.lit (.bool true)], args := [d1, d2, d3, d4, d5] }
  | _ => none }
def composeFixesRow : OpenClaim := { program := "ytjebpngdinbckaa", sum := "f2336d832f58b65a47a833b67a0555e4912c36fad7adbd3e6ec79a26de1ec407", func := "drawknife/drawknifelaw19.ComposeFixes", spec := "composeFixes", unfollowed := true, recurses := true, plainKeys := false, apart := false }
def ComposeFixesSaid : Prop := composeFixesRow.holds Try.pinned (OpenSpec.ofChange composeFixesSpec)

/-- ITS FALSE NEIGHBOUR: 'it returns false'. Refute it at one input. -/
def composeFixesWrong : ChangeSpec := { name := "composeFixes", fn := fun _ => fun
  | [d1, d2, d3, d4, d5] => { results := [.lit (.bool false)], args := [d1, d2, d3, d4, d5] }
  | _ => none }
def ComposeFixesWrongFalsely : Prop := composeFixesRow.holds Try.pinned (OpenSpec.ofChange composeFixesWrong)

/-- 'drawknifelaw19.ComposeParts': WHATEVER THE INPUT: true; the input reads as it did. -/
def composePartsSpec : ChangeSpec := { name := "composeParts", fn := fun _ => fun
  | [d1, d2, d3, d4] => { results := [.lit (.bool true)], args := [d1, d2, d3, d4] }
  | _ => none }
def composePartsRow : OpenClaim := { program := "ytjebpngdinbckaa", sum := "f2336d832f58b65a47a833b67a0555e4912c36fad7adbd3e6ec79a26de1ec407", func := "drawknife/drawknifelaw19.ComposeParts", spec := "composeParts", unfollowed := true, recurses := true, plainKeys := false, apart := false }
def ComposePartsSaid : Prop := composePartsRow.holds Try.pinned (OpenSpec.ofChange composePartsSpec)

/-- ITS FALSE NEIGHBOUR: 'it returns false'. Refute it at one input. -/
def composePartsWrong : ChangeSpec := { name := "composeParts", fn := fun _ => fun
  | [d1, d2, d3, d4] => { results := [.lit (.bool false)], args := [d1, d2, d3, d4] }
  | _ => none }
def ComposePartsWrongFalsely : Prop := composePartsRow.holds Try.pinned (OpenSpec.ofChange composePartsWrong)

/-- 'drawknifelaw19.ComposeCounts': WHATEVER THE INPUT: true; the input reads as it did. -/
def composeCountsSpec : ChangeSpec := { name := "composeCounts", fn := fun _ => fun
  | [d1, d2, d3] => { results := [.lit (.bool true)], args := [d1, d2, d3] }
  | _ => none }
def composeCountsRow : OpenClaim := { program := "ytjebpngdinbckaa", sum := "f2336d832f58b65a47a833b67a0555e4912c36fad7adbd3e6ec79a26de1ec407", func := "drawknife/drawknifelaw19.ComposeCounts", spec := "composeCounts", unfollowed := true, recurses := true, plainKeys := false, apart := false }
def ComposeCountsSaid : Prop := composeCountsRow.holds Try.pinned (OpenSpec.ofChange composeCountsSpec)

/-- ITS FALSE NEIGHBOUR: 'it returns false'. Refute it at one input. -/
def composeCountsWrong : ChangeSpec := { name := "composeCounts", fn := fun _ => fun
  | [d1, d2, d3] => { results := [.lit (.bool false)], args := [d1, d2, d3] }
  | _ => none }
def ComposeCountsWrongFalsely : Prop := composeCountsRow.holds Try.pinned (OpenSpec.ofChange composeCountsWrong)

/-- 'drawknifelaw19.ComposeRefuses': WHATEVER THE INPUT: true; the input reads as it did. -/
def composeRefusesSpec : ChangeSpec := { name := "composeRefuses", fn := fun _ => fun
  | [d1, d2, d3] => { results := [.lit (.bool true)], args := [d1, d2, d3] }
  | _ => none }
def composeRefusesRow : OpenClaim := { program := "ytjebpngdinbckaa", sum := "f2336d832f58b65a47a833b67a0555e4912c36fad7adbd3e6ec79a26de1ec407", func := "drawknife/drawknifelaw19.ComposeRefuses", spec := "composeRefuses", unfollowed := true, recurses := true, plainKeys := false, apart := false }
def ComposeRefusesSaid : Prop := composeRefusesRow.holds Try.pinned (OpenSpec.ofChange composeRefusesSpec)

/-- ITS FALSE NEIGHBOUR: 'it returns false'. Refute it at one input. -/
def composeRefusesWrong : ChangeSpec := { name := "composeRefuses", fn := fun _ => fun
  | [d1, d2, d3] => { results := [.lit (.bool false)], args := [d1, d2, d3] }
  | _ => none }
def ComposeRefusesWrongFalsely : Prop := composeRefusesRow.holds Try.pinned (OpenSpec.ofChange composeRefusesWrong)

/- THE SECOND FORM. 'bulk': how many values and letters a reading holds, each counted each time it is reached (what is shared counts as often as it is met; a slice's spare places count too). A statement '..UptoSaid' is the law's where the arguments, and the package variables that the reading takes, are together of bulk at most 1048576: NARROWER than '..Said'. Prove '..Said' where nothing that the law and all that it calls make is longer than what came in: it says more and counts as full. Else prove '..UptoSaid'. A law counts once. -/
mutual
def uptoBulk {H : Type} : DataW H → Nat
  | .lit (.string bytes) => bytes.length + 1
  | .lit _ => 1
  | .nil => 1
  | .ptr d => uptoBulk d + 1
  | .slice elems spare => uptoBulkAll elems + uptoBulkAll spare + 1
  | .agg parts => uptoBulkAll parts + 1
  | .iface _ d => uptoBulk d + 1
  | .map entries => uptoBulkEntries entries + 1
  | .held _ => 1
def uptoBulkAll {H : Type} : List (DataW H) → Nat
  | [] => 0
  | d :: r => uptoBulk d + uptoBulkAll r
def uptoBulkEntries {H : Type} : List (Lit × DataW H) → Nat
  | [] => 0
  | x :: r => uptoBulkEntry x + uptoBulkEntries r
def uptoBulkEntry {H : Type} : Lit × DataW H → Nat
  | (.string bytes, d) => bytes.length + uptoBulk d + 1
  | (_, d) => uptoBulk d + 1
 end
def uptoSmall : (H : Type) → List (DataW H) → Bool := fun _ ds => decide (uptoBulkAll ds ≤ 1048576)
def OpenSpec.upto (s : _root_.Go.ChangeSpec) : _root_.Go.OpenSpec := { _root_.Go.OpenSpec.ofChange s with cond := some uptoSmall }

/-- 'drawknifelaw01.SetPoints', WHERE WHAT IT READS IS OF BULK AT MOST 1048576: true; the input reads as it did. -/
def setPointsUptoRow : OpenClaim := { program := "ytjebpngdinbckaa", sum := "f2336d832f58b65a47a833b67a0555e4912c36fad7adbd3e6ec79a26de1ec407", func := "drawknife/drawknifelaw01.SetPoints", spec := "setPoints", plainKeys := false, apart := false, narrowed := true }
def SetPointsUptoSaid : Prop := setPointsUptoRow.holds Try.pinned (OpenSpec.upto setPointsSpec)

/-- 'drawknifelaw01.SetHalves', WHERE WHAT IT READS IS OF BULK AT MOST 1048576: true; the input reads as it did. -/
def setHalvesUptoRow : OpenClaim := { program := "ytjebpngdinbckaa", sum := "f2336d832f58b65a47a833b67a0555e4912c36fad7adbd3e6ec79a26de1ec407", func := "drawknife/drawknifelaw01.SetHalves", spec := "setHalves", plainKeys := false, apart := false, narrowed := true }
def SetHalvesUptoSaid : Prop := setHalvesUptoRow.holds Try.pinned (OpenSpec.upto setHalvesSpec)

/-- 'drawknifelaw01.SetBoth', WHERE WHAT IT READS IS OF BULK AT MOST 1048576: true; the input reads as it did. -/
def setBothUptoRow : OpenClaim := { program := "ytjebpngdinbckaa", sum := "f2336d832f58b65a47a833b67a0555e4912c36fad7adbd3e6ec79a26de1ec407", func := "drawknife/drawknifelaw01.SetBoth", spec := "setBoth", unfollowed := true, recurses := true, plainKeys := false, apart := false, narrowed := true }
def SetBothUptoSaid : Prop := setBothUptoRow.holds Try.pinned (OpenSpec.upto setBothSpec)

/-- 'drawknifelaw01.SetParts', WHERE WHAT IT READS IS OF BULK AT MOST 1048576: true; the input reads as it did. -/
def setPartsUptoRow : OpenClaim := { program := "ytjebpngdinbckaa", sum := "f2336d832f58b65a47a833b67a0555e4912c36fad7adbd3e6ec79a26de1ec407", func := "drawknife/drawknifelaw01.SetParts", spec := "setParts", unfollowed := true, recurses := true, plainKeys := false, apart := false, narrowed := true }
def SetPartsUptoSaid : Prop := setPartsUptoRow.holds Try.pinned (OpenSpec.upto setPartsSpec)

/-- 'drawknifelaw02.CubePoints', WHERE WHAT IT READS IS OF BULK AT MOST 1048576: true; the input reads as it did. -/
def cubePointsUptoRow : OpenClaim := { program := "ytjebpngdinbckaa", sum := "f2336d832f58b65a47a833b67a0555e4912c36fad7adbd3e6ec79a26de1ec407", func := "drawknife/drawknifelaw02.CubePoints", spec := "cubePoints", plainKeys := false, apart := false, narrowed := true }
def CubePointsUptoSaid : Prop := cubePointsUptoRow.holds Try.pinned (OpenSpec.upto cubePointsSpec)

/-- 'drawknifelaw02.CubeParses', WHERE WHAT IT READS IS OF BULK AT MOST 1048576: true; the input reads as it did. -/
def cubeParsesUptoRow : OpenClaim := { program := "ytjebpngdinbckaa", sum := "f2336d832f58b65a47a833b67a0555e4912c36fad7adbd3e6ec79a26de1ec407", func := "drawknife/drawknifelaw02.CubeParses", spec := "cubeParses", plainKeys := false, apart := false, narrowed := true }
def CubeParsesUptoSaid : Prop := cubeParsesUptoRow.holds Try.pinned (OpenSpec.upto cubeParsesSpec)

/-- 'drawknifelaw05.ArenaMakes', WHERE WHAT IT READS IS OF BULK AT MOST 1048576: true; the input reads as it did. -/
def arenaMakesUptoRow : OpenClaim := { program := "ytjebpngdinbckaa", sum := "f2336d832f58b65a47a833b67a0555e4912c36fad7adbd3e6ec79a26de1ec407", func := "drawknife/drawknifelaw05.ArenaMakes", spec := "arenaMakes", recurses := true, plainKeys := false, apart := false, narrowed := true }
def ArenaMakesUptoSaid : Prop := arenaMakesUptoRow.holds Try.pinned (OpenSpec.upto arenaMakesSpec)

/-- 'drawknifelaw05.ArenaKeeps', WHERE WHAT IT READS IS OF BULK AT MOST 1048576: true; the input reads as it did. -/
def arenaKeepsUptoRow : OpenClaim := { program := "ytjebpngdinbckaa", sum := "f2336d832f58b65a47a833b67a0555e4912c36fad7adbd3e6ec79a26de1ec407", func := "drawknife/drawknifelaw05.ArenaKeeps", spec := "arenaKeeps", recurses := true, plainKeys := false, apart := false, narrowed := true }
def ArenaKeepsUptoSaid : Prop := arenaKeepsUptoRow.holds Try.pinned (OpenSpec.upto arenaKeepsSpec)

/-- 'drawknifelaw05.ArenaNil', WHERE WHAT IT READS IS OF BULK AT MOST 1048576: true; the input reads as it did. -/
def arenaNilUptoRow : OpenClaim := { program := "ytjebpngdinbckaa", sum := "f2336d832f58b65a47a833b67a0555e4912c36fad7adbd3e6ec79a26de1ec407", func := "drawknife/drawknifelaw05.ArenaNil", spec := "arenaNil", recurses := true, plainKeys := false, apart := false, narrowed := true }
def ArenaNilUptoSaid : Prop := arenaNilUptoRow.holds Try.pinned (OpenSpec.upto arenaNilSpec)

/-- 'drawknifelaw02.CubeSets', WHERE WHAT IT READS IS OF BULK AT MOST 1048576: true; the input reads as it did. -/
def cubeSetsUptoRow : OpenClaim := { program := "ytjebpngdinbckaa", sum := "f2336d832f58b65a47a833b67a0555e4912c36fad7adbd3e6ec79a26de1ec407", func := "drawknife/drawknifelaw02.CubeSets", spec := "cubeSets", unfollowed := true, recurses := true, plainKeys := false, apart := false, narrowed := true }
def CubeSetsUptoSaid : Prop := cubeSetsUptoRow.holds Try.pinned (OpenSpec.upto cubeSetsSpec)

/-- 'drawknifelaw14.ReduceSteps', WHERE WHAT IT READS IS OF BULK AT MOST 1048576: true; the input reads as it did. -/
def reduceStepsUptoRow : OpenClaim := { program := "ytjebpngdinbckaa", sum := "f2336d832f58b65a47a833b67a0555e4912c36fad7adbd3e6ec79a26de1ec407", func := "drawknife/drawknifelaw14.ReduceSteps", spec := "reduceSteps", unfollowed := true, recurses := true, plainKeys := false, apart := false, narrowed := true }
def ReduceStepsUptoSaid : Prop := reduceStepsUptoRow.holds Try.pinned (OpenSpec.upto reduceStepsSpec)

/-- 'drawknifelaw14.ReduceAll', WHERE WHAT IT READS IS OF BULK AT MOST 1048576: true; the input reads as it did. -/
def reduceAllUptoRow : OpenClaim := { program := "ytjebpngdinbckaa", sum := "f2336d832f58b65a47a833b67a0555e4912c36fad7adbd3e6ec79a26de1ec407", func := "drawknife/drawknifelaw14.ReduceAll", spec := "reduceAll", unfollowed := true, recurses := true, plainKeys := false, apart := false, narrowed := true }
def ReduceAllUptoSaid : Prop := reduceAllUptoRow.holds Try.pinned (OpenSpec.upto reduceAllSpec)

/-- 'drawknifelaw14.ReduceBest', WHERE WHAT IT READS IS OF BULK AT MOST 1048576: true; the input reads as it did. -/
def reduceBestUptoRow : OpenClaim := { program := "ytjebpngdinbckaa", sum := "f2336d832f58b65a47a833b67a0555e4912c36fad7adbd3e6ec79a26de1ec407", func := "drawknife/drawknifelaw14.ReduceBest", spec := "reduceBest", unfollowed := true, recurses := true, plainKeys := false, apart := false, narrowed := true }
def ReduceBestUptoSaid : Prop := reduceBestUptoRow.holds Try.pinned (OpenSpec.upto reduceBestSpec)

/-- 'drawknifelaw14.ReduceSolves', WHERE WHAT IT READS IS OF BULK AT MOST 1048576: true; the input reads as it did. -/
def reduceSolvesUptoRow : OpenClaim := { program := "ytjebpngdinbckaa", sum := "f2336d832f58b65a47a833b67a0555e4912c36fad7adbd3e6ec79a26de1ec407", func := "drawknife/drawknifelaw14.ReduceSolves", spec := "reduceSolves", unfollowed := true, recurses := true, plainKeys := false, apart := false, narrowed := true }
def ReduceSolvesUptoSaid : Prop := reduceSolvesUptoRow.holds Try.pinned (OpenSpec.upto reduceSolvesSpec)

/-- 'drawknifelaw07.OrderSizes', WHERE WHAT IT READS IS OF BULK AT MOST 1048576: true; the input reads as it did. -/
def orderSizesUptoRow : OpenClaim := { program := "ytjebpngdinbckaa", sum := "f2336d832f58b65a47a833b67a0555e4912c36fad7adbd3e6ec79a26de1ec407", func := "drawknife/drawknifelaw07.OrderSizes", spec := "orderSizes", unfollowed := true, recurses := true, plainKeys := false, apart := false, narrowed := true }
def OrderSizesUptoSaid : Prop := orderSizesUptoRow.holds Try.pinned (OpenSpec.upto orderSizesSpec)

/-- 'drawknifelaw07.OrderMoves', WHERE WHAT IT READS IS OF BULK AT MOST 1048576: true; the input reads as it did. -/
def orderMovesUptoRow : OpenClaim := { program := "ytjebpngdinbckaa", sum := "f2336d832f58b65a47a833b67a0555e4912c36fad7adbd3e6ec79a26de1ec407", func := "drawknife/drawknifelaw07.OrderMoves", spec := "orderMoves", unfollowed := true, recurses := true, plainKeys := false, apart := false, narrowed := true }
def OrderMovesUptoSaid : Prop := orderMovesUptoRow.holds Try.pinned (OpenSpec.upto orderMovesSpec)

/-- 'drawknifelaw07.OrderSifts', WHERE WHAT IT READS IS OF BULK AT MOST 1048576: true; the input reads as it did. -/
def orderSiftsUptoRow : OpenClaim := { program := "ytjebpngdinbckaa", sum := "f2336d832f58b65a47a833b67a0555e4912c36fad7adbd3e6ec79a26de1ec407", func := "drawknife/drawknifelaw07.OrderSifts", spec := "orderSifts", unfollowed := true, recurses := true, plainKeys := false, apart := false, narrowed := true }
def OrderSiftsUptoSaid : Prop := orderSiftsUptoRow.holds Try.pinned (OpenSpec.upto orderSiftsSpec)

/-- 'drawknifelaw07.OrderShrinks', WHERE WHAT IT READS IS OF BULK AT MOST 1048576: true; the input reads as it did. -/
def orderShrinksUptoRow : OpenClaim := { program := "ytjebpngdinbckaa", sum := "f2336d832f58b65a47a833b67a0555e4912c36fad7adbd3e6ec79a26de1ec407", func := "drawknife/drawknifelaw07.OrderShrinks", spec := "orderShrinks", unfollowed := true, recurses := true, plainKeys := false, apart := false, narrowed := true }
def OrderShrinksUptoSaid : Prop := orderShrinksUptoRow.holds Try.pinned (OpenSpec.upto orderShrinksSpec)

/-- 'drawknifelaw06.BddSets', WHERE WHAT IT READS IS OF BULK AT MOST 1048576: true; the input reads as it did. -/
def bddSetsUptoRow : OpenClaim := { program := "ytjebpngdinbckaa", sum := "f2336d832f58b65a47a833b67a0555e4912c36fad7adbd3e6ec79a26de1ec407", func := "drawknife/drawknifelaw06.BddSets", spec := "bddSets", unfollowed := true, recurses := true, plainKeys := false, apart := false, narrowed := true }
def BddSetsUptoSaid : Prop := bddSetsUptoRow.holds Try.pinned (OpenSpec.upto bddSetsSpec)

/-- 'drawknifelaw06.BddRoom', WHERE WHAT IT READS IS OF BULK AT MOST 1048576: true; the input reads as it did. -/
def bddRoomUptoRow : OpenClaim := { program := "ytjebpngdinbckaa", sum := "f2336d832f58b65a47a833b67a0555e4912c36fad7adbd3e6ec79a26de1ec407", func := "drawknife/drawknifelaw06.BddRoom", spec := "bddRoom", unfollowed := true, recurses := true, plainKeys := false, apart := false, narrowed := true }
def BddRoomUptoSaid : Prop := bddRoomUptoRow.holds Try.pinned (OpenSpec.upto bddRoomSpec)

/-- 'drawknifelaw06.BddOne', WHERE WHAT IT READS IS OF BULK AT MOST 1048576: true; the input reads as it did. -/
def bddOneUptoRow : OpenClaim := { program := "ytjebpngdinbckaa", sum := "f2336d832f58b65a47a833b67a0555e4912c36fad7adbd3e6ec79a26de1ec407", func := "drawknife/drawknifelaw06.BddOne", spec := "bddOne", unfollowed := true, recurses := true, plainKeys := false, apart := false, narrowed := true }
def BddOneUptoSaid : Prop := bddOneUptoRow.holds Try.pinned (OpenSpec.upto bddOneSpec)

/-- 'drawknifelaw15.SearchBounds', WHERE WHAT IT READS IS OF BULK AT MOST 1048576: true; the input reads as it did. -/
def searchBoundsUptoRow : OpenClaim := { program := "ytjebpngdinbckaa", sum := "f2336d832f58b65a47a833b67a0555e4912c36fad7adbd3e6ec79a26de1ec407", func := "drawknife/drawknifelaw15.SearchBounds", spec := "searchBounds", unfollowed := true, recurses := true, plainKeys := false, apart := false, narrowed := true }
def SearchBoundsUptoSaid : Prop := searchBoundsUptoRow.holds Try.pinned (OpenSpec.upto searchBoundsSpec)

/-- 'drawknifelaw15.SearchFewest', WHERE WHAT IT READS IS OF BULK AT MOST 1048576: true; the input reads as it did. -/
def searchFewestUptoRow : OpenClaim := { program := "ytjebpngdinbckaa", sum := "f2336d832f58b65a47a833b67a0555e4912c36fad7adbd3e6ec79a26de1ec407", func := "drawknife/drawknifelaw15.SearchFewest", spec := "searchFewest", unfollowed := true, recurses := true, plainKeys := false, apart := false, narrowed := true }
def SearchFewestUptoSaid : Prop := searchFewestUptoRow.holds Try.pinned (OpenSpec.upto searchFewestSpec)

/-- 'drawknifelaw15.SearchNone', WHERE WHAT IT READS IS OF BULK AT MOST 1048576: true; the input reads as it did. -/
def searchNoneUptoRow : OpenClaim := { program := "ytjebpngdinbckaa", sum := "f2336d832f58b65a47a833b67a0555e4912c36fad7adbd3e6ec79a26de1ec407", func := "drawknife/drawknifelaw15.SearchNone", spec := "searchNone", unfollowed := true, recurses := true, plainKeys := false, apart := false, narrowed := true }
def SearchNoneUptoSaid : Prop := searchNoneUptoRow.holds Try.pinned (OpenSpec.upto searchNoneSpec)

/-- 'drawknifelaw06.BddDoes', WHERE WHAT IT READS IS OF BULK AT MOST 1048576: true; the input reads as it did. -/
def bddDoesUptoRow : OpenClaim := { program := "ytjebpngdinbckaa", sum := "f2336d832f58b65a47a833b67a0555e4912c36fad7adbd3e6ec79a26de1ec407", func := "drawknife/drawknifelaw06.BddDoes", spec := "bddDoes", unfollowed := true, recurses := true, plainKeys := false, apart := false, narrowed := true }
def BddDoesUptoSaid : Prop := bddDoesUptoRow.holds Try.pinned (OpenSpec.upto bddDoesSpec)

/-- 'drawknifelaw21.SwapSteps', WHERE WHAT IT READS IS OF BULK AT MOST 1048576: true; the input reads as it did. -/
def swapStepsUptoRow : OpenClaim := { program := "ytjebpngdinbckaa", sum := "f2336d832f58b65a47a833b67a0555e4912c36fad7adbd3e6ec79a26de1ec407", func := "drawknife/drawknifelaw21.SwapSteps", spec := "swapSteps", unfollowed := true, recurses := true, plainKeys := false, apart := false, narrowed := true }
def SwapStepsUptoSaid : Prop := swapStepsUptoRow.holds Try.pinned (OpenSpec.upto swapStepsSpec)

/-- 'drawknifelaw21.SwapOne', WHERE WHAT IT READS IS OF BULK AT MOST 1048576: true; the input reads as it did. -/
def swapOneUptoRow : OpenClaim := { program := "ytjebpngdinbckaa", sum := "f2336d832f58b65a47a833b67a0555e4912c36fad7adbd3e6ec79a26de1ec407", func := "drawknife/drawknifelaw21.SwapOne", spec := "swapOne", unfollowed := true, recurses := true, plainKeys := false, apart := false, narrowed := true }
def SwapOneUptoSaid : Prop := swapOneUptoRow.holds Try.pinned (OpenSpec.upto swapOneSpec)

/-- 'drawknifelaw21.SwapFollows', WHERE WHAT IT READS IS OF BULK AT MOST 1048576: true; the input reads as it did. -/
def swapFollowsUptoRow : OpenClaim := { program := "ytjebpngdinbckaa", sum := "f2336d832f58b65a47a833b67a0555e4912c36fad7adbd3e6ec79a26de1ec407", func := "drawknife/drawknifelaw21.SwapFollows", spec := "swapFollows", unfollowed := true, recurses := true, plainKeys := false, apart := false, narrowed := true }
def SwapFollowsUptoSaid : Prop := swapFollowsUptoRow.holds Try.pinned (OpenSpec.upto swapFollowsSpec)

/-- 'drawknifelaw21.SwapGraphs', WHERE WHAT IT READS IS OF BULK AT MOST 1048576: true; the input reads as it did. -/
def swapGraphsUptoRow : OpenClaim := { program := "ytjebpngdinbckaa", sum := "f2336d832f58b65a47a833b67a0555e4912c36fad7adbd3e6ec79a26de1ec407", func := "drawknife/drawknifelaw21.SwapGraphs", spec := "swapGraphs", unfollowed := true, recurses := true, plainKeys := false, apart := false, narrowed := true }
def SwapGraphsUptoSaid : Prop := swapGraphsUptoRow.holds Try.pinned (OpenSpec.upto swapGraphsSpec)

/-- 'drawknifelaw21.SwapRights', WHERE WHAT IT READS IS OF BULK AT MOST 1048576: true; the input reads as it did. -/
def swapRightsUptoRow : OpenClaim := { program := "ytjebpngdinbckaa", sum := "f2336d832f58b65a47a833b67a0555e4912c36fad7adbd3e6ec79a26de1ec407", func := "drawknife/drawknifelaw21.SwapRights", spec := "swapRights", unfollowed := true, recurses := true, plainKeys := false, apart := false, narrowed := true }
def SwapRightsUptoSaid : Prop := swapRightsUptoRow.holds Try.pinned (OpenSpec.upto swapRightsSpec)

/-- 'drawknifelaw19.ComposeFixes', WHERE WHAT IT READS IS OF BULK AT MOST 1048576: true; the input reads as it did. -/
def composeFixesUptoRow : OpenClaim := { program := "ytjebpngdinbckaa", sum := "f2336d832f58b65a47a833b67a0555e4912c36fad7adbd3e6ec79a26de1ec407", func := "drawknife/drawknifelaw19.ComposeFixes", spec := "composeFixes", unfollowed := true, recurses := true, plainKeys := false, apart := false, narrowed := true }
def ComposeFixesUptoSaid : Prop := composeFixesUptoRow.holds Try.pinned (OpenSpec.upto composeFixesSpec)

/-- 'drawknifelaw19.ComposeParts', WHERE WHAT IT READS IS OF BULK AT MOST 1048576: true; the input reads as it did. -/
def composePartsUptoRow : OpenClaim := { program := "ytjebpngdinbckaa", sum := "f2336d832f58b65a47a833b67a0555e4912c36fad7adbd3e6ec79a26de1ec407", func := "drawknife/drawknifelaw19.ComposeParts", spec := "composeParts", unfollowed := true, recurses := true, plainKeys := false, apart := false, narrowed := true }
def ComposePartsUptoSaid : Prop := composePartsUptoRow.holds Try.pinned (OpenSpec.upto composePartsSpec)

/-- 'drawknifelaw19.ComposeCounts', WHERE WHAT IT READS IS OF BULK AT MOST 1048576: true; the input reads as it did. -/
def composeCountsUptoRow : OpenClaim := { program := "ytjebpngdinbckaa", sum := "f2336d832f58b65a47a833b67a0555e4912c36fad7adbd3e6ec79a26de1ec407", func := "drawknife/drawknifelaw19.ComposeCounts", spec := "composeCounts", unfollowed := true, recurses := true, plainKeys := false, apart := false, narrowed := true }
def ComposeCountsUptoSaid : Prop := composeCountsUptoRow.holds Try.pinned (OpenSpec.upto composeCountsSpec)

/-- 'drawknifelaw19.ComposeRefuses', WHERE WHAT IT READS IS OF BULK AT MOST 1048576: true; the input reads as it did. -/
def composeRefusesUptoRow : OpenClaim := { program := "ytjebpngdinbckaa", sum := "f2336d832f58b65a47a833b67a0555e4912c36fad7adbd3e6ec79a26de1ec407", func := "drawknife/drawknifelaw19.ComposeRefuses", spec := "composeRefuses", unfollowed := true, recurses := true, plainKeys := false, apart := false, narrowed := true }
def ComposeRefusesUptoSaid : Prop := composeRefusesUptoRow.holds Try.pinned (OpenSpec.upto composeRefusesSpec)

end Rows
end Go.Proofs.Ytjebpngdinbckaa
