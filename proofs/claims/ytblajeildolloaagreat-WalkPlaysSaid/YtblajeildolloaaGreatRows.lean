/-
  No cell of these rows narrows 'for every input' (looked for: loops, veiled, ifaces, maps, wideKeys, modest, calm, conditions, laid).
  DERIVED. THE GIVEN ROWS OF THIS SEAT. 18 by the template 'for every input the law returns true; each argument reads behind the call as it read before'; 0 by the template 'total and deterministic' (their statements: YtblajeildolloaaGreatTotals.lean).
  GIVEN WITH THE SEED: the statements are not yours to turn. If you find one false, say at which input.
  Laid BY PROGRAM, IN A SANDBOX (cutbox-rows.mjs): the forced cells as the released guide's own fill.sh prints them over the translation 62c0a7f55fd47dff… (all of the seat's roots in one cut). By AI agents, Wed Nov 11 2026. No macro, syntax, notation, axiom, sorry.
-/
import Derived.Test.YtblajeildolloaaGreatChecked
import GoSem.Claim
import GoSem.ClaimJoined
import GoSem.ClaimMapViews
import Derived.JoinedTies
import Derived.KernelRfl
namespace Go.Proofs.YtblajeildolloaaGreat
/- THE CELL 'sum', in the pinned program and in every row, IS THE sha256 OF THE DUMP (.gsa) THAT YtblajeildolloaaGreatProg.lean LOADS. Nothing in Lean hashes anything: it is a label: what it is worth is what the hold of that sum in a sandbox is worth. -/
noncomputable def Tryz.pinned : Pinned := { name := "ytblajeildolloaagreat", sum := "62c0a7f55fd47dff214439c1603107f153b8b598050825eb5b4b06a004ab1683", checked := Tryz.checked }
namespace Rows
def none {H : Type} : Left H := { results := [], args := [] }

/-- 'ordinatelaw15.RoutePlays': WHATEVER THE INPUT: true; the input reads as it did. -/
def routePlaysSpec : ChangeSpec := { name := "routePlays", fn := fun _ => fun
  | [d1, d2, d3] => { results := [.lit (.bool true)], args := [d1, d2, d3] }
  | _ => none }
def routePlaysRow : OpenClaim := { program := "ytblajeildolloaagreat", sum := "62c0a7f55fd47dff214439c1603107f153b8b598050825eb5b4b06a004ab1683", func := "ordinate/ordinatelaw15.RoutePlays", spec := "routePlays", unfollowed := true, recurses := true, named := ["math/bits.divideError", "math/bits.overflowError"], apart := false }
def RoutePlaysSaid : Prop := routePlaysRow.holds Tryz.pinned (OpenSpec.ofChange routePlaysSpec)

/-- ITS FALSE NEIGHBOUR: 'it returns false'. Refute it at one input. -/
def routePlaysWrong : ChangeSpec := { name := "routePlays", fn := fun _ => fun
  | [d1, d2, d3] => { results := [.lit (.bool false)], args := [d1, d2, d3] }
  | _ => none }
def RoutePlaysWrongFalsely : Prop := routePlaysRow.holds Tryz.pinned (OpenSpec.ofChange routePlaysWrong)

/-- 'ordinatelaw25.QueryKnown': WHATEVER THE INPUT: true; the input reads as it did. -/
def queryKnownSpec : ChangeSpec := { name := "queryKnown", fn := fun _ => fun
  | [] => { results := [.lit (.bool true)], args := [] }
  | _ => none }
def queryKnownRow : OpenClaim := { program := "ytblajeildolloaagreat", sum := "62c0a7f55fd47dff214439c1603107f153b8b598050825eb5b4b06a004ab1683", func := "ordinate/ordinatelaw25.QueryKnown", spec := "queryKnown", unfollowed := true, recurses := true, named := ["math/bits.divideError", "math/bits.overflowError"], apart := false }
def QueryKnownSaid : Prop := queryKnownRow.holds Tryz.pinned (OpenSpec.ofChange queryKnownSpec)

/-- ITS FALSE NEIGHBOUR: 'it returns false'. Refute it at one input. -/
def queryKnownWrong : ChangeSpec := { name := "queryKnown", fn := fun _ => fun
  | [] => { results := [.lit (.bool false)], args := [] }
  | _ => none }
def QueryKnownWrongFalsely : Prop := queryKnownRow.holds Tryz.pinned (OpenSpec.ofChange queryKnownWrong)

/-- 'ordinatelaw16.SeekPlays': WHATEVER THE INPUT: true; the input reads as it did. -/
def seekPlaysSpec : ChangeSpec := { name := "seekPlays", fn := fun _ => fun
  | [d1, d2, d3, d4, d5] => { results := [.lit (.bool true)], args := [d1, d2, d3, d4, d5] }
  | _ => none }
def seekPlaysRow : OpenClaim := { program := "ytblajeildolloaagreat", sum := "62c0a7f55fd47dff214439c1603107f153b8b598050825eb5b4b06a004ab1683", func := "ordinate/ordinatelaw16.SeekPlays", spec := "seekPlays", unfollowed := true, recurses := true, named := ["math/bits.divideError", "math/bits.overflowError"], apart := false }
def SeekPlaysSaid : Prop := seekPlaysRow.holds Tryz.pinned (OpenSpec.ofChange seekPlaysSpec)

/-- ITS FALSE NEIGHBOUR: 'it returns false'. Refute it at one input. -/
def seekPlaysWrong : ChangeSpec := { name := "seekPlays", fn := fun _ => fun
  | [d1, d2, d3, d4, d5] => { results := [.lit (.bool false)], args := [d1, d2, d3, d4, d5] }
  | _ => none }
def SeekPlaysWrongFalsely : Prop := seekPlaysRow.holds Tryz.pinned (OpenSpec.ofChange seekPlaysWrong)

/-- 'ordinatelaw16.SeekMoment': WHATEVER THE INPUT: true; the input reads as it did. -/
def seekMomentSpec : ChangeSpec := { name := "seekMoment", fn := fun _ => fun
  | [d1, d2, d3, d4, d5] => { results := [.lit (.bool true)], args := [d1, d2, d3, d4, d5] }
  | _ => none }
def seekMomentRow : OpenClaim := { program := "ytblajeildolloaagreat", sum := "62c0a7f55fd47dff214439c1603107f153b8b598050825eb5b4b06a004ab1683", func := "ordinate/ordinatelaw16.SeekMoment", spec := "seekMoment", unfollowed := true, recurses := true, named := ["math/bits.divideError", "math/bits.overflowError"], apart := false }
def SeekMomentSaid : Prop := seekMomentRow.holds Tryz.pinned (OpenSpec.ofChange seekMomentSpec)

/-- ITS FALSE NEIGHBOUR: 'it returns false'. Refute it at one input. -/
def seekMomentWrong : ChangeSpec := { name := "seekMoment", fn := fun _ => fun
  | [d1, d2, d3, d4, d5] => { results := [.lit (.bool false)], args := [d1, d2, d3, d4, d5] }
  | _ => none }
def SeekMomentWrongFalsely : Prop := seekMomentRow.holds Tryz.pinned (OpenSpec.ofChange seekMomentWrong)

/-- 'ordinatelaw16.SeekAll': WHATEVER THE INPUT: true; the input reads as it did. -/
def seekAllSpec : ChangeSpec := { name := "seekAll", fn := fun _ => fun
  | [d1, d2, d3, d4] => { results := [.lit (.bool true)], args := [d1, d2, d3, d4] }
  | _ => none }
def seekAllRow : OpenClaim := { program := "ytblajeildolloaagreat", sum := "62c0a7f55fd47dff214439c1603107f153b8b598050825eb5b4b06a004ab1683", func := "ordinate/ordinatelaw16.SeekAll", spec := "seekAll", unfollowed := true, recurses := true, named := ["math/bits.divideError", "math/bits.overflowError"], apart := false }
def SeekAllSaid : Prop := seekAllRow.holds Tryz.pinned (OpenSpec.ofChange seekAllSpec)

/-- ITS FALSE NEIGHBOUR: 'it returns false'. Refute it at one input. -/
def seekAllWrong : ChangeSpec := { name := "seekAll", fn := fun _ => fun
  | [d1, d2, d3, d4] => { results := [.lit (.bool false)], args := [d1, d2, d3, d4] }
  | _ => none }
def SeekAllWrongFalsely : Prop := seekAllRow.holds Tryz.pinned (OpenSpec.ofChange seekAllWrong)

/-- 'ordinatelaw17.WalkPlays': WHATEVER THE INPUT: true; the input reads as it did. -/
def walkPlaysSpec : ChangeSpec := { name := "walkPlays", fn := fun _ => fun
  | [d1, d2, d3, d4, d5, d6, d7] => { results := [.lit (.bool true)], args := [d1, d2, d3, d4, d5, d6, d7] }
  | _ => none }
def walkPlaysRow : OpenClaim := { program := "ytblajeildolloaagreat", sum := "62c0a7f55fd47dff214439c1603107f153b8b598050825eb5b4b06a004ab1683", func := "ordinate/ordinatelaw17.WalkPlays", spec := "walkPlays", unfollowed := true, recurses := true, named := ["math/bits.divideError", "math/bits.overflowError"], apart := false }
def WalkPlaysSaid : Prop := walkPlaysRow.holds Tryz.pinned (OpenSpec.ofChange walkPlaysSpec)

/-- ITS FALSE NEIGHBOUR: 'it returns false'. Refute it at one input. -/
def walkPlaysWrong : ChangeSpec := { name := "walkPlays", fn := fun _ => fun
  | [d1, d2, d3, d4, d5, d6, d7] => { results := [.lit (.bool false)], args := [d1, d2, d3, d4, d5, d6, d7] }
  | _ => none }
def WalkPlaysWrongFalsely : Prop := walkPlaysRow.holds Tryz.pinned (OpenSpec.ofChange walkPlaysWrong)

/-- 'ordinatelaw17.WalkAll': WHATEVER THE INPUT: true; the input reads as it did. -/
def walkAllSpec : ChangeSpec := { name := "walkAll", fn := fun _ => fun
  | [d1, d2, d3, d4, d5, d6] => { results := [.lit (.bool true)], args := [d1, d2, d3, d4, d5, d6] }
  | _ => none }
def walkAllRow : OpenClaim := { program := "ytblajeildolloaagreat", sum := "62c0a7f55fd47dff214439c1603107f153b8b598050825eb5b4b06a004ab1683", func := "ordinate/ordinatelaw17.WalkAll", spec := "walkAll", unfollowed := true, recurses := true, named := ["math/bits.divideError", "math/bits.overflowError"], apart := false }
def WalkAllSaid : Prop := walkAllRow.holds Tryz.pinned (OpenSpec.ofChange walkAllSpec)

/-- ITS FALSE NEIGHBOUR: 'it returns false'. Refute it at one input. -/
def walkAllWrong : ChangeSpec := { name := "walkAll", fn := fun _ => fun
  | [d1, d2, d3, d4, d5, d6] => { results := [.lit (.bool false)], args := [d1, d2, d3, d4, d5, d6] }
  | _ => none }
def WalkAllWrongFalsely : Prop := walkAllRow.holds Tryz.pinned (OpenSpec.ofChange walkAllWrong)

/-- 'ordinatelaw17.WalkValues': WHATEVER THE INPUT: true; the input reads as it did. -/
def walkValuesSpec : ChangeSpec := { name := "walkValues", fn := fun _ => fun
  | [d1, d2, d3, d4, d5, d6] => { results := [.lit (.bool true)], args := [d1, d2, d3, d4, d5, d6] }
  | _ => none }
def walkValuesRow : OpenClaim := { program := "ytblajeildolloaagreat", sum := "62c0a7f55fd47dff214439c1603107f153b8b598050825eb5b4b06a004ab1683", func := "ordinate/ordinatelaw17.WalkValues", spec := "walkValues", unfollowed := true, recurses := true, named := ["math/bits.divideError", "math/bits.overflowError"], apart := false }
def WalkValuesSaid : Prop := walkValuesRow.holds Tryz.pinned (OpenSpec.ofChange walkValuesSpec)

/-- ITS FALSE NEIGHBOUR: 'it returns false'. Refute it at one input. -/
def walkValuesWrong : ChangeSpec := { name := "walkValues", fn := fun _ => fun
  | [d1, d2, d3, d4, d5, d6] => { results := [.lit (.bool false)], args := [d1, d2, d3, d4, d5, d6] }
  | _ => none }
def WalkValuesWrongFalsely : Prop := walkValuesRow.holds Tryz.pinned (OpenSpec.ofChange walkValuesWrong)

/-- 'ordinatelaw17.WalkOrder': WHATEVER THE INPUT: true; the input reads as it did. -/
def walkOrderSpec : ChangeSpec := { name := "walkOrder", fn := fun _ => fun
  | [d1, d2, d3, d4, d5, d6, d7] => { results := [.lit (.bool true)], args := [d1, d2, d3, d4, d5, d6, d7] }
  | _ => none }
def walkOrderRow : OpenClaim := { program := "ytblajeildolloaagreat", sum := "62c0a7f55fd47dff214439c1603107f153b8b598050825eb5b4b06a004ab1683", func := "ordinate/ordinatelaw17.WalkOrder", spec := "walkOrder", unfollowed := true, recurses := true, named := ["math/bits.divideError", "math/bits.overflowError"], apart := false }
def WalkOrderSaid : Prop := walkOrderRow.holds Tryz.pinned (OpenSpec.ofChange walkOrderSpec)

/-- ITS FALSE NEIGHBOUR: 'it returns false'. Refute it at one input. -/
def walkOrderWrong : ChangeSpec := { name := "walkOrder", fn := fun _ => fun
  | [d1, d2, d3, d4, d5, d6, d7] => { results := [.lit (.bool false)], args := [d1, d2, d3, d4, d5, d6, d7] }
  | _ => none }
def WalkOrderWrongFalsely : Prop := walkOrderRow.holds Tryz.pinned (OpenSpec.ofChange walkOrderWrong)

/-- 'ordinatelaw17.WalkSpots': WHATEVER THE INPUT: true; the input reads as it did. -/
def walkSpotsSpec : ChangeSpec := { name := "walkSpots", fn := fun _ => fun
  | [d1, d2, d3] => { results := [.lit (.bool true)], args := [d1, d2, d3] }
  | _ => none }
def walkSpotsRow : OpenClaim := { program := "ytblajeildolloaagreat", sum := "62c0a7f55fd47dff214439c1603107f153b8b598050825eb5b4b06a004ab1683", func := "ordinate/ordinatelaw17.WalkSpots", spec := "walkSpots", unfollowed := true, recurses := true, named := ["math/bits.divideError", "math/bits.overflowError"], apart := false }
def WalkSpotsSaid : Prop := walkSpotsRow.holds Tryz.pinned (OpenSpec.ofChange walkSpotsSpec)

/-- ITS FALSE NEIGHBOUR: 'it returns false'. Refute it at one input. -/
def walkSpotsWrong : ChangeSpec := { name := "walkSpots", fn := fun _ => fun
  | [d1, d2, d3] => { results := [.lit (.bool false)], args := [d1, d2, d3] }
  | _ => none }
def WalkSpotsWrongFalsely : Prop := walkSpotsRow.holds Tryz.pinned (OpenSpec.ofChange walkSpotsWrong)

/-- 'ordinatelaw18.AgainPlays': WHATEVER THE INPUT: true; the input reads as it did. -/
def againPlaysSpec : ChangeSpec := { name := "againPlays", fn := fun _ => fun
  | [d1, d2, d3, d4, d5] => { results := [.lit (.bool true)], args := [d1, d2, d3, d4, d5] }
  | _ => none }
def againPlaysRow : OpenClaim := { program := "ytblajeildolloaagreat", sum := "62c0a7f55fd47dff214439c1603107f153b8b598050825eb5b4b06a004ab1683", func := "ordinate/ordinatelaw18.AgainPlays", spec := "againPlays", recurses := true, apart := false }
def AgainPlaysSaid : Prop := againPlaysRow.holds Tryz.pinned (OpenSpec.ofChange againPlaysSpec)

/-- ITS FALSE NEIGHBOUR: 'it returns false'. Refute it at one input. -/
def againPlaysWrong : ChangeSpec := { name := "againPlays", fn := fun _ => fun
  | [d1, d2, d3, d4, d5] => { results := [.lit (.bool false)], args := [d1, d2, d3, d4, d5] }
  | _ => none }
def AgainPlaysWrongFalsely : Prop := againPlaysRow.holds Tryz.pinned (OpenSpec.ofChange againPlaysWrong)

/-- 'ordinatelaw18.AgainStill': WHATEVER THE INPUT: true; the input reads as it did. -/
def againStillSpec : ChangeSpec := { name := "againStill", fn := fun _ => fun
  | [d1, d2, d3, d4, d5, d6] => { results := [.lit (.bool true)], args := [d1, d2, d3, d4, d5, d6] }
  | _ => none }
def againStillRow : OpenClaim := { program := "ytblajeildolloaagreat", sum := "62c0a7f55fd47dff214439c1603107f153b8b598050825eb5b4b06a004ab1683", func := "ordinate/ordinatelaw18.AgainStill", spec := "againStill", unfollowed := true, recurses := true, named := ["math/bits.divideError", "math/bits.overflowError"], apart := false }
def AgainStillSaid : Prop := againStillRow.holds Tryz.pinned (OpenSpec.ofChange againStillSpec)

/-- ITS FALSE NEIGHBOUR: 'it returns false'. Refute it at one input. -/
def againStillWrong : ChangeSpec := { name := "againStill", fn := fun _ => fun
  | [d1, d2, d3, d4, d5, d6] => { results := [.lit (.bool false)], args := [d1, d2, d3, d4, d5, d6] }
  | _ => none }
def AgainStillWrongFalsely : Prop := againStillRow.holds Tryz.pinned (OpenSpec.ofChange againStillWrong)

/-- 'ordinatelaw18.AgainTells': WHATEVER THE INPUT: true; the input reads as it did. -/
def againTellsSpec : ChangeSpec := { name := "againTells", fn := fun _ => fun
  | [d1, d2, d3, d4] => { results := [.lit (.bool true)], args := [d1, d2, d3, d4] }
  | _ => none }
def againTellsRow : OpenClaim := { program := "ytblajeildolloaagreat", sum := "62c0a7f55fd47dff214439c1603107f153b8b598050825eb5b4b06a004ab1683", func := "ordinate/ordinatelaw18.AgainTells", spec := "againTells", unfollowed := true, recurses := true, named := ["math/bits.divideError", "math/bits.overflowError"], apart := false }
def AgainTellsSaid : Prop := againTellsRow.holds Tryz.pinned (OpenSpec.ofChange againTellsSpec)

/-- ITS FALSE NEIGHBOUR: 'it returns false'. Refute it at one input. -/
def againTellsWrong : ChangeSpec := { name := "againTells", fn := fun _ => fun
  | [d1, d2, d3, d4] => { results := [.lit (.bool false)], args := [d1, d2, d3, d4] }
  | _ => none }
def AgainTellsWrongFalsely : Prop := againTellsRow.holds Tryz.pinned (OpenSpec.ofChange againTellsWrong)

/-- 'ordinatelaw18.AgainMoment': WHATEVER THE INPUT: true; the input reads as it did. -/
def againMomentSpec : ChangeSpec := { name := "againMoment", fn := fun _ => fun
  | [d1, d2, d3, d4, d5, d6, d7] => { results := [.lit (.bool true)], args := [d1, d2, d3, d4, d5, d6, d7] }
  | _ => none }
def againMomentRow : OpenClaim := { program := "ytblajeildolloaagreat", sum := "62c0a7f55fd47dff214439c1603107f153b8b598050825eb5b4b06a004ab1683", func := "ordinate/ordinatelaw18.AgainMoment", spec := "againMoment", unfollowed := true, recurses := true, named := ["math/bits.divideError", "math/bits.overflowError"], apart := false }
def AgainMomentSaid : Prop := againMomentRow.holds Tryz.pinned (OpenSpec.ofChange againMomentSpec)

/-- ITS FALSE NEIGHBOUR: 'it returns false'. Refute it at one input. -/
def againMomentWrong : ChangeSpec := { name := "againMoment", fn := fun _ => fun
  | [d1, d2, d3, d4, d5, d6, d7] => { results := [.lit (.bool false)], args := [d1, d2, d3, d4, d5, d6, d7] }
  | _ => none }
def AgainMomentWrongFalsely : Prop := againMomentRow.holds Tryz.pinned (OpenSpec.ofChange againMomentWrong)

/-- 'ordinatelaw25.QueryPlays': WHATEVER THE INPUT: true; the input reads as it did. -/
def queryPlaysSpec : ChangeSpec := { name := "queryPlays", fn := fun _ => fun
  | [d1, d2, d3, d4, d5, d6] => { results := [.lit (.bool true)], args := [d1, d2, d3, d4, d5, d6] }
  | _ => none }
def queryPlaysRow : OpenClaim := { program := "ytblajeildolloaagreat", sum := "62c0a7f55fd47dff214439c1603107f153b8b598050825eb5b4b06a004ab1683", func := "ordinate/ordinatelaw25.QueryPlays", spec := "queryPlays", unfollowed := true, recurses := true, named := ["math/bits.divideError", "math/bits.overflowError"], apart := false }
def QueryPlaysSaid : Prop := queryPlaysRow.holds Tryz.pinned (OpenSpec.ofChange queryPlaysSpec)

/-- ITS FALSE NEIGHBOUR: 'it returns false'. Refute it at one input. -/
def queryPlaysWrong : ChangeSpec := { name := "queryPlays", fn := fun _ => fun
  | [d1, d2, d3, d4, d5, d6] => { results := [.lit (.bool false)], args := [d1, d2, d3, d4, d5, d6] }
  | _ => none }
def QueryPlaysWrongFalsely : Prop := queryPlaysRow.holds Tryz.pinned (OpenSpec.ofChange queryPlaysWrong)

/-- 'ordinatelaw25.QueryAlone': WHATEVER THE INPUT: true; the input reads as it did. -/
def queryAloneSpec : ChangeSpec := { name := "queryAlone", fn := fun _ => fun
  | [d1, d2, d3, d4] => { results := [.lit (.bool true)], args := [d1, d2, d3, d4] }
  | _ => none }
def queryAloneRow : OpenClaim := { program := "ytblajeildolloaagreat", sum := "62c0a7f55fd47dff214439c1603107f153b8b598050825eb5b4b06a004ab1683", func := "ordinate/ordinatelaw25.QueryAlone", spec := "queryAlone", unfollowed := true, recurses := true, named := ["math/bits.divideError", "math/bits.overflowError"], apart := false }
def QueryAloneSaid : Prop := queryAloneRow.holds Tryz.pinned (OpenSpec.ofChange queryAloneSpec)

/-- ITS FALSE NEIGHBOUR: 'it returns false'. Refute it at one input. -/
def queryAloneWrong : ChangeSpec := { name := "queryAlone", fn := fun _ => fun
  | [d1, d2, d3, d4] => { results := [.lit (.bool false)], args := [d1, d2, d3, d4] }
  | _ => none }
def QueryAloneWrongFalsely : Prop := queryAloneRow.holds Tryz.pinned (OpenSpec.ofChange queryAloneWrong)

/-- 'ordinatelaw25.QueryMoment': WHATEVER THE INPUT: true; the input reads as it did. -/
def queryMomentSpec : ChangeSpec := { name := "queryMoment", fn := fun _ => fun
  | [d1, d2, d3, d4, d5, d6] => { results := [.lit (.bool true)], args := [d1, d2, d3, d4, d5, d6] }
  | _ => none }
def queryMomentRow : OpenClaim := { program := "ytblajeildolloaagreat", sum := "62c0a7f55fd47dff214439c1603107f153b8b598050825eb5b4b06a004ab1683", func := "ordinate/ordinatelaw25.QueryMoment", spec := "queryMoment", unfollowed := true, recurses := true, named := ["math/bits.divideError", "math/bits.overflowError"], apart := false }
def QueryMomentSaid : Prop := queryMomentRow.holds Tryz.pinned (OpenSpec.ofChange queryMomentSpec)

/-- ITS FALSE NEIGHBOUR: 'it returns false'. Refute it at one input. -/
def queryMomentWrong : ChangeSpec := { name := "queryMoment", fn := fun _ => fun
  | [d1, d2, d3, d4, d5, d6] => { results := [.lit (.bool false)], args := [d1, d2, d3, d4, d5, d6] }
  | _ => none }
def QueryMomentWrongFalsely : Prop := queryMomentRow.holds Tryz.pinned (OpenSpec.ofChange queryMomentWrong)

/-- 'ordinatelaw25.QueryEnds': WHATEVER THE INPUT: true; the input reads as it did. -/
def queryEndsSpec : ChangeSpec := { name := "queryEnds", fn := fun _ => fun
  | [d1, d2, d3, d4, d5] => { results := [.lit (.bool true)], args := [d1, d2, d3, d4, d5] }
  | _ => none }
def queryEndsRow : OpenClaim := { program := "ytblajeildolloaagreat", sum := "62c0a7f55fd47dff214439c1603107f153b8b598050825eb5b4b06a004ab1683", func := "ordinate/ordinatelaw25.QueryEnds", spec := "queryEnds", unfollowed := true, recurses := true, named := ["math/bits.divideError", "math/bits.overflowError"], apart := false }
def QueryEndsSaid : Prop := queryEndsRow.holds Tryz.pinned (OpenSpec.ofChange queryEndsSpec)

/-- ITS FALSE NEIGHBOUR: 'it returns false'. Refute it at one input. -/
def queryEndsWrong : ChangeSpec := { name := "queryEnds", fn := fun _ => fun
  | [d1, d2, d3, d4, d5] => { results := [.lit (.bool false)], args := [d1, d2, d3, d4, d5] }
  | _ => none }
def QueryEndsWrongFalsely : Prop := queryEndsRow.holds Tryz.pinned (OpenSpec.ofChange queryEndsWrong)

/- THE SECOND FORM. 'bulk': how many values and letters a reading holds, each counted each time it is reached (what is shared counts as often as it is met; a slice's spare places count too). A statement '..UptoSaid' is the law's where the arguments, and the package variables that the reading takes, are together of bulk at most 1048576: NARROWER than '..Said'. Prove '..Said' where nothing that the law and all that it calls make is longer than what came in: it says more and counts as full. Else prove '..UptoSaid'. A law counts once. -/
mutual
def uptoBulk {H : Type} : DataW H → Nat
  | .lit (.string bytes) => bytes.length + 1
  | .lit _ => 1
  | .nil => 1
  | .ptr d => uptoBulk d + 1
  | .slice elems spare => uptoBulkAll elems + uptoBulkAll spare + 1
  | .agg parts => uptoBulkAll parts + 1
  | .iface _ d => uptoBulk d + 1
  | .map entries => uptoBulkEntries entries + 1
  | .held _ => 1
def uptoBulkAll {H : Type} : List (DataW H) → Nat
  | [] => 0
  | d :: r => uptoBulk d + uptoBulkAll r
def uptoBulkEntries {H : Type} : List (Lit × DataW H) → Nat
  | [] => 0
  | x :: r => uptoBulkEntry x + uptoBulkEntries r
def uptoBulkEntry {H : Type} : Lit × DataW H → Nat
  | (.string bytes, d) => bytes.length + uptoBulk d + 1
  | (_, d) => uptoBulk d + 1
 end
def uptoSmall : (H : Type) → List (DataW H) → Bool := fun _ ds => decide (uptoBulkAll ds ≤ 1048576)
def OpenSpec.upto (s : _root_.Go.ChangeSpec) : _root_.Go.OpenSpec := { _root_.Go.OpenSpec.ofChange s with cond := some uptoSmall }

/-- 'ordinatelaw15.RoutePlays', WHERE WHAT IT READS IS OF BULK AT MOST 1048576: true; the input reads as it did. -/
def routePlaysUptoRow : OpenClaim := { program := "ytblajeildolloaagreat", sum := "62c0a7f55fd47dff214439c1603107f153b8b598050825eb5b4b06a004ab1683", func := "ordinate/ordinatelaw15.RoutePlays", spec := "routePlays", unfollowed := true, recurses := true, named := ["math/bits.divideError", "math/bits.overflowError"], apart := false, narrowed := true }
def RoutePlaysUptoSaid : Prop := routePlaysUptoRow.holds Tryz.pinned (OpenSpec.upto routePlaysSpec)

/-- 'ordinatelaw25.QueryKnown', WHERE WHAT IT READS IS OF BULK AT MOST 1048576: true; the input reads as it did. -/
def queryKnownUptoRow : OpenClaim := { program := "ytblajeildolloaagreat", sum := "62c0a7f55fd47dff214439c1603107f153b8b598050825eb5b4b06a004ab1683", func := "ordinate/ordinatelaw25.QueryKnown", spec := "queryKnown", unfollowed := true, recurses := true, named := ["math/bits.divideError", "math/bits.overflowError"], apart := false, narrowed := true }
def QueryKnownUptoSaid : Prop := queryKnownUptoRow.holds Tryz.pinned (OpenSpec.upto queryKnownSpec)

/-- 'ordinatelaw16.SeekPlays', WHERE WHAT IT READS IS OF BULK AT MOST 1048576: true; the input reads as it did. -/
def seekPlaysUptoRow : OpenClaim := { program := "ytblajeildolloaagreat", sum := "62c0a7f55fd47dff214439c1603107f153b8b598050825eb5b4b06a004ab1683", func := "ordinate/ordinatelaw16.SeekPlays", spec := "seekPlays", unfollowed := true, recurses := true, named := ["math/bits.divideError", "math/bits.overflowError"], apart := false, narrowed := true }
def SeekPlaysUptoSaid : Prop := seekPlaysUptoRow.holds Tryz.pinned (OpenSpec.upto seekPlaysSpec)

/-- 'ordinatelaw16.SeekMoment', WHERE WHAT IT READS IS OF BULK AT MOST 1048576: true; the input reads as it did. -/
def seekMomentUptoRow : OpenClaim := { program := "ytblajeildolloaagreat", sum := "62c0a7f55fd47dff214439c1603107f153b8b598050825eb5b4b06a004ab1683", func := "ordinate/ordinatelaw16.SeekMoment", spec := "seekMoment", unfollowed := true, recurses := true, named := ["math/bits.divideError", "math/bits.overflowError"], apart := false, narrowed := true }
def SeekMomentUptoSaid : Prop := seekMomentUptoRow.holds Tryz.pinned (OpenSpec.upto seekMomentSpec)

/-- 'ordinatelaw16.SeekAll', WHERE WHAT IT READS IS OF BULK AT MOST 1048576: true; the input reads as it did. -/
def seekAllUptoRow : OpenClaim := { program := "ytblajeildolloaagreat", sum := "62c0a7f55fd47dff214439c1603107f153b8b598050825eb5b4b06a004ab1683", func := "ordinate/ordinatelaw16.SeekAll", spec := "seekAll", unfollowed := true, recurses := true, named := ["math/bits.divideError", "math/bits.overflowError"], apart := false, narrowed := true }
def SeekAllUptoSaid : Prop := seekAllUptoRow.holds Tryz.pinned (OpenSpec.upto seekAllSpec)

/-- 'ordinatelaw17.WalkPlays', WHERE WHAT IT READS IS OF BULK AT MOST 1048576: true; the input reads as it did. -/
def walkPlaysUptoRow : OpenClaim := { program := "ytblajeildolloaagreat", sum := "62c0a7f55fd47dff214439c1603107f153b8b598050825eb5b4b06a004ab1683", func := "ordinate/ordinatelaw17.WalkPlays", spec := "walkPlays", unfollowed := true, recurses := true, named := ["math/bits.divideError", "math/bits.overflowError"], apart := false, narrowed := true }
def WalkPlaysUptoSaid : Prop := walkPlaysUptoRow.holds Tryz.pinned (OpenSpec.upto walkPlaysSpec)

/-- 'ordinatelaw17.WalkAll', WHERE WHAT IT READS IS OF BULK AT MOST 1048576: true; the input reads as it did. -/
def walkAllUptoRow : OpenClaim := { program := "ytblajeildolloaagreat", sum := "62c0a7f55fd47dff214439c1603107f153b8b598050825eb5b4b06a004ab1683", func := "ordinate/ordinatelaw17.WalkAll", spec := "walkAll", unfollowed := true, recurses := true, named := ["math/bits.divideError", "math/bits.overflowError"], apart := false, narrowed := true }
def WalkAllUptoSaid : Prop := walkAllUptoRow.holds Tryz.pinned (OpenSpec.upto walkAllSpec)

/-- 'ordinatelaw17.WalkValues', WHERE WHAT IT READS IS OF BULK AT MOST 1048576: true; the input reads as it did. -/
def walkValuesUptoRow : OpenClaim := { program := "ytblajeildolloaagreat", sum := "62c0a7f55fd47dff214439c1603107f153b8b598050825eb5b4b06a004ab1683", func := "ordinate/ordinatelaw17.WalkValues", spec := "walkValues", unfollowed := true, recurses := true, named := ["math/bits.divideError", "math/bits.overflowError"], apart := false, narrowed := true }
def WalkValuesUptoSaid : Prop := walkValuesUptoRow.holds Tryz.pinned (OpenSpec.upto walkValuesSpec)

/-- 'ordinatelaw17.WalkOrder', WHERE WHAT IT READS IS OF BULK AT MOST 1048576: true; the input reads as it did. -/
def walkOrderUptoRow : OpenClaim := { program := "ytblajeildolloaagreat", sum := "62c0a7f55fd47dff214439c1603107f153b8b598050825eb5b4b06a004ab1683", func := "ordinate/ordinatelaw17.WalkOrder", spec := "walkOrder", unfollowed := true, recurses := true, named := ["math/bits.divideError", "math/bits.overflowError"], apart := false, narrowed := true }
def WalkOrderUptoSaid : Prop := walkOrderUptoRow.holds Tryz.pinned (OpenSpec.upto walkOrderSpec)

/-- 'ordinatelaw17.WalkSpots', WHERE WHAT IT READS IS OF BULK AT MOST 1048576: true; the input reads as it did. -/
def walkSpotsUptoRow : OpenClaim := { program := "ytblajeildolloaagreat", sum := "62c0a7f55fd47dff214439c1603107f153b8b598050825eb5b4b06a004ab1683", func := "ordinate/ordinatelaw17.WalkSpots", spec := "walkSpots", unfollowed := true, recurses := true, named := ["math/bits.divideError", "math/bits.overflowError"], apart := false, narrowed := true }
def WalkSpotsUptoSaid : Prop := walkSpotsUptoRow.holds Tryz.pinned (OpenSpec.upto walkSpotsSpec)

/-- 'ordinatelaw18.AgainPlays', WHERE WHAT IT READS IS OF BULK AT MOST 1048576: true; the input reads as it did. -/
def againPlaysUptoRow : OpenClaim := { program := "ytblajeildolloaagreat", sum := "62c0a7f55fd47dff214439c1603107f153b8b598050825eb5b4b06a004ab1683", func := "ordinate/ordinatelaw18.AgainPlays", spec := "againPlays", recurses := true, apart := false, narrowed := true }
def AgainPlaysUptoSaid : Prop := againPlaysUptoRow.holds Tryz.pinned (OpenSpec.upto againPlaysSpec)

/-- 'ordinatelaw18.AgainStill', WHERE WHAT IT READS IS OF BULK AT MOST 1048576: true; the input reads as it did. -/
def againStillUptoRow : OpenClaim := { program := "ytblajeildolloaagreat", sum := "62c0a7f55fd47dff214439c1603107f153b8b598050825eb5b4b06a004ab1683", func := "ordinate/ordinatelaw18.AgainStill", spec := "againStill", unfollowed := true, recurses := true, named := ["math/bits.divideError", "math/bits.overflowError"], apart := false, narrowed := true }
def AgainStillUptoSaid : Prop := againStillUptoRow.holds Tryz.pinned (OpenSpec.upto againStillSpec)

/-- 'ordinatelaw18.AgainTells', WHERE WHAT IT READS IS OF BULK AT MOST 1048576: true; the input reads as it did. -/
def againTellsUptoRow : OpenClaim := { program := "ytblajeildolloaagreat", sum := "62c0a7f55fd47dff214439c1603107f153b8b598050825eb5b4b06a004ab1683", func := "ordinate/ordinatelaw18.AgainTells", spec := "againTells", unfollowed := true, recurses := true, named := ["math/bits.divideError", "math/bits.overflowError"], apart := false, narrowed := true }
def AgainTellsUptoSaid : Prop := againTellsUptoRow.holds Tryz.pinned (OpenSpec.upto againTellsSpec)

/-- 'ordinatelaw18.AgainMoment', WHERE WHAT IT READS IS OF BULK AT MOST 1048576: true; the input reads as it did. -/
def againMomentUptoRow : OpenClaim := { program := "ytblajeildolloaagreat", sum := "62c0a7f55fd47dff214439c1603107f153b8b598050825eb5b4b06a004ab1683", func := "ordinate/ordinatelaw18.AgainMoment", spec := "againMoment", unfollowed := true, recurses := true, named := ["math/bits.divideError", "math/bits.overflowError"], apart := false, narrowed := true }
def AgainMomentUptoSaid : Prop := againMomentUptoRow.holds Tryz.pinned (OpenSpec.upto againMomentSpec)

/-- 'ordinatelaw25.QueryPlays', WHERE WHAT IT READS IS OF BULK AT MOST 1048576: true; the input reads as it did. -/
def queryPlaysUptoRow : OpenClaim := { program := "ytblajeildolloaagreat", sum := "62c0a7f55fd47dff214439c1603107f153b8b598050825eb5b4b06a004ab1683", func := "ordinate/ordinatelaw25.QueryPlays", spec := "queryPlays", unfollowed := true, recurses := true, named := ["math/bits.divideError", "math/bits.overflowError"], apart := false, narrowed := true }
def QueryPlaysUptoSaid : Prop := queryPlaysUptoRow.holds Tryz.pinned (OpenSpec.upto queryPlaysSpec)

/-- 'ordinatelaw25.QueryAlone', WHERE WHAT IT READS IS OF BULK AT MOST 1048576: true; the input reads as it did. -/
def queryAloneUptoRow : OpenClaim := { program := "ytblajeildolloaagreat", sum := "62c0a7f55fd47dff214439c1603107f153b8b598050825eb5b4b06a004ab1683", func := "ordinate/ordinatelaw25.QueryAlone", spec := "queryAlone", unfollowed := true, recurses := true, named := ["math/bits.divideError", "math/bits.overflowError"], apart := false, narrowed := true }
def QueryAloneUptoSaid : Prop := queryAloneUptoRow.holds Tryz.pinned (OpenSpec.upto queryAloneSpec)

/-- 'ordinatelaw25.QueryMoment', WHERE WHAT IT READS IS OF BULK AT MOST 1048576: true; the input reads as it did. -/
def queryMomentUptoRow : OpenClaim := { program := "ytblajeildolloaagreat", sum := "62c0a7f55fd47dff214439c1603107f153b8b598050825eb5b4b06a004ab1683", func := "ordinate/ordinatelaw25.QueryMoment", spec := "queryMoment", unfollowed := true, recurses := true, named := ["math/bits.divideError", "math/bits.overflowError"], apart := false, narrowed := true }
def QueryMomentUptoSaid : Prop := queryMomentUptoRow.holds Tryz.pinned (OpenSpec.upto queryMomentSpec)

/-- 'ordinatelaw25.QueryEnds', WHERE WHAT IT READS IS OF BULK AT MOST 1048576: true; the input reads as it did. -/
def queryEndsUptoRow : OpenClaim := { program := "ytblajeildolloaagreat", sum := "62c0a7f55fd47dff214439c1603107f153b8b598050825eb5b4b06a004ab1683", func := "ordinate/ordinatelaw25.QueryEnds", spec := "queryEnds", unfollowed := true, recurses := true, named := ["math/bits.divideError", "math/bits.overflowError"], apart := false, narrowed := true }
def QueryEndsUptoSaid : Prop := queryEndsUptoRow.holds Tryz.pinned (OpenSpec.upto queryEndsSpec)

end Rows
end Go.Proofs.YtblajeildolloaaGreat
