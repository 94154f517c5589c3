/-
  No cell of these rows narrows 'for every input' (looked for: loops, veiled, ifaces, maps, wideKeys, modest, calm, conditions, laid).
  DERIVED. THE GIVEN ROWS OF THIS SEAT. 12 by the template 'for every input the law returns true; each argument reads behind the call as it read before'; 0 by the template 'total and deterministic' (their statements: YtjlhngffkmbdmaaTotals.lean).
  GIVEN WITH THE SEED: the statements are not yours to turn. If you find one false, say at which input.
  Laid BY PROGRAM, IN A SANDBOX (cutbox-rows.mjs): the forced cells as the released guide's own fill.sh prints them over the translation a4d00368f2d512c0… (all of the seat's roots in one cut). By AI agents, Wed Nov 11 2026. No macro, syntax, notation, axiom, sorry.
-/
import Derived.Test.YtjlhngffkmbdmaaChecked
import GoSem.Claim
import GoSem.ClaimJoined
import GoSem.ClaimMapViews
import Derived.JoinedTies
import Derived.KernelRfl
namespace Go.Proofs.Ytjlhngffkmbdmaa
/- THE CELL 'sum', in the pinned program and in every row, IS THE sha256 OF THE DUMP (.gsa) THAT YtjlhngffkmbdmaaProg.lean LOADS. Nothing in Lean hashes anything: it is a label: what it is worth is what the hold of that sum in a sandbox is worth. -/
noncomputable def Try.pinned : Pinned := { name := "ytjlhngffkmbdmaa", sum := "a4d00368f2d512c016c8f98b66035ad444301f26001f2a65dcd861d6e2ec9a4b", checked := Try.checked }
namespace Rows
def none {H : Type} : Left H := { results := [], args := [] }

/-- 'ordinatelaw29.BoundKnown': WHATEVER THE INPUT: true; the input reads as it did. -/
def boundKnownSpec : ChangeSpec := { name := "boundKnown", fn := fun _ => fun
  | [] => { results := [.lit (.bool true)], args := [] }
  | _ => none }
def boundKnownRow : OpenClaim := { program := "ytjlhngffkmbdmaa", sum := "a4d00368f2d512c016c8f98b66035ad444301f26001f2a65dcd861d6e2ec9a4b", func := "ordinate/ordinatelaw29.BoundKnown", spec := "boundKnown", apart := false }
def BoundKnownSaid : Prop := boundKnownRow.holds Try.pinned (OpenSpec.ofChange boundKnownSpec)

/-- ITS FALSE NEIGHBOUR: 'it returns false'. Refute it at one input. -/
def boundKnownWrong : ChangeSpec := { name := "boundKnown", fn := fun _ => fun
  | [] => { results := [.lit (.bool false)], args := [] }
  | _ => none }
def BoundKnownWrongFalsely : Prop := boundKnownRow.holds Try.pinned (OpenSpec.ofChange boundKnownWrong)

/-- 'ordinatelaw29.BoundTells': WHATEVER THE INPUT: true; the input reads as it did. -/
def boundTellsSpec : ChangeSpec := { name := "boundTells", fn := fun _ => fun
  | [d1, d2, d3] => { results := [.lit (.bool true)], args := [d1, d2, d3] }
  | _ => none }
def boundTellsRow : OpenClaim := { program := "ytjlhngffkmbdmaa", sum := "a4d00368f2d512c016c8f98b66035ad444301f26001f2a65dcd861d6e2ec9a4b", func := "ordinate/ordinatelaw29.BoundTells", spec := "boundTells", apart := false }
def BoundTellsSaid : Prop := boundTellsRow.holds Try.pinned (OpenSpec.ofChange boundTellsSpec)

/-- ITS FALSE NEIGHBOUR: 'it returns false'. Refute it at one input. -/
def boundTellsWrong : ChangeSpec := { name := "boundTells", fn := fun _ => fun
  | [d1, d2, d3] => { results := [.lit (.bool false)], args := [d1, d2, d3] }
  | _ => none }
def BoundTellsWrongFalsely : Prop := boundTellsRow.holds Try.pinned (OpenSpec.ofChange boundTellsWrong)

/-- 'ordinatelaw29.BoundRises': WHATEVER THE INPUT: true; the input reads as it did. -/
def boundRisesSpec : ChangeSpec := { name := "boundRises", fn := fun _ => fun
  | [d1, d2, d3, d4, d5, d6] => { results := [.lit (.bool true)], args := [d1, d2, d3, d4, d5, d6] }
  | _ => none }
def boundRisesRow : OpenClaim := { program := "ytjlhngffkmbdmaa", sum := "a4d00368f2d512c016c8f98b66035ad444301f26001f2a65dcd861d6e2ec9a4b", func := "ordinate/ordinatelaw29.BoundRises", spec := "boundRises", apart := false }
def BoundRisesSaid : Prop := boundRisesRow.holds Try.pinned (OpenSpec.ofChange boundRisesSpec)

/-- ITS FALSE NEIGHBOUR: 'it returns false'. Refute it at one input. -/
def boundRisesWrong : ChangeSpec := { name := "boundRises", fn := fun _ => fun
  | [d1, d2, d3, d4, d5, d6] => { results := [.lit (.bool false)], args := [d1, d2, d3, d4, d5, d6] }
  | _ => none }
def BoundRisesWrongFalsely : Prop := boundRisesRow.holds Try.pinned (OpenSpec.ofChange boundRisesWrong)

/-- 'ordinatelaw29.BoundRoom': WHATEVER THE INPUT: true; the input reads as it did. -/
def boundRoomSpec : ChangeSpec := { name := "boundRoom", fn := fun _ => fun
  | [d1, d2, d3] => { results := [.lit (.bool true)], args := [d1, d2, d3] }
  | _ => none }
def boundRoomRow : OpenClaim := { program := "ytjlhngffkmbdmaa", sum := "a4d00368f2d512c016c8f98b66035ad444301f26001f2a65dcd861d6e2ec9a4b", func := "ordinate/ordinatelaw29.BoundRoom", spec := "boundRoom", apart := false }
def BoundRoomSaid : Prop := boundRoomRow.holds Try.pinned (OpenSpec.ofChange boundRoomSpec)

/-- ITS FALSE NEIGHBOUR: 'it returns false'. Refute it at one input. -/
def boundRoomWrong : ChangeSpec := { name := "boundRoom", fn := fun _ => fun
  | [d1, d2, d3] => { results := [.lit (.bool false)], args := [d1, d2, d3] }
  | _ => none }
def BoundRoomWrongFalsely : Prop := boundRoomRow.holds Try.pinned (OpenSpec.ofChange boundRoomWrong)

/-- 'ordinatelaw5.PartKnown': WHATEVER THE INPUT: true; the input reads as it did. -/
def partKnownSpec : ChangeSpec := { name := "partKnown", fn := fun _ => fun
  | [] => { results := [.lit (.bool true)], args := [] }
  | _ => none }
def partKnownRow : OpenClaim := { program := "ytjlhngffkmbdmaa", sum := "a4d00368f2d512c016c8f98b66035ad444301f26001f2a65dcd861d6e2ec9a4b", func := "ordinate/ordinatelaw5.PartKnown", spec := "partKnown", recurses := true, apart := false }
def PartKnownSaid : Prop := partKnownRow.holds Try.pinned (OpenSpec.ofChange partKnownSpec)

/-- ITS FALSE NEIGHBOUR: 'it returns false'. Refute it at one input. -/
def partKnownWrong : ChangeSpec := { name := "partKnown", fn := fun _ => fun
  | [] => { results := [.lit (.bool false)], args := [] }
  | _ => none }
def PartKnownWrongFalsely : Prop := partKnownRow.holds Try.pinned (OpenSpec.ofChange partKnownWrong)

/-- 'ordinatelaw5.PartTells': WHATEVER THE INPUT: true; the input reads as it did. -/
def partTellsSpec : ChangeSpec := { name := "partTells", fn := fun _ => fun
  | [d1, d2, d3] => { results := [.lit (.bool true)], args := [d1, d2, d3] }
  | _ => none }
def partTellsRow : OpenClaim := { program := "ytjlhngffkmbdmaa", sum := "a4d00368f2d512c016c8f98b66035ad444301f26001f2a65dcd861d6e2ec9a4b", func := "ordinate/ordinatelaw5.PartTells", spec := "partTells", recurses := true, apart := false }
def PartTellsSaid : Prop := partTellsRow.holds Try.pinned (OpenSpec.ofChange partTellsSpec)

/-- ITS FALSE NEIGHBOUR: 'it returns false'. Refute it at one input. -/
def partTellsWrong : ChangeSpec := { name := "partTells", fn := fun _ => fun
  | [d1, d2, d3] => { results := [.lit (.bool false)], args := [d1, d2, d3] }
  | _ => none }
def PartTellsWrongFalsely : Prop := partTellsRow.holds Try.pinned (OpenSpec.ofChange partTellsWrong)

/-- 'ordinatelaw5.PartSums': WHATEVER THE INPUT: true; the input reads as it did. -/
def partSumsSpec : ChangeSpec := { name := "partSums", fn := fun _ => fun
  | [d] => { results := [.lit (.bool true)], args := [d] }
  | _ => none }
def partSumsRow : OpenClaim := { program := "ytjlhngffkmbdmaa", sum := "a4d00368f2d512c016c8f98b66035ad444301f26001f2a65dcd861d6e2ec9a4b", func := "ordinate/ordinatelaw5.PartSums", spec := "partSums", recurses := true, apart := false }
def PartSumsSaid : Prop := partSumsRow.holds Try.pinned (OpenSpec.ofChange partSumsSpec)

/-- ITS FALSE NEIGHBOUR: 'it returns false'. Refute it at one input. -/
def partSumsWrong : ChangeSpec := { name := "partSums", fn := fun _ => fun
  | [d] => { results := [.lit (.bool false)], args := [d] }
  | _ => none }
def PartSumsWrongFalsely : Prop := partSumsRow.holds Try.pinned (OpenSpec.ofChange partSumsWrong)

/-- 'ordinatelaw5.PartRoot': WHATEVER THE INPUT: true; the input reads as it did. -/
def partRootSpec : ChangeSpec := { name := "partRoot", fn := fun _ => fun
  | [d] => { results := [.lit (.bool true)], args := [d] }
  | _ => none }
def partRootRow : OpenClaim := { program := "ytjlhngffkmbdmaa", sum := "a4d00368f2d512c016c8f98b66035ad444301f26001f2a65dcd861d6e2ec9a4b", func := "ordinate/ordinatelaw5.PartRoot", spec := "partRoot", recurses := true, apart := false }
def PartRootSaid : Prop := partRootRow.holds Try.pinned (OpenSpec.ofChange partRootSpec)

/-- ITS FALSE NEIGHBOUR: 'it returns false'. Refute it at one input. -/
def partRootWrong : ChangeSpec := { name := "partRoot", fn := fun _ => fun
  | [d] => { results := [.lit (.bool false)], args := [d] }
  | _ => none }
def PartRootWrongFalsely : Prop := partRootRow.holds Try.pinned (OpenSpec.ofChange partRootWrong)

/-- 'ordinatelaw5.PartDeep': WHATEVER THE INPUT: true; the input reads as it did. -/
def partDeepSpec : ChangeSpec := { name := "partDeep", fn := fun _ => fun
  | [d] => { results := [.lit (.bool true)], args := [d] }
  | _ => none }
def partDeepRow : OpenClaim := { program := "ytjlhngffkmbdmaa", sum := "a4d00368f2d512c016c8f98b66035ad444301f26001f2a65dcd861d6e2ec9a4b", func := "ordinate/ordinatelaw5.PartDeep", spec := "partDeep", recurses := true, apart := false }
def PartDeepSaid : Prop := partDeepRow.holds Try.pinned (OpenSpec.ofChange partDeepSpec)

/-- ITS FALSE NEIGHBOUR: 'it returns false'. Refute it at one input. -/
def partDeepWrong : ChangeSpec := { name := "partDeep", fn := fun _ => fun
  | [d] => { results := [.lit (.bool false)], args := [d] }
  | _ => none }
def PartDeepWrongFalsely : Prop := partDeepRow.holds Try.pinned (OpenSpec.ofChange partDeepWrong)

/-- 'ordinatelaw5.PartShallow': WHATEVER THE INPUT: true; the input reads as it did. -/
def partShallowSpec : ChangeSpec := { name := "partShallow", fn := fun _ => fun
  | [d] => { results := [.lit (.bool true)], args := [d] }
  | _ => none }
def partShallowRow : OpenClaim := { program := "ytjlhngffkmbdmaa", sum := "a4d00368f2d512c016c8f98b66035ad444301f26001f2a65dcd861d6e2ec9a4b", func := "ordinate/ordinatelaw5.PartShallow", spec := "partShallow", recurses := true, apart := false }
def PartShallowSaid : Prop := partShallowRow.holds Try.pinned (OpenSpec.ofChange partShallowSpec)

/-- ITS FALSE NEIGHBOUR: 'it returns false'. Refute it at one input. -/
def partShallowWrong : ChangeSpec := { name := "partShallow", fn := fun _ => fun
  | [d] => { results := [.lit (.bool false)], args := [d] }
  | _ => none }
def PartShallowWrongFalsely : Prop := partShallowRow.holds Try.pinned (OpenSpec.ofChange partShallowWrong)

/-- 'ordinatelaw5.PartLimit': WHATEVER THE INPUT: true; the input reads as it did. -/
def partLimitSpec : ChangeSpec := { name := "partLimit", fn := fun _ => fun
  | [d1, d2] => { results := [.lit (.bool true)], args := [d1, d2] }
  | _ => none }
def partLimitRow : OpenClaim := { program := "ytjlhngffkmbdmaa", sum := "a4d00368f2d512c016c8f98b66035ad444301f26001f2a65dcd861d6e2ec9a4b", func := "ordinate/ordinatelaw5.PartLimit", spec := "partLimit", recurses := true, apart := false }
def PartLimitSaid : Prop := partLimitRow.holds Try.pinned (OpenSpec.ofChange partLimitSpec)

/-- ITS FALSE NEIGHBOUR: 'it returns false'. Refute it at one input. -/
def partLimitWrong : ChangeSpec := { name := "partLimit", fn := fun _ => fun
  | [d1, d2] => { results := [.lit (.bool false)], args := [d1, d2] }
  | _ => none }
def PartLimitWrongFalsely : Prop := partLimitRow.holds Try.pinned (OpenSpec.ofChange partLimitWrong)

/-- 'ordinatelaw29.BoundDeep': WHATEVER THE INPUT: true; the input reads as it did. -/
def boundDeepSpec : ChangeSpec := { name := "boundDeep", fn := fun _ => fun
  | [d] => { results := [.lit (.bool true)], args := [d] }
  | _ => none }
def boundDeepRow : OpenClaim := { program := "ytjlhngffkmbdmaa", sum := "a4d00368f2d512c016c8f98b66035ad444301f26001f2a65dcd861d6e2ec9a4b", func := "ordinate/ordinatelaw29.BoundDeep", spec := "boundDeep", recurses := true, apart := false }
def BoundDeepSaid : Prop := boundDeepRow.holds Try.pinned (OpenSpec.ofChange boundDeepSpec)

/-- ITS FALSE NEIGHBOUR: 'it returns false'. Refute it at one input. -/
def boundDeepWrong : ChangeSpec := { name := "boundDeep", fn := fun _ => fun
  | [d] => { results := [.lit (.bool false)], args := [d] }
  | _ => none }
def BoundDeepWrongFalsely : Prop := boundDeepRow.holds Try.pinned (OpenSpec.ofChange boundDeepWrong)

/- THE SECOND FORM. 'bulk': how many values and letters a reading holds, each counted each time it is reached (what is shared counts as often as it is met; a slice's spare places count too). A statement '..UptoSaid' is the law's where the arguments, and the package variables that the reading takes, are together of bulk at most 1048576: NARROWER than '..Said'. Prove '..Said' where nothing that the law and all that it calls make is longer than what came in: it says more and counts as full. Else prove '..UptoSaid'. A law counts once. -/
mutual
def uptoBulk {H : Type} : DataW H → Nat
  | .lit (.string bytes) => bytes.length + 1
  | .lit _ => 1
  | .nil => 1
  | .ptr d => uptoBulk d + 1
  | .slice elems spare => uptoBulkAll elems + uptoBulkAll spare + 1
  | .agg parts => uptoBulkAll parts + 1
  | .iface _ d => uptoBulk d + 1
  | .map entries => uptoBulkEntries entries + 1
  | .held _ => 1
def uptoBulkAll {H : Type} : List (DataW H) → Nat
  | [] => 0
  | d :: r => uptoBulk d + uptoBulkAll r
def uptoBulkEntries {H : Type} : List (Lit × DataW H) → Nat
  | [] => 0
  | x :: r => uptoBulkEntry x + uptoBulkEntries r
def uptoBulkEntry {H : Type} : Lit × DataW H → Nat
  | (.string bytes, d) => bytes.length + uptoBulk d + 1
  | (_, d) => uptoBulk d + 1
 end
def uptoSmall : (H : Type) → List (DataW H) → Bool := fun _ ds => decide (uptoBulkAll ds ≤ 1048576)
def OpenSpec.upto (s : _root_.Go.ChangeSpec) : _root_.Go.OpenSpec := { _root_.Go.OpenSpec.ofChange s with cond := some uptoSmall }

/-- 'ordinatelaw29.BoundKnown', WHERE WHAT IT READS IS OF BULK AT MOST 1048576: true; the input reads as it did. -/
def boundKnownUptoRow : OpenClaim := { program := "ytjlhngffkmbdmaa", sum := "a4d00368f2d512c016c8f98b66035ad444301f26001f2a65dcd861d6e2ec9a4b", func := "ordinate/ordinatelaw29.BoundKnown", spec := "boundKnown", apart := false, narrowed := true }
def BoundKnownUptoSaid : Prop := boundKnownUptoRow.holds Try.pinned (OpenSpec.upto boundKnownSpec)

/-- 'ordinatelaw29.BoundTells', WHERE WHAT IT READS IS OF BULK AT MOST 1048576: true; the input reads as it did. -/
def boundTellsUptoRow : OpenClaim := { program := "ytjlhngffkmbdmaa", sum := "a4d00368f2d512c016c8f98b66035ad444301f26001f2a65dcd861d6e2ec9a4b", func := "ordinate/ordinatelaw29.BoundTells", spec := "boundTells", apart := false, narrowed := true }
def BoundTellsUptoSaid : Prop := boundTellsUptoRow.holds Try.pinned (OpenSpec.upto boundTellsSpec)

/-- 'ordinatelaw29.BoundRises', WHERE WHAT IT READS IS OF BULK AT MOST 1048576: true; the input reads as it did. -/
def boundRisesUptoRow : OpenClaim := { program := "ytjlhngffkmbdmaa", sum := "a4d00368f2d512c016c8f98b66035ad444301f26001f2a65dcd861d6e2ec9a4b", func := "ordinate/ordinatelaw29.BoundRises", spec := "boundRises", apart := false, narrowed := true }
def BoundRisesUptoSaid : Prop := boundRisesUptoRow.holds Try.pinned (OpenSpec.upto boundRisesSpec)

/-- 'ordinatelaw29.BoundRoom', WHERE WHAT IT READS IS OF BULK AT MOST 1048576: true; the input reads as it did. -/
def boundRoomUptoRow : OpenClaim := { program := "ytjlhngffkmbdmaa", sum := "a4d00368f2d512c016c8f98b66035ad444301f26001f2a65dcd861d6e2ec9a4b", func := "ordinate/ordinatelaw29.BoundRoom", spec := "boundRoom", apart := false, narrowed := true }
def BoundRoomUptoSaid : Prop := boundRoomUptoRow.holds Try.pinned (OpenSpec.upto boundRoomSpec)

/-- 'ordinatelaw5.PartKnown', WHERE WHAT IT READS IS OF BULK AT MOST 1048576: true; the input reads as it did. -/
def partKnownUptoRow : OpenClaim := { program := "ytjlhngffkmbdmaa", sum := "a4d00368f2d512c016c8f98b66035ad444301f26001f2a65dcd861d6e2ec9a4b", func := "ordinate/ordinatelaw5.PartKnown", spec := "partKnown", recurses := true, apart := false, narrowed := true }
def PartKnownUptoSaid : Prop := partKnownUptoRow.holds Try.pinned (OpenSpec.upto partKnownSpec)

/-- 'ordinatelaw5.PartTells', WHERE WHAT IT READS IS OF BULK AT MOST 1048576: true; the input reads as it did. -/
def partTellsUptoRow : OpenClaim := { program := "ytjlhngffkmbdmaa", sum := "a4d00368f2d512c016c8f98b66035ad444301f26001f2a65dcd861d6e2ec9a4b", func := "ordinate/ordinatelaw5.PartTells", spec := "partTells", recurses := true, apart := false, narrowed := true }
def PartTellsUptoSaid : Prop := partTellsUptoRow.holds Try.pinned (OpenSpec.upto partTellsSpec)

/-- 'ordinatelaw5.PartSums', WHERE WHAT IT READS IS OF BULK AT MOST 1048576: true; the input reads as it did. -/
def partSumsUptoRow : OpenClaim := { program := "ytjlhngffkmbdmaa", sum := "a4d00368f2d512c016c8f98b66035ad444301f26001f2a65dcd861d6e2ec9a4b", func := "ordinate/ordinatelaw5.PartSums", spec := "partSums", recurses := true, apart := false, narrowed := true }
def PartSumsUptoSaid : Prop := partSumsUptoRow.holds Try.pinned (OpenSpec.upto partSumsSpec)

/-- 'ordinatelaw5.PartRoot', WHERE WHAT IT READS IS OF BULK AT MOST 1048576: true; the input reads as it did. -/
def partRootUptoRow : OpenClaim := { program := "ytjlhngffkmbdmaa", sum := "a4d00368f2d512c016c8f98b66035ad444301f26001f2a65dcd861d6e2ec9a4b", func := "ordinate/ordinatelaw5.PartRoot", spec := "partRoot", recurses := true, apart := false, narrowed := true }
def PartRootUptoSaid : Prop := partRootUptoRow.holds Try.pinned (OpenSpec.upto partRootSpec)

/-- 'ordinatelaw5.PartDeep', WHERE WHAT IT READS IS OF BULK AT MOST 1048576: true; the input reads as it did. -/
def partDeepUptoRow : OpenClaim := { program := "ytjlhngffkmbdmaa", sum := "a4d00368f2d512c016c8f98b66035ad444301f26001f2a65dcd861d6e2ec9a4b", func := "ordinate/ordinatelaw5.PartDeep", spec := "partDeep", recurses := true, apart := false, narrowed := true }
def PartDeepUptoSaid : Prop := partDeepUptoRow.holds Try.pinned (OpenSpec.upto partDeepSpec)

/-- 'ordinatelaw5.PartShallow', WHERE WHAT IT READS IS OF BULK AT MOST 1048576: true; the input reads as it did. -/
def partShallowUptoRow : OpenClaim := { program := "ytjlhngffkmbdmaa", sum := "a4d00368f2d512c016c8f98b66035ad444301f26001f2a65dcd861d6e2ec9a4b", func := "ordinate/ordinatelaw5.PartShallow", spec := "partShallow", recurses := true, apart := false, narrowed := true }
def PartShallowUptoSaid : Prop := partShallowUptoRow.holds Try.pinned (OpenSpec.upto partShallowSpec)

/-- 'ordinatelaw5.PartLimit', WHERE WHAT IT READS IS OF BULK AT MOST 1048576: true; the input reads as it did. -/
def partLimitUptoRow : OpenClaim := { program := "ytjlhngffkmbdmaa", sum := "a4d00368f2d512c016c8f98b66035ad444301f26001f2a65dcd861d6e2ec9a4b", func := "ordinate/ordinatelaw5.PartLimit", spec := "partLimit", recurses := true, apart := false, narrowed := true }
def PartLimitUptoSaid : Prop := partLimitUptoRow.holds Try.pinned (OpenSpec.upto partLimitSpec)

/-- 'ordinatelaw29.BoundDeep', WHERE WHAT IT READS IS OF BULK AT MOST 1048576: true; the input reads as it did. -/
def boundDeepUptoRow : OpenClaim := { program := "ytjlhngffkmbdmaa", sum := "a4d00368f2d512c016c8f98b66035ad444301f26001f2a65dcd861d6e2ec9a4b", func := "ordinate/ordinatelaw29.BoundDeep", spec := "boundDeep", recurses := true, apart := false, narrowed := true }
def BoundDeepUptoSaid : Prop := boundDeepUptoRow.holds Try.pinned (OpenSpec.upto boundDeepSpec)

end Rows
end Go.Proofs.Ytjlhngffkmbdmaa
