/-
  No cell of these rows narrows 'for every input' (looked for: loops, veiled, ifaces, maps, wideKeys, modest, calm, conditions, laid).
  DERIVED. THE GIVEN ROWS OF THIS SEAT. 12 by the template 'for every input the law returns true; each argument reads behind the call as it read before'; 0 by the template 'total and deterministic' (their statements: YtkfgnacbifiadaaTotals.lean).
  GIVEN WITH THE SEED: the statements are not yours to turn. If you find one false, say at which input.
  Laid BY PROGRAM, IN A SANDBOX (cutbox-rows.mjs): the forced cells as the released guide's own fill.sh prints them over the translation 07e89a49ebb67b3a… (all of the seat's roots in one cut). By AI agents, Wed Nov 11 2026. No macro, syntax, notation, axiom, sorry.
-/
import Derived.Test.YtkfgnacbifiadaaChecked
import GoSem.Claim
import GoSem.ClaimJoined
import GoSem.ClaimMapViews
import Derived.JoinedTies
import Derived.KernelRfl
namespace Go.Proofs.Ytkfgnacbifiadaa
/- THE CELL 'sum', in the pinned program and in every row, IS THE sha256 OF THE DUMP (.gsa) THAT YtkfgnacbifiadaaProg.lean LOADS. Nothing in Lean hashes anything: it is a label: what it is worth is what the hold of that sum in a sandbox is worth. -/
noncomputable def Try.pinned : Pinned := { name := "ytkfgnacbifiadaa", sum := "07e89a49ebb67b3adddbc6cad43a6e7e1552603d10d30f4c181e1f67fdf76126", checked := Try.checked }
namespace Rows
def none {H : Type} : Left H := { results := [], args := [] }

/-- 'ordinatelaw2.SpanKnown': WHATEVER THE INPUT: true; the input reads as it did. -/
def spanKnownSpec : ChangeSpec := { name := "spanKnown", fn := fun _ => fun
  | [] => { results := [.lit (.bool true)], args := [] }
  | _ => none }
def spanKnownRow : OpenClaim := { program := "ytkfgnacbifiadaa", sum := "07e89a49ebb67b3adddbc6cad43a6e7e1552603d10d30f4c181e1f67fdf76126", func := "ordinate/ordinatelaw2.SpanKnown", spec := "spanKnown", named := ["math/bits.divideError", "math/bits.overflowError"], apart := false }
def SpanKnownSaid : Prop := spanKnownRow.holds Try.pinned (OpenSpec.ofChange spanKnownSpec)

/-- ITS FALSE NEIGHBOUR: 'it returns false'. Refute it at one input. -/
def spanKnownWrong : ChangeSpec := { name := "spanKnown", fn := fun _ => fun
  | [] => { results := [.lit (.bool false)], args := [] }
  | _ => none }
def SpanKnownWrongFalsely : Prop := spanKnownRow.holds Try.pinned (OpenSpec.ofChange spanKnownWrong)

/-- 'ordinatelaw2.SpanTells': WHATEVER THE INPUT: true; the input reads as it did. -/
def spanTellsSpec : ChangeSpec := { name := "spanTells", fn := fun _ => fun
  | [d1, d2, d3, d4, d5, d6] => { results := [.lit (.bool true)], args := [d1, d2, d3, d4, d5, d6] }
  | _ => none }
def spanTellsRow : OpenClaim := { program := "ytkfgnacbifiadaa", sum := "07e89a49ebb67b3adddbc6cad43a6e7e1552603d10d30f4c181e1f67fdf76126", func := "ordinate/ordinatelaw2.SpanTells", spec := "spanTells", named := ["math/bits.divideError", "math/bits.overflowError"], apart := false }
def SpanTellsSaid : Prop := spanTellsRow.holds Try.pinned (OpenSpec.ofChange spanTellsSpec)

/-- ITS FALSE NEIGHBOUR: 'it returns false'. Refute it at one input. -/
def spanTellsWrong : ChangeSpec := { name := "spanTells", fn := fun _ => fun
  | [d1, d2, d3, d4, d5, d6] => { results := [.lit (.bool false)], args := [d1, d2, d3, d4, d5, d6] }
  | _ => none }
def SpanTellsWrongFalsely : Prop := spanTellsRow.holds Try.pinned (OpenSpec.ofChange spanTellsWrong)

/-- 'ordinatelaw2.SpanShare': WHATEVER THE INPUT: true; the input reads as it did. -/
def spanShareSpec : ChangeSpec := { name := "spanShare", fn := fun _ => fun
  | [d1, d2, d3] => { results := [.lit (.bool true)], args := [d1, d2, d3] }
  | _ => none }
def spanShareRow : OpenClaim := { program := "ytkfgnacbifiadaa", sum := "07e89a49ebb67b3adddbc6cad43a6e7e1552603d10d30f4c181e1f67fdf76126", func := "ordinate/ordinatelaw2.SpanShare", spec := "spanShare", named := ["math/bits.divideError", "math/bits.overflowError"], apart := false }
def SpanShareSaid : Prop := spanShareRow.holds Try.pinned (OpenSpec.ofChange spanShareSpec)

/-- ITS FALSE NEIGHBOUR: 'it returns false'. Refute it at one input. -/
def spanShareWrong : ChangeSpec := { name := "spanShare", fn := fun _ => fun
  | [d1, d2, d3] => { results := [.lit (.bool false)], args := [d1, d2, d3] }
  | _ => none }
def SpanShareWrongFalsely : Prop := spanShareRow.holds Try.pinned (OpenSpec.ofChange spanShareWrong)

/-- 'ordinatelaw2.SpanRises': WHATEVER THE INPUT: true; the input reads as it did. -/
def spanRisesSpec : ChangeSpec := { name := "spanRises", fn := fun _ => fun
  | [d1, d2, d3, d4, d5] => { results := [.lit (.bool true)], args := [d1, d2, d3, d4, d5] }
  | _ => none }
def spanRisesRow : OpenClaim := { program := "ytkfgnacbifiadaa", sum := "07e89a49ebb67b3adddbc6cad43a6e7e1552603d10d30f4c181e1f67fdf76126", func := "ordinate/ordinatelaw2.SpanRises", spec := "spanRises", named := ["math/bits.divideError", "math/bits.overflowError"], apart := false }
def SpanRisesSaid : Prop := spanRisesRow.holds Try.pinned (OpenSpec.ofChange spanRisesSpec)

/-- ITS FALSE NEIGHBOUR: 'it returns false'. Refute it at one input. -/
def spanRisesWrong : ChangeSpec := { name := "spanRises", fn := fun _ => fun
  | [d1, d2, d3, d4, d5] => { results := [.lit (.bool false)], args := [d1, d2, d3, d4, d5] }
  | _ => none }
def SpanRisesWrongFalsely : Prop := spanRisesRow.holds Try.pinned (OpenSpec.ofChange spanRisesWrong)

/-- 'ordinatelaw2.SpanRoot': WHATEVER THE INPUT: true; the input reads as it did. -/
def spanRootSpec : ChangeSpec := { name := "spanRoot", fn := fun _ => fun
  | [d] => { results := [.lit (.bool true)], args := [d] }
  | _ => none }
def spanRootRow : OpenClaim := { program := "ytkfgnacbifiadaa", sum := "07e89a49ebb67b3adddbc6cad43a6e7e1552603d10d30f4c181e1f67fdf76126", func := "ordinate/ordinatelaw2.SpanRoot", spec := "spanRoot", named := ["math/bits.divideError", "math/bits.overflowError"], apart := false }
def SpanRootSaid : Prop := spanRootRow.holds Try.pinned (OpenSpec.ofChange spanRootSpec)

/-- ITS FALSE NEIGHBOUR: 'it returns false'. Refute it at one input. -/
def spanRootWrong : ChangeSpec := { name := "spanRoot", fn := fun _ => fun
  | [d] => { results := [.lit (.bool false)], args := [d] }
  | _ => none }
def SpanRootWrongFalsely : Prop := spanRootRow.holds Try.pinned (OpenSpec.ofChange spanRootWrong)

/-- 'ordinatelaw2.SpanGaps': WHATEVER THE INPUT: true; the input reads as it did. -/
def spanGapsSpec : ChangeSpec := { name := "spanGaps", fn := fun _ => fun
  | [d1, d2, d3] => { results := [.lit (.bool true)], args := [d1, d2, d3] }
  | _ => none }
def spanGapsRow : OpenClaim := { program := "ytkfgnacbifiadaa", sum := "07e89a49ebb67b3adddbc6cad43a6e7e1552603d10d30f4c181e1f67fdf76126", func := "ordinate/ordinatelaw2.SpanGaps", spec := "spanGaps", named := ["math/bits.divideError", "math/bits.overflowError"], apart := false }
def SpanGapsSaid : Prop := spanGapsRow.holds Try.pinned (OpenSpec.ofChange spanGapsSpec)

/-- ITS FALSE NEIGHBOUR: 'it returns false'. Refute it at one input. -/
def spanGapsWrong : ChangeSpec := { name := "spanGaps", fn := fun _ => fun
  | [d1, d2, d3] => { results := [.lit (.bool false)], args := [d1, d2, d3] }
  | _ => none }
def SpanGapsWrongFalsely : Prop := spanGapsRow.holds Try.pinned (OpenSpec.ofChange spanGapsWrong)

/-- 'ordinatelaw2.SpanSums': WHATEVER THE INPUT: true; the input reads as it did. -/
def spanSumsSpec : ChangeSpec := { name := "spanSums", fn := fun _ => fun
  | [d1, d2, d3] => { results := [.lit (.bool true)], args := [d1, d2, d3] }
  | _ => none }
def spanSumsRow : OpenClaim := { program := "ytkfgnacbifiadaa", sum := "07e89a49ebb67b3adddbc6cad43a6e7e1552603d10d30f4c181e1f67fdf76126", func := "ordinate/ordinatelaw2.SpanSums", spec := "spanSums", named := ["math/bits.divideError", "math/bits.overflowError"], apart := false }
def SpanSumsSaid : Prop := spanSumsRow.holds Try.pinned (OpenSpec.ofChange spanSumsSpec)

/-- ITS FALSE NEIGHBOUR: 'it returns false'. Refute it at one input. -/
def spanSumsWrong : ChangeSpec := { name := "spanSums", fn := fun _ => fun
  | [d1, d2, d3] => { results := [.lit (.bool false)], args := [d1, d2, d3] }
  | _ => none }
def SpanSumsWrongFalsely : Prop := spanSumsRow.holds Try.pinned (OpenSpec.ofChange spanSumsWrong)

/-- 'ordinatelaw3.StackKnown': WHATEVER THE INPUT: true; the input reads as it did. -/
def stackKnownSpec : ChangeSpec := { name := "stackKnown", fn := fun _ => fun
  | [] => { results := [.lit (.bool true)], args := [] }
  | _ => none }
def stackKnownRow : OpenClaim := { program := "ytkfgnacbifiadaa", sum := "07e89a49ebb67b3adddbc6cad43a6e7e1552603d10d30f4c181e1f67fdf76126", func := "ordinate/ordinatelaw3.StackKnown", spec := "stackKnown", unfollowed := true, recurses := true, apart := false }
def StackKnownSaid : Prop := stackKnownRow.holds Try.pinned (OpenSpec.ofChange stackKnownSpec)

/-- ITS FALSE NEIGHBOUR: 'it returns false'. Refute it at one input. -/
def stackKnownWrong : ChangeSpec := { name := "stackKnown", fn := fun _ => fun
  | [] => { results := [.lit (.bool false)], args := [] }
  | _ => none }
def StackKnownWrongFalsely : Prop := stackKnownRow.holds Try.pinned (OpenSpec.ofChange stackKnownWrong)

/-- 'ordinatelaw3.StackPlays': WHATEVER THE INPUT: true; the input reads as it did. -/
def stackPlaysSpec : ChangeSpec := { name := "stackPlays", fn := fun _ => fun
  | [d] => { results := [.lit (.bool true)], args := [d] }
  | _ => none }
def stackPlaysRow : OpenClaim := { program := "ytkfgnacbifiadaa", sum := "07e89a49ebb67b3adddbc6cad43a6e7e1552603d10d30f4c181e1f67fdf76126", func := "ordinate/ordinatelaw3.StackPlays", spec := "stackPlays", unfollowed := true, recurses := true, apart := false }
def StackPlaysSaid : Prop := stackPlaysRow.holds Try.pinned (OpenSpec.ofChange stackPlaysSpec)

/-- ITS FALSE NEIGHBOUR: 'it returns false'. Refute it at one input. -/
def stackPlaysWrong : ChangeSpec := { name := "stackPlays", fn := fun _ => fun
  | [d] => { results := [.lit (.bool false)], args := [d] }
  | _ => none }
def StackPlaysWrongFalsely : Prop := stackPlaysRow.holds Try.pinned (OpenSpec.ofChange stackPlaysWrong)

/-- 'ordinatelaw3.StackLeft': WHATEVER THE INPUT: true; the input reads as it did. -/
def stackLeftSpec : ChangeSpec := { name := "stackLeft", fn := fun _ => fun
  | [d1, d2] => { results := [.lit (.bool true)], args := [d1, d2] }
  | _ => none }
def stackLeftRow : OpenClaim := { program := "ytkfgnacbifiadaa", sum := "07e89a49ebb67b3adddbc6cad43a6e7e1552603d10d30f4c181e1f67fdf76126", func := "ordinate/ordinatelaw3.StackLeft", spec := "stackLeft", unfollowed := true, recurses := true, apart := false }
def StackLeftSaid : Prop := stackLeftRow.holds Try.pinned (OpenSpec.ofChange stackLeftSpec)

/-- ITS FALSE NEIGHBOUR: 'it returns false'. Refute it at one input. -/
def stackLeftWrong : ChangeSpec := { name := "stackLeft", fn := fun _ => fun
  | [d1, d2] => { results := [.lit (.bool false)], args := [d1, d2] }
  | _ => none }
def StackLeftWrongFalsely : Prop := stackLeftRow.holds Try.pinned (OpenSpec.ofChange stackLeftWrong)

/-- 'ordinatelaw3.StackTwo': WHATEVER THE INPUT: true; the input reads as it did. -/
def stackTwoSpec : ChangeSpec := { name := "stackTwo", fn := fun _ => fun
  | [d1, d2] => { results := [.lit (.bool true)], args := [d1, d2] }
  | _ => none }
def stackTwoRow : OpenClaim := { program := "ytkfgnacbifiadaa", sum := "07e89a49ebb67b3adddbc6cad43a6e7e1552603d10d30f4c181e1f67fdf76126", func := "ordinate/ordinatelaw3.StackTwo", spec := "stackTwo", unfollowed := true, recurses := true, apart := false }
def StackTwoSaid : Prop := stackTwoRow.holds Try.pinned (OpenSpec.ofChange stackTwoSpec)

/-- ITS FALSE NEIGHBOUR: 'it returns false'. Refute it at one input. -/
def stackTwoWrong : ChangeSpec := { name := "stackTwo", fn := fun _ => fun
  | [d1, d2] => { results := [.lit (.bool false)], args := [d1, d2] }
  | _ => none }
def StackTwoWrongFalsely : Prop := stackTwoRow.holds Try.pinned (OpenSpec.ofChange stackTwoWrong)

/-- 'ordinatelaw3.StackTurned': WHATEVER THE INPUT: true; the input reads as it did. -/
def stackTurnedSpec : ChangeSpec := { name := "stackTurned", fn := fun _ => fun
  | [d] => { results := [.lit (.bool true)], args := [d] }
  | _ => none }
def stackTurnedRow : OpenClaim := { program := "ytkfgnacbifiadaa", sum := "07e89a49ebb67b3adddbc6cad43a6e7e1552603d10d30f4c181e1f67fdf76126", func := "ordinate/ordinatelaw3.StackTurned", spec := "stackTurned", unfollowed := true, recurses := true, apart := false }
def StackTurnedSaid : Prop := stackTurnedRow.holds Try.pinned (OpenSpec.ofChange stackTurnedSpec)

/-- ITS FALSE NEIGHBOUR: 'it returns false'. Refute it at one input. -/
def stackTurnedWrong : ChangeSpec := { name := "stackTurned", fn := fun _ => fun
  | [d] => { results := [.lit (.bool false)], args := [d] }
  | _ => none }
def StackTurnedWrongFalsely : Prop := stackTurnedRow.holds Try.pinned (OpenSpec.ofChange stackTurnedWrong)

/- THE SECOND FORM. 'bulk': how many values and letters a reading holds, each counted each time it is reached (what is shared counts as often as it is met; a slice's spare places count too). A statement '..UptoSaid' is the law's where the arguments, and the package variables that the reading takes, are together of bulk at most 1048576: NARROWER than '..Said'. Prove '..Said' where nothing that the law and all that it calls make is longer than what came in: it says more and counts as full. Else prove '..UptoSaid'. A law counts once. -/
mutual
def uptoBulk {H : Type} : DataW H → Nat
  | .lit (.string bytes) => bytes.length + 1
  | .lit _ => 1
  | .nil => 1
  | .ptr d => uptoBulk d + 1
  | .slice elems spare => uptoBulkAll elems + uptoBulkAll spare + 1
  | .agg parts => uptoBulkAll parts + 1
  | .iface _ d => uptoBulk d + 1
  | .map entries => uptoBulkEntries entries + 1
  | .held _ => 1
def uptoBulkAll {H : Type} : List (DataW H) → Nat
  | [] => 0
  | d :: r => uptoBulk d + uptoBulkAll r
def uptoBulkEntries {H : Type} : List (Lit × DataW H) → Nat
  | [] => 0
  | x :: r => uptoBulkEntry x + uptoBulkEntries r
def uptoBulkEntry {H : Type} : Lit × DataW H → Nat
  | (.string bytes, d) => bytes.length + uptoBulk d + 1
  | (_, d) => uptoBulk d + 1
 end
def uptoSmall : (H : Type) → List (DataW H) → Bool := fun _ ds => decide (uptoBulkAll ds ≤ 1048576)
def OpenSpec.upto (s : _root_.Go.ChangeSpec) : _root_.Go.OpenSpec := { _root_.Go.OpenSpec.ofChange s with cond := some uptoSmall }

/-- 'ordinatelaw2.SpanKnown', WHERE WHAT IT READS IS OF BULK AT MOST 1048576: true; the input reads as it did. -/
def spanKnownUptoRow : OpenClaim := { program := "ytkfgnacbifiadaa", sum := "07e89a49ebb67b3adddbc6cad43a6e7e1552603d10d30f4c181e1f67fdf76126", func := "ordinate/ordinatelaw2.SpanKnown", spec := "spanKnown", named := ["math/bits.divideError", "math/bits.overflowError"], apart := false, narrowed := true }
def SpanKnownUptoSaid : Prop := spanKnownUptoRow.holds Try.pinned (OpenSpec.upto spanKnownSpec)

/-- 'ordinatelaw2.SpanTells', WHERE WHAT IT READS IS OF BULK AT MOST 1048576: true; the input reads as it did. -/
def spanTellsUptoRow : OpenClaim := { program := "ytkfgnacbifiadaa", sum := "07e89a49ebb67b3adddbc6cad43a6e7e1552603d10d30f4c181e1f67fdf76126", func := "ordinate/ordinatelaw2.SpanTells", spec := "spanTells", named := ["math/bits.divideError", "math/bits.overflowError"], apart := false, narrowed := true }
def SpanTellsUptoSaid : Prop := spanTellsUptoRow.holds Try.pinned (OpenSpec.upto spanTellsSpec)

/-- 'ordinatelaw2.SpanShare', WHERE WHAT IT READS IS OF BULK AT MOST 1048576: true; the input reads as it did. -/
def spanShareUptoRow : OpenClaim := { program := "ytkfgnacbifiadaa", sum := "07e89a49ebb67b3adddbc6cad43a6e7e1552603d10d30f4c181e1f67fdf76126", func := "ordinate/ordinatelaw2.SpanShare", spec := "spanShare", named := ["math/bits.divideError", "math/bits.overflowError"], apart := false, narrowed := true }
def SpanShareUptoSaid : Prop := spanShareUptoRow.holds Try.pinned (OpenSpec.upto spanShareSpec)

/-- 'ordinatelaw2.SpanRises', WHERE WHAT IT READS IS OF BULK AT MOST 1048576: true; the input reads as it did. -/
def spanRisesUptoRow : OpenClaim := { program := "ytkfgnacbifiadaa", sum := "07e89a49ebb67b3adddbc6cad43a6e7e1552603d10d30f4c181e1f67fdf76126", func := "ordinate/ordinatelaw2.SpanRises", spec := "spanRises", named := ["math/bits.divideError", "math/bits.overflowError"], apart := false, narrowed := true }
def SpanRisesUptoSaid : Prop := spanRisesUptoRow.holds Try.pinned (OpenSpec.upto spanRisesSpec)

/-- 'ordinatelaw2.SpanRoot', WHERE WHAT IT READS IS OF BULK AT MOST 1048576: true; the input reads as it did. -/
def spanRootUptoRow : OpenClaim := { program := "ytkfgnacbifiadaa", sum := "07e89a49ebb67b3adddbc6cad43a6e7e1552603d10d30f4c181e1f67fdf76126", func := "ordinate/ordinatelaw2.SpanRoot", spec := "spanRoot", named := ["math/bits.divideError", "math/bits.overflowError"], apart := false, narrowed := true }
def SpanRootUptoSaid : Prop := spanRootUptoRow.holds Try.pinned (OpenSpec.upto spanRootSpec)

/-- 'ordinatelaw2.SpanGaps', WHERE WHAT IT READS IS OF BULK AT MOST 1048576: true; the input reads as it did. -/
def spanGapsUptoRow : OpenClaim := { program := "ytkfgnacbifiadaa", sum := "07e89a49ebb67b3adddbc6cad43a6e7e1552603d10d30f4c181e1f67fdf76126", func := "ordinate/ordinatelaw2.SpanGaps", spec := "spanGaps", named := ["math/bits.divideError", "math/bits.overflowError"], apart := false, narrowed := true }
def SpanGapsUptoSaid : Prop := spanGapsUptoRow.holds Try.pinned (OpenSpec.upto spanGapsSpec)

/-- 'ordinatelaw2.SpanSums', WHERE WHAT IT READS IS OF BULK AT MOST 1048576: true; the input reads as it did. -/
def spanSumsUptoRow : OpenClaim := { program := "ytkfgnacbifiadaa", sum := "07e89a49ebb67b3adddbc6cad43a6e7e1552603d10d30f4c181e1f67fdf76126", func := "ordinate/ordinatelaw2.SpanSums", spec := "spanSums", named := ["math/bits.divideError", "math/bits.overflowError"], apart := false, narrowed := true }
def SpanSumsUptoSaid : Prop := spanSumsUptoRow.holds Try.pinned (OpenSpec.upto spanSumsSpec)

/-- 'ordinatelaw3.StackKnown', WHERE WHAT IT READS IS OF BULK AT MOST 1048576: true; the input reads as it did. -/
def stackKnownUptoRow : OpenClaim := { program := "ytkfgnacbifiadaa", sum := "07e89a49ebb67b3adddbc6cad43a6e7e1552603d10d30f4c181e1f67fdf76126", func := "ordinate/ordinatelaw3.StackKnown", spec := "stackKnown", unfollowed := true, recurses := true, apart := false, narrowed := true }
def StackKnownUptoSaid : Prop := stackKnownUptoRow.holds Try.pinned (OpenSpec.upto stackKnownSpec)

/-- 'ordinatelaw3.StackPlays', WHERE WHAT IT READS IS OF BULK AT MOST 1048576: true; the input reads as it did. -/
def stackPlaysUptoRow : OpenClaim := { program := "ytkfgnacbifiadaa", sum := "07e89a49ebb67b3adddbc6cad43a6e7e1552603d10d30f4c181e1f67fdf76126", func := "ordinate/ordinatelaw3.StackPlays", spec := "stackPlays", unfollowed := true, recurses := true, apart := false, narrowed := true }
def StackPlaysUptoSaid : Prop := stackPlaysUptoRow.holds Try.pinned (OpenSpec.upto stackPlaysSpec)

/-- 'ordinatelaw3.StackLeft', WHERE WHAT IT READS IS OF BULK AT MOST 1048576: true; the input reads as it did. -/
def stackLeftUptoRow : OpenClaim := { program := "ytkfgnacbifiadaa", sum := "07e89a49ebb67b3adddbc6cad43a6e7e1552603d10d30f4c181e1f67fdf76126", func := "ordinate/ordinatelaw3.StackLeft", spec := "stackLeft", unfollowed := true, recurses := true, apart := false, narrowed := true }
def StackLeftUptoSaid : Prop := stackLeftUptoRow.holds Try.pinned (OpenSpec.upto stackLeftSpec)

/-- 'ordinatelaw3.StackTwo', WHERE WHAT IT READS IS OF BULK AT MOST 1048576: true; the input reads as it did. -/
def stackTwoUptoRow : OpenClaim := { program := "ytkfgnacbifiadaa", sum := "07e89a49ebb67b3adddbc6cad43a6e7e1552603d10d30f4c181e1f67fdf76126", func := "ordinate/ordinatelaw3.StackTwo", spec := "stackTwo", unfollowed := true, recurses := true, apart := false, narrowed := true }
def StackTwoUptoSaid : Prop := stackTwoUptoRow.holds Try.pinned (OpenSpec.upto stackTwoSpec)

/-- 'ordinatelaw3.StackTurned', WHERE WHAT IT READS IS OF BULK AT MOST 1048576: true; the input reads as it did. -/
def stackTurnedUptoRow : OpenClaim := { program := "ytkfgnacbifiadaa", sum := "07e89a49ebb67b3adddbc6cad43a6e7e1552603d10d30f4c181e1f67fdf76126", func := "ordinate/ordinatelaw3.StackTurned", spec := "stackTurned", unfollowed := true, recurses := true, apart := false, narrowed := true }
def StackTurnedUptoSaid : Prop := stackTurnedUptoRow.holds Try.pinned (OpenSpec.upto stackTurnedSpec)

end Rows
end Go.Proofs.Ytkfgnacbifiadaa
