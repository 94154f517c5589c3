/-
  No cell of these rows narrows 'for every input' (looked for: loops, veiled, ifaces, maps, wideKeys, modest, calm, conditions, laid).
  DERIVED. THE GIVEN ROWS OF THIS SEAT. 7 by the template 'for every input the law returns true; each argument reads behind the call as it read before'; 0 by the template 'total and deterministic' (their statements: YtelmehlabgnllaaTotals.lean).
  GIVEN WITH THE SEED: the statements are not yours to turn. If you find one false, say at which input.
  Laid BY PROGRAM, IN A SANDBOX (cutbox-rows.mjs): the forced cells as the released guide's own fill.sh prints them over the translation c2dd814cdc1330e1… (all of the seat's roots in one cut). By AI agents, Wed Nov 11 2026. No macro, syntax, notation, axiom, sorry.
-/
import Derived.Test.YtelmehlabgnllaaChecked
import GoSem.Claim
import GoSem.ClaimJoined
import GoSem.ClaimMapViews
import Derived.JoinedTies
import Derived.KernelRfl
namespace Go.Proofs.Ytelmehlabgnllaa
/- THE CELL 'sum', in the pinned program and in every row, IS THE sha256 OF THE DUMP (.gsa) THAT YtelmehlabgnllaaProg.lean LOADS. Nothing in Lean hashes anything: it is a label: what it is worth is what the hold of that sum in a sandbox is worth. -/
noncomputable def Try.pinned : Pinned := { name := "ytelmehlabgnllaa", sum := "c2dd814cdc1330e1dea7eb286693f86de491b8c55b4a87251c66735cb600f928", checked := Try.checked }
namespace Rows
def none {H : Type} : Left H := { results := [], args := [] }

/-- 'ordinatelaw6.ProbeKnown': WHATEVER THE INPUT: true; the input reads as it did. -/
def probeKnownSpec : ChangeSpec := { name := "probeKnown", fn := fun _ => fun
  | [] => { results := [.lit (.bool true)], args := [] }
  | _ => none }
def probeKnownRow : OpenClaim := { program := "ytelmehlabgnllaa", sum := "c2dd814cdc1330e1dea7eb286693f86de491b8c55b4a87251c66735cb600f928", func := "ordinate/ordinatelaw6.ProbeKnown", spec := "probeKnown", unfollowed := true, recurses := true, named := ["math/bits.divideError", "math/bits.overflowError"], apart := false }
def ProbeKnownSaid : Prop := probeKnownRow.holds Try.pinned (OpenSpec.ofChange probeKnownSpec)

/-- ITS FALSE NEIGHBOUR: 'it returns false'. Refute it at one input. -/
def probeKnownWrong : ChangeSpec := { name := "probeKnown", fn := fun _ => fun
  | [] => { results := [.lit (.bool false)], args := [] }
  | _ => none }
def ProbeKnownWrongFalsely : Prop := probeKnownRow.holds Try.pinned (OpenSpec.ofChange probeKnownWrong)

/-- 'ordinatelaw6.ProbeTells': WHATEVER THE INPUT: true; the input reads as it did. -/
def probeTellsSpec : ChangeSpec := { name := "probeTells", fn := fun _ => fun
  | [d1, d2, d3, d4, d5] => { results := [.lit (.bool true)], args := [d1, d2, d3, d4, d5] }
  | _ => none }
def probeTellsRow : OpenClaim := { program := "ytelmehlabgnllaa", sum := "c2dd814cdc1330e1dea7eb286693f86de491b8c55b4a87251c66735cb600f928", func := "ordinate/ordinatelaw6.ProbeTells", spec := "probeTells", unfollowed := true, recurses := true, named := ["math/bits.divideError", "math/bits.overflowError"], apart := false }
def ProbeTellsSaid : Prop := probeTellsRow.holds Try.pinned (OpenSpec.ofChange probeTellsSpec)

/-- ITS FALSE NEIGHBOUR: 'it returns false'. Refute it at one input. -/
def probeTellsWrong : ChangeSpec := { name := "probeTells", fn := fun _ => fun
  | [d1, d2, d3, d4, d5] => { results := [.lit (.bool false)], args := [d1, d2, d3, d4, d5] }
  | _ => none }
def ProbeTellsWrongFalsely : Prop := probeTellsRow.holds Try.pinned (OpenSpec.ofChange probeTellsWrong)

/-- 'ordinatelaw6.ProbeSmall': WHATEVER THE INPUT: true; the input reads as it did. -/
def probeSmallSpec : ChangeSpec := { name := "probeSmall", fn := fun _ => fun
  | [d1, d2] => { results := [.lit (.bool true)], args := [d1, d2] }
  | _ => none }
def probeSmallRow : OpenClaim := { program := "ytelmehlabgnllaa", sum := "c2dd814cdc1330e1dea7eb286693f86de491b8c55b4a87251c66735cb600f928", func := "ordinate/ordinatelaw6.ProbeSmall", spec := "probeSmall", unfollowed := true, recurses := true, named := ["math/bits.divideError", "math/bits.overflowError"], apart := false }
def ProbeSmallSaid : Prop := probeSmallRow.holds Try.pinned (OpenSpec.ofChange probeSmallSpec)

/-- ITS FALSE NEIGHBOUR: 'it returns false'. Refute it at one input. -/
def probeSmallWrong : ChangeSpec := { name := "probeSmall", fn := fun _ => fun
  | [d1, d2] => { results := [.lit (.bool false)], args := [d1, d2] }
  | _ => none }
def ProbeSmallWrongFalsely : Prop := probeSmallRow.holds Try.pinned (OpenSpec.ofChange probeSmallWrong)

/-- 'ordinatelaw6.ProbePath': WHATEVER THE INPUT: true; the input reads as it did. -/
def probePathSpec : ChangeSpec := { name := "probePath", fn := fun _ => fun
  | [d1, d2] => { results := [.lit (.bool true)], args := [d1, d2] }
  | _ => none }
def probePathRow : OpenClaim := { program := "ytelmehlabgnllaa", sum := "c2dd814cdc1330e1dea7eb286693f86de491b8c55b4a87251c66735cb600f928", func := "ordinate/ordinatelaw6.ProbePath", spec := "probePath", unfollowed := true, recurses := true, named := ["math/bits.divideError", "math/bits.overflowError"], apart := false }
def ProbePathSaid : Prop := probePathRow.holds Try.pinned (OpenSpec.ofChange probePathSpec)

/-- ITS FALSE NEIGHBOUR: 'it returns false'. Refute it at one input. -/
def probePathWrong : ChangeSpec := { name := "probePath", fn := fun _ => fun
  | [d1, d2] => { results := [.lit (.bool false)], args := [d1, d2] }
  | _ => none }
def ProbePathWrongFalsely : Prop := probePathRow.holds Try.pinned (OpenSpec.ofChange probePathWrong)

/-- 'ordinatelaw6.ProbeGuess': WHATEVER THE INPUT: true; the input reads as it did. -/
def probeGuessSpec : ChangeSpec := { name := "probeGuess", fn := fun _ => fun
  | [d1, d2, d3, d4, d5] => { results := [.lit (.bool true)], args := [d1, d2, d3, d4, d5] }
  | _ => none }
def probeGuessRow : OpenClaim := { program := "ytelmehlabgnllaa", sum := "c2dd814cdc1330e1dea7eb286693f86de491b8c55b4a87251c66735cb600f928", func := "ordinate/ordinatelaw6.ProbeGuess", spec := "probeGuess", unfollowed := true, recurses := true, named := ["math/bits.divideError", "math/bits.overflowError"], apart := false }
def ProbeGuessSaid : Prop := probeGuessRow.holds Try.pinned (OpenSpec.ofChange probeGuessSpec)

/-- ITS FALSE NEIGHBOUR: 'it returns false'. Refute it at one input. -/
def probeGuessWrong : ChangeSpec := { name := "probeGuess", fn := fun _ => fun
  | [d1, d2, d3, d4, d5] => { results := [.lit (.bool false)], args := [d1, d2, d3, d4, d5] }
  | _ => none }
def ProbeGuessWrongFalsely : Prop := probeGuessRow.holds Try.pinned (OpenSpec.ofChange probeGuessWrong)

/-- 'ordinatelaw6.ProbeEven': WHATEVER THE INPUT: true; the input reads as it did. -/
def probeEvenSpec : ChangeSpec := { name := "probeEven", fn := fun _ => fun
  | [d1, d2, d3, d4] => { results := [.lit (.bool true)], args := [d1, d2, d3, d4] }
  | _ => none }
def probeEvenRow : OpenClaim := { program := "ytelmehlabgnllaa", sum := "c2dd814cdc1330e1dea7eb286693f86de491b8c55b4a87251c66735cb600f928", func := "ordinate/ordinatelaw6.ProbeEven", spec := "probeEven", unfollowed := true, recurses := true, named := ["math/bits.divideError", "math/bits.overflowError"], apart := false }
def ProbeEvenSaid : Prop := probeEvenRow.holds Try.pinned (OpenSpec.ofChange probeEvenSpec)

/-- ITS FALSE NEIGHBOUR: 'it returns false'. Refute it at one input. -/
def probeEvenWrong : ChangeSpec := { name := "probeEven", fn := fun _ => fun
  | [d1, d2, d3, d4] => { results := [.lit (.bool false)], args := [d1, d2, d3, d4] }
  | _ => none }
def ProbeEvenWrongFalsely : Prop := probeEvenRow.holds Try.pinned (OpenSpec.ofChange probeEvenWrong)

/-- 'ordinatelaw6.ProbeOwn': WHATEVER THE INPUT: true; the input reads as it did. -/
def probeOwnSpec : ChangeSpec := { name := "probeOwn", fn := fun _ => fun
  | [d1, d2] => { results := [.lit (.bool true)], args := [d1, d2] }
  | _ => none }
def probeOwnRow : OpenClaim := { program := "ytelmehlabgnllaa", sum := "c2dd814cdc1330e1dea7eb286693f86de491b8c55b4a87251c66735cb600f928", func := "ordinate/ordinatelaw6.ProbeOwn", spec := "probeOwn", unfollowed := true, recurses := true, named := ["math/bits.divideError", "math/bits.overflowError"], apart := false }
def ProbeOwnSaid : Prop := probeOwnRow.holds Try.pinned (OpenSpec.ofChange probeOwnSpec)

/-- ITS FALSE NEIGHBOUR: 'it returns false'. Refute it at one input. -/
def probeOwnWrong : ChangeSpec := { name := "probeOwn", fn := fun _ => fun
  | [d1, d2] => { results := [.lit (.bool false)], args := [d1, d2] }
  | _ => none }
def ProbeOwnWrongFalsely : Prop := probeOwnRow.holds Try.pinned (OpenSpec.ofChange probeOwnWrong)

/- THE SECOND FORM. 'bulk': how many values and letters a reading holds, each counted each time it is reached (what is shared counts as often as it is met; a slice's spare places count too). A statement '..UptoSaid' is the law's where the arguments, and the package variables that the reading takes, are together of bulk at most 1048576: NARROWER than '..Said'. Prove '..Said' where nothing that the law and all that it calls make is longer than what came in: it says more and counts as full. Else prove '..UptoSaid'. A law counts once. -/
mutual
def uptoBulk {H : Type} : DataW H → Nat
  | .lit (.string bytes) => bytes.length + 1
  | .lit _ => 1
  | .nil => 1
  | .ptr d => uptoBulk d + 1
  | .slice elems spare => uptoBulkAll elems + uptoBulkAll spare + 1
  | .agg parts => uptoBulkAll parts + 1
  | .iface _ d => uptoBulk d + 1
  | .map entries => uptoBulkEntries entries + 1
  | .held _ => 1
def uptoBulkAll {H : Type} : List (DataW H) → Nat
  | [] => 0
  | d :: r => uptoBulk d + uptoBulkAll r
def uptoBulkEntries {H : Type} : List (Lit × DataW H) → Nat
  | [] => 0
  | x :: r => uptoBulkEntry x + uptoBulkEntries r
def uptoBulkEntry {H : Type} : Lit × DataW H → Nat
  | (.string bytes, d) => bytes.length + uptoBulk d + 1
  | (_, d) => uptoBulk d + 1
 end
def uptoSmall : (H : Type) → List (DataW H) → Bool := fun _ ds => decide (uptoBulkAll ds ≤ 1048576)
def OpenSpec.upto (s : _root_.Go.ChangeSpec) : _root_.Go.OpenSpec := { _root_.Go.OpenSpec.ofChange s with cond := some uptoSmall }

/-- 'ordinatelaw6.ProbeKnown', WHERE WHAT IT READS IS OF BULK AT MOST 1048576: true; the input reads as it did. -/
def probeKnownUptoRow : OpenClaim := { program := "ytelmehlabgnllaa", sum := "c2dd814cdc1330e1dea7eb286693f86de491b8c55b4a87251c66735cb600f928", func := "ordinate/ordinatelaw6.ProbeKnown", spec := "probeKnown", unfollowed := true, recurses := true, named := ["math/bits.divideError", "math/bits.overflowError"], apart := false, narrowed := true }
def ProbeKnownUptoSaid : Prop := probeKnownUptoRow.holds Try.pinned (OpenSpec.upto probeKnownSpec)

/-- 'ordinatelaw6.ProbeTells', WHERE WHAT IT READS IS OF BULK AT MOST 1048576: true; the input reads as it did. -/
def probeTellsUptoRow : OpenClaim := { program := "ytelmehlabgnllaa", sum := "c2dd814cdc1330e1dea7eb286693f86de491b8c55b4a87251c66735cb600f928", func := "ordinate/ordinatelaw6.ProbeTells", spec := "probeTells", unfollowed := true, recurses := true, named := ["math/bits.divideError", "math/bits.overflowError"], apart := false, narrowed := true }
def ProbeTellsUptoSaid : Prop := probeTellsUptoRow.holds Try.pinned (OpenSpec.upto probeTellsSpec)

/-- 'ordinatelaw6.ProbeSmall', WHERE WHAT IT READS IS OF BULK AT MOST 1048576: true; the input reads as it did. -/
def probeSmallUptoRow : OpenClaim := { program := "ytelmehlabgnllaa", sum := "c2dd814cdc1330e1dea7eb286693f86de491b8c55b4a87251c66735cb600f928", func := "ordinate/ordinatelaw6.ProbeSmall", spec := "probeSmall", unfollowed := true, recurses := true, named := ["math/bits.divideError", "math/bits.overflowError"], apart := false, narrowed := true }
def ProbeSmallUptoSaid : Prop := probeSmallUptoRow.holds Try.pinned (OpenSpec.upto probeSmallSpec)

/-- 'ordinatelaw6.ProbePath', WHERE WHAT IT READS IS OF BULK AT MOST 1048576: true; the input reads as it did. -/
def probePathUptoRow : OpenClaim := { program := "ytelmehlabgnllaa", sum := "c2dd814cdc1330e1dea7eb286693f86de491b8c55b4a87251c66735cb600f928", func := "ordinate/ordinatelaw6.ProbePath", spec := "probePath", unfollowed := true, recurses := true, named := ["math/bits.divideError", "math/bits.overflowError"], apart := false, narrowed := true }
def ProbePathUptoSaid : Prop := probePathUptoRow.holds Try.pinned (OpenSpec.upto probePathSpec)

/-- 'ordinatelaw6.ProbeGuess', WHERE WHAT IT READS IS OF BULK AT MOST 1048576: true; the input reads as it did. -/
def probeGuessUptoRow : OpenClaim := { program := "ytelmehlabgnllaa", sum := "c2dd814cdc1330e1dea7eb286693f86de491b8c55b4a87251c66735cb600f928", func := "ordinate/ordinatelaw6.ProbeGuess", spec := "probeGuess", unfollowed := true, recurses := true, named := ["math/bits.divideError", "math/bits.overflowError"], apart := false, narrowed := true }
def ProbeGuessUptoSaid : Prop := probeGuessUptoRow.holds Try.pinned (OpenSpec.upto probeGuessSpec)

/-- 'ordinatelaw6.ProbeEven', WHERE WHAT IT READS IS OF BULK AT MOST 1048576: true; the input reads as it did. -/
def probeEvenUptoRow : OpenClaim := { program := "ytelmehlabgnllaa", sum := "c2dd814cdc1330e1dea7eb286693f86de491b8c55b4a87251c66735cb600f928", func := "ordinate/ordinatelaw6.ProbeEven", spec := "probeEven", unfollowed := true, recurses := true, named := ["math/bits.divideError", "math/bits.overflowError"], apart := false, narrowed := true }
def ProbeEvenUptoSaid : Prop := probeEvenUptoRow.holds Try.pinned (OpenSpec.upto probeEvenSpec)

/-- 'ordinatelaw6.ProbeOwn', WHERE WHAT IT READS IS OF BULK AT MOST 1048576: true; the input reads as it did. -/
def probeOwnUptoRow : OpenClaim := { program := "ytelmehlabgnllaa", sum := "c2dd814cdc1330e1dea7eb286693f86de491b8c55b4a87251c66735cb600f928", func := "ordinate/ordinatelaw6.ProbeOwn", spec := "probeOwn", unfollowed := true, recurses := true, named := ["math/bits.divideError", "math/bits.overflowError"], apart := false, narrowed := true }
def ProbeOwnUptoSaid : Prop := probeOwnUptoRow.holds Try.pinned (OpenSpec.upto probeOwnSpec)

end Rows
end Go.Proofs.Ytelmehlabgnllaa
