/-
  No cell of these rows narrows 'for every input' (looked for: loops, veiled, ifaces, maps, wideKeys, modest, calm, conditions, laid).
  DERIVED. THE GIVEN ROWS OF THIS SEAT. 8 by the template 'for every input the law returns true; each argument reads behind the call as it read before'; 0 by the template 'total and deterministic' (their statements: YthmcakobpjnnmaaTotals.lean).
  GIVEN WITH THE SEED: the statements are not yours to turn. If you find one false, say at which input.
  Laid BY PROGRAM, IN A SANDBOX (cutbox-rows.mjs): the forced cells as the released guide's own fill.sh prints them over the translation 397f5ab42dcbdce0… (all of the seat's roots in one cut). By AI agents, Wed Nov 11 2026. No macro, syntax, notation, axiom, sorry.
-/
import Derived.Test.YthmcakobpjnnmaaChecked
import GoSem.Claim
import GoSem.ClaimJoined
import GoSem.ClaimMapViews
import Derived.JoinedTies
import Derived.KernelRfl
namespace Go.Proofs.Ythmcakobpjnnmaa
/- THE CELL 'sum', in the pinned program and in every row, IS THE sha256 OF THE DUMP (.gsa) THAT YthmcakobpjnnmaaProg.lean LOADS. Nothing in Lean hashes anything: it is a label: what it is worth is what the hold of that sum in a sandbox is worth. -/
noncomputable def Try.pinned : Pinned := { name := "ythmcakobpjnnmaa", sum := "397f5ab42dcbdce0297fed87f38b7d30011023ce3cbc1572879e6605e579c678", checked := Try.checked }
namespace Rows
def none {H : Type} : Left H := { results := [], args := [] }

/-- 'ordinatelaw15.RouteKnown': WHATEVER THE INPUT: true; the input reads as it did. -/
def routeKnownSpec : ChangeSpec := { name := "routeKnown", fn := fun _ => fun
  | [] => { results := [.lit (.bool true)], args := [] }
  | _ => none }
def routeKnownRow : OpenClaim := { program := "ythmcakobpjnnmaa", sum := "397f5ab42dcbdce0297fed87f38b7d30011023ce3cbc1572879e6605e579c678", func := "ordinate/ordinatelaw15.RouteKnown", spec := "routeKnown", unfollowed := true, recurses := true, named := ["math/bits.divideError", "math/bits.overflowError"], apart := false }
def RouteKnownSaid : Prop := routeKnownRow.holds Try.pinned (OpenSpec.ofChange routeKnownSpec)

/-- ITS FALSE NEIGHBOUR: 'it returns false'. Refute it at one input. -/
def routeKnownWrong : ChangeSpec := { name := "routeKnown", fn := fun _ => fun
  | [] => { results := [.lit (.bool false)], args := [] }
  | _ => none }
def RouteKnownWrongFalsely : Prop := routeKnownRow.holds Try.pinned (OpenSpec.ofChange routeKnownWrong)

/-- 'ordinatelaw15.RouteAlike': WHATEVER THE INPUT: true; the input reads as it did. -/
def routeAlikeSpec : ChangeSpec := { name := "routeAlike", fn := fun _ => fun
  | [d1, d2, d3] => { results := [.lit (.bool true)], args := [d1, d2, d3] }
  | _ => none }
def routeAlikeRow : OpenClaim := { program := "ythmcakobpjnnmaa", sum := "397f5ab42dcbdce0297fed87f38b7d30011023ce3cbc1572879e6605e579c678", func := "ordinate/ordinatelaw15.RouteAlike", spec := "routeAlike", unfollowed := true, recurses := true, named := ["math/bits.divideError", "math/bits.overflowError"], apart := false }
def RouteAlikeSaid : Prop := routeAlikeRow.holds Try.pinned (OpenSpec.ofChange routeAlikeSpec)

/-- ITS FALSE NEIGHBOUR: 'it returns false'. Refute it at one input. -/
def routeAlikeWrong : ChangeSpec := { name := "routeAlike", fn := fun _ => fun
  | [d1, d2, d3] => { results := [.lit (.bool false)], args := [d1, d2, d3] }
  | _ => none }
def RouteAlikeWrongFalsely : Prop := routeAlikeRow.holds Try.pinned (OpenSpec.ofChange routeAlikeWrong)

/-- 'ordinatelaw15.RouteRight': WHATEVER THE INPUT: true; the input reads as it did. -/
def routeRightSpec : ChangeSpec := { name := "routeRight", fn := fun _ => fun
  | [d1, d2] => { results := [.lit (.bool true)], args := [d1, d2] }
  | _ => none }
def routeRightRow : OpenClaim := { program := "ythmcakobpjnnmaa", sum := "397f5ab42dcbdce0297fed87f38b7d30011023ce3cbc1572879e6605e579c678", func := "ordinate/ordinatelaw15.RouteRight", spec := "routeRight", unfollowed := true, recurses := true, named := ["math/bits.divideError", "math/bits.overflowError"], apart := false }
def RouteRightSaid : Prop := routeRightRow.holds Try.pinned (OpenSpec.ofChange routeRightSpec)

/-- ITS FALSE NEIGHBOUR: 'it returns false'. Refute it at one input. -/
def routeRightWrong : ChangeSpec := { name := "routeRight", fn := fun _ => fun
  | [d1, d2] => { results := [.lit (.bool false)], args := [d1, d2] }
  | _ => none }
def RouteRightWrongFalsely : Prop := routeRightRow.holds Try.pinned (OpenSpec.ofChange routeRightWrong)

/-- 'ordinatelaw15.RouteFew': WHATEVER THE INPUT: true; the input reads as it did. -/
def routeFewSpec : ChangeSpec := { name := "routeFew", fn := fun _ => fun
  | [d1, d2] => { results := [.lit (.bool true)], args := [d1, d2] }
  | _ => none }
def routeFewRow : OpenClaim := { program := "ythmcakobpjnnmaa", sum := "397f5ab42dcbdce0297fed87f38b7d30011023ce3cbc1572879e6605e579c678", func := "ordinate/ordinatelaw15.RouteFew", spec := "routeFew", unfollowed := true, recurses := true, named := ["math/bits.divideError", "math/bits.overflowError"], apart := false }
def RouteFewSaid : Prop := routeFewRow.holds Try.pinned (OpenSpec.ofChange routeFewSpec)

/-- ITS FALSE NEIGHBOUR: 'it returns false'. Refute it at one input. -/
def routeFewWrong : ChangeSpec := { name := "routeFew", fn := fun _ => fun
  | [d1, d2] => { results := [.lit (.bool false)], args := [d1, d2] }
  | _ => none }
def RouteFewWrongFalsely : Prop := routeFewRow.holds Try.pinned (OpenSpec.ofChange routeFewWrong)

/-- 'ordinatelaw18.AgainKnown': WHATEVER THE INPUT: true; the input reads as it did. -/
def againKnownSpec : ChangeSpec := { name := "againKnown", fn := fun _ => fun
  | [] => { results := [.lit (.bool true)], args := [] }
  | _ => none }
def againKnownRow : OpenClaim := { program := "ythmcakobpjnnmaa", sum := "397f5ab42dcbdce0297fed87f38b7d30011023ce3cbc1572879e6605e579c678", func := "ordinate/ordinatelaw18.AgainKnown", spec := "againKnown", apart := false }
def AgainKnownSaid : Prop := againKnownRow.holds Try.pinned (OpenSpec.ofChange againKnownSpec)

/-- ITS FALSE NEIGHBOUR: 'it returns false'. Refute it at one input. -/
def againKnownWrong : ChangeSpec := { name := "againKnown", fn := fun _ => fun
  | [] => { results := [.lit (.bool false)], args := [] }
  | _ => none }
def AgainKnownWrongFalsely : Prop := againKnownRow.holds Try.pinned (OpenSpec.ofChange againKnownWrong)

/-- 'ordinatelaw16.SeekFew': WHATEVER THE INPUT: true; the input reads as it did. -/
def seekFewSpec : ChangeSpec := { name := "seekFew", fn := fun _ => fun
  | [d1, d2, d3, d4] => { results := [.lit (.bool true)], args := [d1, d2, d3, d4] }
  | _ => none }
def seekFewRow : OpenClaim := { program := "ythmcakobpjnnmaa", sum := "397f5ab42dcbdce0297fed87f38b7d30011023ce3cbc1572879e6605e579c678", func := "ordinate/ordinatelaw16.SeekFew", spec := "seekFew", unfollowed := true, recurses := true, named := ["math/bits.divideError", "math/bits.overflowError"], apart := false }
def SeekFewSaid : Prop := seekFewRow.holds Try.pinned (OpenSpec.ofChange seekFewSpec)

/-- ITS FALSE NEIGHBOUR: 'it returns false'. Refute it at one input. -/
def seekFewWrong : ChangeSpec := { name := "seekFew", fn := fun _ => fun
  | [d1, d2, d3, d4] => { results := [.lit (.bool false)], args := [d1, d2, d3, d4] }
  | _ => none }
def SeekFewWrongFalsely : Prop := seekFewRow.holds Try.pinned (OpenSpec.ofChange seekFewWrong)

/-- 'ordinatelaw16.SeekKnown': WHATEVER THE INPUT: true; the input reads as it did. -/
def seekKnownSpec : ChangeSpec := { name := "seekKnown", fn := fun _ => fun
  | [] => { results := [.lit (.bool true)], args := [] }
  | _ => none }
def seekKnownRow : OpenClaim := { program := "ythmcakobpjnnmaa", sum := "397f5ab42dcbdce0297fed87f38b7d30011023ce3cbc1572879e6605e579c678", func := "ordinate/ordinatelaw16.SeekKnown", spec := "seekKnown", unfollowed := true, recurses := true, named := ["math/bits.divideError", "math/bits.overflowError"], apart := false }
def SeekKnownSaid : Prop := seekKnownRow.holds Try.pinned (OpenSpec.ofChange seekKnownSpec)

/-- ITS FALSE NEIGHBOUR: 'it returns false'. Refute it at one input. -/
def seekKnownWrong : ChangeSpec := { name := "seekKnown", fn := fun _ => fun
  | [] => { results := [.lit (.bool false)], args := [] }
  | _ => none }
def SeekKnownWrongFalsely : Prop := seekKnownRow.holds Try.pinned (OpenSpec.ofChange seekKnownWrong)

/-- 'ordinatelaw17.WalkKnown': WHATEVER THE INPUT: true; the input reads as it did. -/
def walkKnownSpec : ChangeSpec := { name := "walkKnown", fn := fun _ => fun
  | [] => { results := [.lit (.bool true)], args := [] }
  | _ => none }
def walkKnownRow : OpenClaim := { program := "ythmcakobpjnnmaa", sum := "397f5ab42dcbdce0297fed87f38b7d30011023ce3cbc1572879e6605e579c678", func := "ordinate/ordinatelaw17.WalkKnown", spec := "walkKnown", unfollowed := true, recurses := true, named := ["math/bits.divideError", "math/bits.overflowError"], apart := false }
def WalkKnownSaid : Prop := walkKnownRow.holds Try.pinned (OpenSpec.ofChange walkKnownSpec)

/-- ITS FALSE NEIGHBOUR: 'it returns false'. Refute it at one input. -/
def walkKnownWrong : ChangeSpec := { name := "walkKnown", fn := fun _ => fun
  | [] => { results := [.lit (.bool false)], args := [] }
  | _ => none }
def WalkKnownWrongFalsely : Prop := walkKnownRow.holds Try.pinned (OpenSpec.ofChange walkKnownWrong)

/- THE SECOND FORM. 'bulk': how many values and letters a reading holds, each counted each time it is reached (what is shared counts as often as it is met; a slice's spare places count too). A statement '..UptoSaid' is the law's where the arguments, and the package variables that the reading takes, are together of bulk at most 1048576: NARROWER than '..Said'. Prove '..Said' where nothing that the law and all that it calls make is longer than what came in: it says more and counts as full. Else prove '..UptoSaid'. A law counts once. -/
mutual
def uptoBulk {H : Type} : DataW H → Nat
  | .lit (.string bytes) => bytes.length + 1
  | .lit _ => 1
  | .nil => 1
  | .ptr d => uptoBulk d + 1
  | .slice elems spare => uptoBulkAll elems + uptoBulkAll spare + 1
  | .agg parts => uptoBulkAll parts + 1
  | .iface _ d => uptoBulk d + 1
  | .map entries => uptoBulkEntries entries + 1
  | .held _ => 1
def uptoBulkAll {H : Type} : List (DataW H) → Nat
  | [] => 0
  | d :: r => uptoBulk d + uptoBulkAll r
def uptoBulkEntries {H : Type} : List (Lit × DataW H) → Nat
  | [] => 0
  | x :: r => uptoBulkEntry x + uptoBulkEntries r
def uptoBulkEntry {H : Type} : Lit × DataW H → Nat
  | (.string bytes, d) => bytes.length + uptoBulk d + 1
  | (_, d) => uptoBulk d + 1
 end
def uptoSmall : (H : Type) → List (DataW H) → Bool := fun _ ds => decide (uptoBulkAll ds ≤ 1048576)
def OpenSpec.upto (s : _root_.Go.ChangeSpec) : _root_.Go.OpenSpec := { _root_.Go.OpenSpec.ofChange s with cond := some uptoSmall }

/-- 'ordinatelaw15.RouteKnown', WHERE WHAT IT READS IS OF BULK AT MOST 1048576: true; the input reads as it did. -/
def routeKnownUptoRow : OpenClaim := { program := "ythmcakobpjnnmaa", sum := "397f5ab42dcbdce0297fed87f38b7d30011023ce3cbc1572879e6605e579c678", func := "ordinate/ordinatelaw15.RouteKnown", spec := "routeKnown", unfollowed := true, recurses := true, named := ["math/bits.divideError", "math/bits.overflowError"], apart := false, narrowed := true }
def RouteKnownUptoSaid : Prop := routeKnownUptoRow.holds Try.pinned (OpenSpec.upto routeKnownSpec)

/-- 'ordinatelaw15.RouteAlike', WHERE WHAT IT READS IS OF BULK AT MOST 1048576: true; the input reads as it did. -/
def routeAlikeUptoRow : OpenClaim := { program := "ythmcakobpjnnmaa", sum := "397f5ab42dcbdce0297fed87f38b7d30011023ce3cbc1572879e6605e579c678", func := "ordinate/ordinatelaw15.RouteAlike", spec := "routeAlike", unfollowed := true, recurses := true, named := ["math/bits.divideError", "math/bits.overflowError"], apart := false, narrowed := true }
def RouteAlikeUptoSaid : Prop := routeAlikeUptoRow.holds Try.pinned (OpenSpec.upto routeAlikeSpec)

/-- 'ordinatelaw15.RouteRight', WHERE WHAT IT READS IS OF BULK AT MOST 1048576: true; the input reads as it did. -/
def routeRightUptoRow : OpenClaim := { program := "ythmcakobpjnnmaa", sum := "397f5ab42dcbdce0297fed87f38b7d30011023ce3cbc1572879e6605e579c678", func := "ordinate/ordinatelaw15.RouteRight", spec := "routeRight", unfollowed := true, recurses := true, named := ["math/bits.divideError", "math/bits.overflowError"], apart := false, narrowed := true }
def RouteRightUptoSaid : Prop := routeRightUptoRow.holds Try.pinned (OpenSpec.upto routeRightSpec)

/-- 'ordinatelaw15.RouteFew', WHERE WHAT IT READS IS OF BULK AT MOST 1048576: true; the input reads as it did. -/
def routeFewUptoRow : OpenClaim := { program := "ythmcakobpjnnmaa", sum := "397f5ab42dcbdce0297fed87f38b7d30011023ce3cbc1572879e6605e579c678", func := "ordinate/ordinatelaw15.RouteFew", spec := "routeFew", unfollowed := true, recurses := true, named := ["math/bits.divideError", "math/bits.overflowError"], apart := false, narrowed := true }
def RouteFewUptoSaid : Prop := routeFewUptoRow.holds Try.pinned (OpenSpec.upto routeFewSpec)

/-- 'ordinatelaw18.AgainKnown', WHERE WHAT IT READS IS OF BULK AT MOST 1048576: true; the input reads as it did. -/
def againKnownUptoRow : OpenClaim := { program := "ythmcakobpjnnmaa", sum := "397f5ab42dcbdce0297fed87f38b7d30011023ce3cbc1572879e6605e579c678", func := "ordinate/ordinatelaw18.AgainKnown", spec := "againKnown", apart := false, narrowed := true }
def AgainKnownUptoSaid : Prop := againKnownUptoRow.holds Try.pinned (OpenSpec.upto againKnownSpec)

/-- 'ordinatelaw16.SeekFew', WHERE WHAT IT READS IS OF BULK AT MOST 1048576: true; the input reads as it did. -/
def seekFewUptoRow : OpenClaim := { program := "ythmcakobpjnnmaa", sum := "397f5ab42dcbdce0297fed87f38b7d30011023ce3cbc1572879e6605e579c678", func := "ordinate/ordinatelaw16.SeekFew", spec := "seekFew", unfollowed := true, recurses := true, named := ["math/bits.divideError", "math/bits.overflowError"], apart := false, narrowed := true }
def SeekFewUptoSaid : Prop := seekFewUptoRow.holds Try.pinned (OpenSpec.upto seekFewSpec)

/-- 'ordinatelaw16.SeekKnown', WHERE WHAT IT READS IS OF BULK AT MOST 1048576: true; the input reads as it did. -/
def seekKnownUptoRow : OpenClaim := { program := "ythmcakobpjnnmaa", sum := "397f5ab42dcbdce0297fed87f38b7d30011023ce3cbc1572879e6605e579c678", func := "ordinate/ordinatelaw16.SeekKnown", spec := "seekKnown", unfollowed := true, recurses := true, named := ["math/bits.divideError", "math/bits.overflowError"], apart := false, narrowed := true }
def SeekKnownUptoSaid : Prop := seekKnownUptoRow.holds Try.pinned (OpenSpec.upto seekKnownSpec)

/-- 'ordinatelaw17.WalkKnown', WHERE WHAT IT READS IS OF BULK AT MOST 1048576: true; the input reads as it did. -/
def walkKnownUptoRow : OpenClaim := { program := "ythmcakobpjnnmaa", sum := "397f5ab42dcbdce0297fed87f38b7d30011023ce3cbc1572879e6605e579c678", func := "ordinate/ordinatelaw17.WalkKnown", spec := "walkKnown", unfollowed := true, recurses := true, named := ["math/bits.divideError", "math/bits.overflowError"], apart := false, narrowed := true }
def WalkKnownUptoSaid : Prop := walkKnownUptoRow.holds Try.pinned (OpenSpec.upto walkKnownSpec)

end Rows
end Go.Proofs.Ythmcakobpjnnmaa
