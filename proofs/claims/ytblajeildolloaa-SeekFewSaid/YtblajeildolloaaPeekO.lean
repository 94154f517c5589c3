/- A frame of peek, or none. -/
import Derived.Test.YtblajeildolloaaChg
import Derived.Test.YtblajeildolloaaPeek
namespace Go.Proofs.Ytblajeildolloaa
set_option linter.unusedVariables false
set_option linter.unusedSimpArgs false
open Go.RowKit

def PeekO (F : Nat → Prop) (pv : Value) (o : Option PS) (w : World) : Prop := match o with
  | none => pv = .pointer none
  | some p => ∃ pb, pv = .pointer (some ⟨pb, 0, none⟩) ∧ F pb ∧ PeekP pb p w
section
variable {F G : Nat → Prop} {o : Option PS} {pv : Value} {w w' : World}
theorem PeekO.mono (h : PeekO F pv o w) (hs : ∀ x, F x → G x) : PeekO G pv o w := by
  cases o with
  | none => exact h
  | some p => obtain ⟨pb, h1, h2, h3⟩ := h; exact ⟨pb, h1, hs _ h2, h3⟩
theorem PeekO.chg (h : PeekO F pv o w) (m : Chg G w w') (hd : ∀ x, F x → G x → False) : PeekO F pv o w' := by
  cases o with
  | none => exact h
  | some p => obtain ⟨pb, h1, h2, h3⟩ := h; exact ⟨pb, h1, h2, m.blk h3 (fun hg => hd _ h2 hg)⟩
end
end Go.Proofs.Ytblajeildolloaa
