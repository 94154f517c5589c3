/- Words: nothing but some blocks has been turned. -/
import Derived.Test.YtblajeildolloaaMem
namespace Go.Proofs.Ytblajeildolloaa
set_option linter.unusedVariables false
set_option linter.unusedSimpArgs false
open Go.RowKit

/-- Of what there was nothing but the blocks in S has been turned. -/
structure Only (S : List Nat) (w w' : World) : Prop where
  os : w'.os = w.os
  tape : w'.tape = w.tape
  output : w'.output = w.output
  size : w.heap.size ≤ w'.heap.size
  block : ∀ k, k < w.heap.size → k ∉ S → w'.heap[k]? = w.heap[k]?
section
variable {S T : List Nat} {w w1 w' : World}
theorem Only.refl (S : List Nat) (w : World) : Only S w w := ⟨rfl, rfl, rfl, Nat.le_refl _, fun _ _ _ => rfl⟩
theorem Only.trans (h : Only S w w1) (k : Only S w1 w') : Only S w w' :=
  ⟨k.os.trans h.os, k.tape.trans h.tape, k.output.trans h.output, Nat.le_trans h.size k.size, fun i hi h1 => (k.block i (Nat.lt_of_lt_of_le hi h.size) h1).trans (h.block i hi h1)⟩
theorem Only.mono (h : Only S w w') (hs : ∀ x ∈ S, x ∈ T) : Only T w w' := ⟨h.os, h.tape, h.output, h.size, fun k hk hn => h.block k hk (fun hm => hn (hs k hm))⟩
theorem Only.of_below (h : Below w.heap.size w w') : Only S w w' := ⟨h.os, h.tape, h.output, h.size, fun k hk _ => h.block k hk⟩
theorem Only.of_drawn (h : Drawn w w') : Only S w w' := Only.of_below (drawn_bl h _)
theorem Only.of_mv {b : Nat} (h : Mv b none w w') (hb : b ∈ S) : Only S w w' := ⟨h.os, h.tape, h.output, h.size, fun k hk hn => h.block k hk (fun e => hn (e ▸ hb)) (by simp)⟩
theorem Only.of_mvr {b : Nat} {r : Option Nat} (h : Mv b r w w') (hb : b ∈ S) (hr : ∀ g, r = some g → g ∈ S) : Only S w w' := ⟨h.os, h.tape, h.output, h.size, fun k hk hn => h.block k hk (fun e => hn (e ▸ hb)) (fun e => hn (hr k e.symm))⟩
theorem Only.below {B : Nat} (h : Only S w w') (hS : ∀ x ∈ S, B ≤ x) (hB : B ≤ w.heap.size) : Below B w w' := ⟨h.os, h.tape, h.output, h.size, fun k hk => h.block k (by omega) (fun hm => by have := hS k hm; omega)⟩
theorem Only.blk (h : Only S w w') {g : Nat} {t : TypeId} {cs : Array Value} (hg : Blk w g t cs) (hn : g ∉ S) : Blk w' g t cs := (h.block g hg.lt hn).trans hg
theorem Only.own (h : Only S w w') {base n : Nat} {e : TypeId} {size : Nat} {v : Value} {xs : List Value} (hO : w.ownsRow base e size v n xs) (hn : ∀ g, v.ownBlock = some g → g ∉ S) : w'.ownsRow base e size v n xs := by
  refine ⟨hO.1, ?_⟩
  rcases hO.2 with h0 | ⟨g, cap, cur, rfl, hb, hgg, rest⟩
  · exact .inl h0
  · refine .inr ⟨g, cap, cur, rfl, hb, ?_, rest⟩
    rw [h.block g (Array.getElem?_eq_some_iff.1 hgg).1 (hn g rfl)]
    exact hgg
theorem MemP.only {B b : Nat} {v : Value} {C : List Int} {size count odd ref : Int} (h : MemP B b v C size count odd ref w) (m : Only S w w') (h1 : b ∉ S) (h2 : ∀ g, v.ownBlock = some g → g ∉ S) : MemP B b v C size count odd ref w' :=
  ⟨m.blk h.blk h1, m.own h.own h2, h.base⟩
theorem IntsAt.only {B : Nat} {A : Option Addr} {q : List Int} (h : IntsAt w B A q) (m : Only S w w') (hS : ∀ x ∈ S, B ≤ x) (hB : B ≤ w.heap.size) : IntsAt w' B A q := h.below (m.below hS hB)
end
end Go.Proofs.Ytblajeildolloaa
