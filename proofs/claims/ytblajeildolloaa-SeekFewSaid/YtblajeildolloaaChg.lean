/- Words: what may have been turned, as a set of blocks; lists of pairs and spots. -/
import Derived.Test.YtblajeildolloaaOnly
import Derived.Test.YtblajeildolloaaPairs
import Derived.Test.YtblajeildolloaaBegin
import Derived.Lib.SliceRun
namespace Go.Proofs.Ytblajeildolloaa
set_option linter.unusedVariables false
set_option linter.unusedSimpArgs false
open Go.RowKit

/-- Of what there was nothing but blocks of F has been turned. -/
structure Chg (F : Nat → Prop) (w w' : World) : Prop where
  os : w'.os = w.os
  tape : w'.tape = w.tape
  output : w'.output = w.output
  size : w.heap.size ≤ w'.heap.size
  block : ∀ k, k < w.heap.size → ¬ F k → w'.heap[k]? = w.heap[k]?
section
variable {F G : Nat → Prop} {S : List Nat} {w w1 w' : World}
theorem Chg.refl (F : Nat → Prop) (w : World) : Chg F w w := ⟨rfl, rfl, rfl, Nat.le_refl _, fun _ _ _ => rfl⟩
theorem Chg.trans (h : Chg F w w1) (k : Chg F w1 w') : Chg F w w' :=
  ⟨k.os.trans h.os, k.tape.trans h.tape, k.output.trans h.output, Nat.le_trans h.size k.size, fun i hi h1 => (k.block i (Nat.lt_of_lt_of_le hi h.size) h1).trans (h.block i hi h1)⟩
/-- A later change may turn what is new besides. -/
theorem Chg.grow (h : Chg F w w1) (k : Chg G w1 w') (hG : ∀ x, G x → F x ∨ w.heap.size ≤ x) : Chg F w w' :=
  ⟨k.os.trans h.os, k.tape.trans h.tape, k.output.trans h.output, Nat.le_trans h.size k.size, fun i hi h1 => (k.block i (Nat.lt_of_lt_of_le hi h.size) (fun hg => by
    rcases hG i hg with h2 | h2
    · exact h1 h2
    · omega)).trans (h.block i hi h1)⟩
theorem Chg.mono (h : Chg F w w') (hs : ∀ x, F x → G x) : Chg G w w' := ⟨h.os, h.tape, h.output, h.size, fun k hk hn => h.block k hk (fun hm => hn (hs k hm))⟩
theorem Chg.of_below (h : Below w.heap.size w w') : Chg F w w' := ⟨h.os, h.tape, h.output, h.size, fun k hk _ => h.block k hk⟩
theorem Chg.of_only (h : Only S w w') (hs : ∀ x ∈ S, F x) : Chg F w w' := ⟨h.os, h.tape, h.output, h.size, fun k hk hn => h.block k hk (fun hm => hn (hs k hm))⟩
theorem Chg.of_mv {b : Nat} (h : Mv b none w w') (hb : F b) : Chg F w w' := Chg.of_only (Only.of_mv (S := [b]) h (by simp)) (by simpa using hb)
theorem Chg.below {B : Nat} (h : Chg F w w') (hS : ∀ x, F x → B ≤ x) (hB : B ≤ w.heap.size) : Below B w w' := ⟨h.os, h.tape, h.output, h.size, fun k hk => h.block k (by omega) (fun hm => by have := hS k hm; omega)⟩
theorem Chg.blk (h : Chg F w w') {g : Nat} {t : TypeId} {cs : Array Value} (hg : Blk w g t cs) (hn : ¬ F g) : Blk w' g t cs := (h.block g hg.lt hn).trans hg
theorem Chg.own (h : Chg F w w') {base n : Nat} {e : TypeId} {size : Nat} {v : Value} {xs : List Value} (hO : w.ownsRow base e size v n xs) (hn : ∀ g, v.ownBlock = some g → ¬ F g) : w'.ownsRow base e size v n xs := by
  refine ⟨hO.1, ?_⟩
  rcases hO.2 with h0 | ⟨g, cap, cur, rfl, hb, hgg, rest⟩
  · exact .inl h0
  · refine .inr ⟨g, cap, cur, rfl, hb, ?_, rest⟩
    rw [h.block g (Array.getElem?_eq_some_iff.1 hgg).1 (hn g rfl)]
    exact hgg
theorem MemP.chg {B b : Nat} {v : Value} {C : List Int} {size count odd ref : Int} (h : MemP B b v C size count odd ref w) (m : Chg F w w') (h1 : ¬ F b) (h2 : ∀ g, v.ownBlock = some g → ¬ F g) : MemP B b v C size count odd ref w' :=
  ⟨m.blk h.blk h1, m.own h.own h2, h.base⟩
theorem own_blk_not {base : Nat} {e t : TypeId} {size n g : Nat} {v : Value} {xs : List Value} {cs : Array Value} (h : w.ownsRow base e size v n xs) (hg : Blk w g t cs) (hne : e ≠ t) : ∀ x, v.ownBlock = some x → x ≠ g := fun x hx e => own_blk_ne h hg hne (by rw [hx, e])
end

theorem belowDrew {w w1 : World} (hb : Below w.drew.heap.size w.drew w1) : Below w.heap.size w w1 := ⟨hb.os, hb.tape, hb.output, hb.size, hb.block⟩
theorem own_lt {w : World} {base n : Nat} {e : TypeId} {size : Nat} {v : Value} {xs : List Value} (h : w.ownsRow base e size v n xs) : ∀ g, v.ownBlock = some g → g < w.heap.size := fun g hg => (h.lt g hg).2
theorem Chg.of_grown {w w' : World} {r : Option Nat} (h : w.grownBy w' r) : Chg (fun x => r = some x) w w' := ⟨h.os, h.tape, h.output, h.size, fun k hk hn => h.block k hk (fun e => hn e.symm)⟩
def pval (L : List (Int × Int)) (i : Nat) : Int := (L.getD i (0, 0)).2
theorem cellsP_val : ∀ {L : List (Int × Int)} {i : Nat}, i < L.length → (cellsP L)[i * 2 + 1]? = some (.int .i64 (pval L i))
  | [], i, h => absurd h (by simp)
  | p :: L, 0, h => by simp [cellsP, pval]
  | p :: L, i + 1, h => by
    have := cellsP_val (L := L) (i := i) (by simpa using h)
    have e : (i + 1) * 2 + 1 = i * 2 + 1 + 1 + 1 := by omega
    rw [e]
    simp [cellsP, pval] at this ⊢
    exact this
theorem PairsAt.nil (w : World) (B : Nat) : PairsAt w B none [] := Reads.none_
theorem pairs_row (w : World) (t : TypeId) (L : List (Int × Int)) : PairsAt (w.alloc (.cells (cellsP L).toArray t)) (w.heap.size + 1) (some ⟨w.heap.size, 0, none⟩) L := by
  refine ⟨cellsP_len L, fun _ => ⟨_, rfl, Nat.lt_succ_self _, fun j u hu => ?_⟩⟩
  have e : (⟨w.heap.size, 0, none⟩ : Addr).add j = ⟨w.heap.size, j, none⟩ := by unfold Addr.add; split <;> simp_all
  rw [e]
  have := (Blk.new w t (cellsP L).toArray).cell j
  rw [this]
  simpa using hu
theorem bd_of {L : List Int} (h : ∀ x ∈ L, -9223372036854775808 ≤ x ∧ x ≤ 9223372036854775807) : ∀ i, i < L.length → -9223372036854775808 ≤ keyAt L i ∧ keyAt L i ≤ 9223372036854775807 := fun i hi => h _ (by
  unfold keyAt
  rw [List.getD_eq_getElem?_getD, List.getElem?_eq_getElem hi]
  exact List.getElem_mem _)
/-- What a copied list comes to. -/
def SomeOwnP (T : TypeId) (L : List (Int × Int)) (w : World) (e : Ending) (w' : World) : Prop := ∃ v, e = .returned v ∧ w'.ownsRow w.heap.size T 2 v L.length (cellsP L) ∧ Below w.heap.size w w'
end Go.Proofs.Ytblajeildolloaa
