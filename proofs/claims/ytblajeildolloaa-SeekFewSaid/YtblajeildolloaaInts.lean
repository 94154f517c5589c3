/- Slices that read as whole numbers. -/
import Derived.Test.YtblajeildolloaaMathG
import Derived.Test.YtblajeildolloaaSpan
import Derived.Test.YtblajeildolloaaWords
namespace Go.Proofs.Ytblajeildolloaa
set_option linter.unusedVariables false
set_option linter.unusedSimpArgs false
open Go.RowKit

/-- The slice A, n reads as these whole numbers, below block B. -/
def IntsAt (w : World) (B : Nat) (A : Option Addr) (q : List Int) : Prop := Reads w B 1 A q.length (q.map (Value.int .i64))
theorem IntsAt.cells {w : World} {B : Nat} {A : Option Addr} {q : List Int} (h : IntsAt w B A q) (hl : 0 < q.length) : ∃ ad, A = some ad ∧ ad.block < B ∧ ∀ k, k < q.length → w.cell? (ad.add k) = some (.int .i64 (keyAt q k)) := by
  obtain ⟨ad, e, hb, hc⟩ := h.2 hl
  refine ⟨ad, e, hb, fun k hk => hc k _ ?_⟩
  unfold keyAt
  rw [List.getElem?_map, List.getD_eq_getElem?_getD, List.getElem?_eq_getElem hk]
  rfl
theorem belowD {B : Nat} {a w : World} (h : Below B a w) (n : Nat) : Below B a (w.drewN n) := h.trans ⟨rfl, rfl, rfl, Nat.le_refl _, fun _ _ => rfl⟩
theorem Drawn.below {w w' : World} (h : Drawn w w') (B : Nat) : Below B w w' := by
  obtain ⟨n, rfl⟩ := h
  exact belowD (Below.refl _ _) _
theorem ret_bool {a b : Bool} (h : a = b) : Ending.returned (.bool a) = .returned (.bool b) := by rw [h]

theorem IntsAt.drewN {w : World} {B : Nat} {A : Option Addr} {q : List Int} (h : IntsAt w B A q) (n : Nat) : IntsAt (w.drewN n) B A q := h
theorem IntsAt.alloc {w : World} {B : Nat} {A : Option Addr} {q : List Int} (h : IntsAt w B A q) (hB : B ≤ w.heap.size) (o : Obj) : IntsAt (w.alloc o) B A q := Reads.alloc h hB o
theorem IntsAt.below {w w' : World} {B : Nat} {A : Option Addr} {q : List Int} (h : IntsAt w B A q) (hb : Below B w w') : IntsAt w' B A q := Reads.below h hb
theorem IntsAt.more {w : World} {B B' : Nat} {A : Option Addr} {q : List Int} (h : IntsAt w B A q) (hb : B ≤ B') : IntsAt w B' A q := Reads.more h hb

theorem below_called {w v v' : World} (h : Below w.heap.size w v) (hb : Below v.heap.size v v') : Below w.heap.size w v' := h.trans (hb.mono h.size)
theorem quiet_left {P : Program} {f : FuncId} {args : Array Value} {w : World} {n : Nat} {v : Value}
    (h : Calls P f args (w.drewN n) fun e w' => e = .returned v ∧ w.drewN n = w') : Calls P f args (w.drewN n) fun e w'' => e = .returned v ∧ ∃ m, w'' = w.drewN m :=
  h.mono fun _ _ ⟨he, hm⟩ => ⟨he, n, hm.symm⟩
theorem drawn_facts {w w0 : World} (h : Drawn w w0) : Below w.heap.size w w0 ∧ w.heap.size ≤ w0.heap.size := by
  obtain ⟨n, rfl⟩ := h
  exact ⟨belowD (Below.refl _ _) _, Nat.le_refl _⟩

theorem info_int64 : (Try.prog.info? 2).map (fun i => (i.zero, i.size, i.bytes)) = some (some (.int .i64 0), 1, 8) := by kernel_rfl
end Go.Proofs.Ytblajeildolloaa
