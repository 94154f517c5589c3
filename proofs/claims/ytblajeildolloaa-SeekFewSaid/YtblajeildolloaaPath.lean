/- The walks of probe.Path and of the reference's. -/
import Derived.Test.YtblajeildolloaaProbe2
import Derived.Deep.QuietTactic
import Derived.BigQuiet
namespace Go.Proofs.Ytblajeildolloaa
set_option linter.unusedVariables false
set_option linter.unusedSimpArgs false
open Go.RowKit

theorem IntsAt.of_own {w : World} {base : Nat} {e : TypeId} {A : Option Addr} {n c : Nat} {l : List Int} (h : w.ownsRow base e 1 (.slice A n c) n (l.map (Value.int .i64))) : n = l.length ∧ IntsAt w w.heap.size A l := by
  have hn : n = l.length := by have := h.1; simp at this; omega
  subst hn
  exact ⟨rfl, Reads.of_own h⟩
theorem quiet_add {P : Program} {f : FuncId} {args : Array Value} {w : World} {a n : Nat} {v : Value}
    (h : Calls P f args (w.drewN (a + n)) fun e w' => e = .returned v ∧ ∃ m, w' = (w.drewN (a + n)).drewN m) :
    Calls P f args (w.drewN (a + n)) fun e w'' => e = .returned v ∧ ∃ m, w'' = w.drewN (a + m) :=
  h.mono fun _ _ ⟨he, m, hm⟩ => ⟨he, n + m, by rw [hm, World.drewN_drewN, Nat.add_assoc]⟩
theorem quiet_add_same {P : Program} {f : FuncId} {args : Array Value} {w : World} {a n : Nat} {v : Value}
    (h : Calls P f args (w.drewN (a + n)) fun e w' => e = .returned v ∧ w' = w.drewN (a + n)) :
    Calls P f args (w.drewN (a + n)) fun e w'' => e = .returned v ∧ ∃ m, w'' = w.drewN (a + m) :=
  h.mono fun _ _ ⟨he, hm⟩ => ⟨he, n, hm⟩
theorem quiet_add_left {P : Program} {f : FuncId} {args : Array Value} {w : World} {a n : Nat} {v : Value}
    (h : Calls P f args (w.drewN (a + n)) fun e w' => e = .returned v ∧ w.drewN (a + n) = w') :
    Calls P f args (w.drewN (a + n)) fun e w'' => e = .returned v ∧ ∃ m, w'' = w.drewN (a + m) :=
  h.mono fun _ _ ⟨he, hm⟩ => ⟨he, n, hm.symm⟩
theorem add_zero' (a : Addr) : a.add 0 = a := by simp [Addr.add]
/-- A list of whole numbers comes back, in new memory. -/
def SomeInts (l : List Int) (w : World) (e : Ending) (w' : World) : Prop := ∃ A c, e = .returned (.slice A l.length c) ∧ IntsAt w' w'.heap.size A l ∧ Below w.heap.size w w'
theorem SomeInts.of_own {l : List Int} {w w' : World} {base : Nat} {et : TypeId} {v : Value} {n : Nat} (h : w'.ownsRow base et 1 v n (l.map (Value.int .i64))) (hb : Below w.heap.size w w') : SomeInts l w (.returned v) w' := by
  have hn : n = l.length := by have := h.1; simp at this; omega
  subst hn
  rcases h.2 with ⟨rfl, h0⟩ | ⟨g, cap, cur, rfl, _⟩
  · refine ⟨none, 0, by rw [h0], ?_, hb⟩
    have : l = [] := List.eq_nil_of_length_eq_zero h0
    subst this
    exact Reads.none_
  · exact ⟨_, cap, rfl, (IntsAt.of_own h).2, hb⟩
theorem SomeInts.nil {w w' : World} (hb : Below w.heap.size w w') : SomeInts [] w (.returned (.slice none 0 0)) w' := ⟨none, 0, rfl, Reads.none_, hb⟩

theorem info_int : (Try.prog.info? 3).map (fun i => (i.zero, i.size, i.bytes)) = some (some (.int .i64 0), 1, 8) := by kernel_rfl





def restP (q : List Int) (k : Int) (j : Nat) : List Int := if keyAt q (j - 1) ≤ k then upP q k q.length (j + 1) else downP q k (j - 1)


def UpRel (q : List Int) (k : Int) (j : Nat) (w : World) (v i : Value) (wr : World) : Prop := ∃ (x d : Nat) (L : List Int), 1 ≤ x ∧ x ≤ q.length ∧ q.length ≤ d + x ∧ L.length ≤ x + 2 ∧ i = .int .i64 x ∧ wr.ownsRow w.heap.size 3 1 v L.length (L.map (Value.int .i64)) ∧ Hid (L ++ upP q k d x = baseP q k ++ restP q k j) ∧ Below w.heap.size w wr
def DownRel (q : List Int) (k : Int) (j : Nat) (w : World) (v i : Value) (wr : World) : Prop := ∃ (x : Nat) (L : List Int), x < q.length ∧ L.length + x ≤ q.length + 2 ∧ i = .int .i64 x ∧ wr.ownsRow w.heap.size 3 1 v L.length (L.map (Value.int .i64)) ∧ Hid (L ++ downP q k x = baseP q k ++ restP q k j) ∧ Below w.heap.size w wr


end Go.Proofs.Ytblajeildolloaa
