/- A region that draws its order, all quiet but its end, operation by operation: each by the kernel. -/
import Derived.StillTailTactics
import Derived.Test.YtkfgnacbifiadaaWords
import Derived.Test.YtkfgnacbifiadaaSpan
namespace Go.Proofs.Ytkfgnacbifiadaa
set_option linter.unusedVariables false
set_option linter.unusedSimpArgs false
open Go.RowKit

theorem wpStill_val {P : Program} {ops : Array Oper} {w : World} {Q : Act → Prop} {o : Oper} {rest : List Oper} {a : Act} (v : Value) (h : Region.wanted o (yielded ops a.tmps) = true) (hr : (execOp a.eval o).run P w = .ok (.value v) w) (k : wpStill P ops w Q rest (a.put o.dst v)) : wpStill P ops w Q (o :: rest) a := by
  unfold wpStill
  rw [if_pos h, Oper.still, hr]
  exact ⟨rfl, k⟩
theorem wpStill_call {P : Program} {ops : Array Oper} {w : World} {Q : Act → Prop} {o : Oper} {rest : List Oper} {a : Act} (v : Value) {f : FuncId} {args : Array Value} (h : Region.wanted o (yielded ops a.tmps) = true) (hr : (execOp a.eval o).run P w = .ok (.enter f args) w) (hc : Calls P f args w (fun e w'' => e = .returned v ∧ w'' = w)) (k : wpStill P ops w Q rest (a.put o.dst v)) : wpStill P ops w Q (o :: rest) a := by
  unfold wpStill
  rw [if_pos h, Oper.still, hr]
  exact ⟨rfl, v, hc, k⟩
theorem wpStill_pass {P : Program} {ops : Array Oper} {w : World} {Q : Act → Prop} {o : Oper} {rest : List Oper} {a : Act} (h : Region.wanted o (yielded ops a.tmps) = false) (k : wpStill P ops w Q rest (a.put o.dst undef)) : wpStill P ops w Q (o :: rest) a := by
  unfold wpStill
  rw [if_neg (by rw [h]; simp)]
  exact k

theorem ld_int {ρ : Operand → Value} {o : Oper} {x : Operand} {p : Addr} {v : Value} {w : World} (ho : o.op = .load 3 x) (hx : ρ x = .pointer (some p)) (hc : w.cell? p = some v) : (execOp ρ o).run Try.prog w = .ok (.value v) w := by
  simp only [execOp, ho]
  go_simp
theorem ld_ints {ρ : Operand → Value} {o : Oper} {x : Operand} {p : Addr} {v : Value} {w : World} (ho : o.op = .load 48 x) (hx : ρ x = .pointer (some p)) (hc : w.cell? p = some v) : (execOp ρ o).run Try.prog w = .ok (.value v) w := by
  simp only [execOp, ho]
  go_simp
theorem eql_int {ρ : Operand → Value} {o : Oper} {x y : Operand} {m n : Int} (b : Bool) {w : World} (ho : o.op = .binOp .eql 3 x y 3) (hx : ρ x = .int .i64 m) (hy : ρ y = .int .i64 n) (hb : (m == n) = b) : (execOp ρ o).run Try.prog w = .ok (.value (.bool b)) w := by
  subst hb
  simp only [execOp, ho]
  go_simp
theorem gtr_int {ρ : Operand → Value} {o : Oper} {x y : Operand} {m n : Int} (b : Bool) {w : World} (ho : o.op = .binOp .gtr 3 x y 3) (hx : ρ x = .int .i64 m) (hy : ρ y = .int .i64 n) (hb : decide (n < m) = b) : (execOp ρ o).run Try.prog w = .ok (.value (.bool b)) w := by
  subst hb
  simp only [execOp, ho]
  go_simp
theorem sub_int {ρ : Operand → Value} {o : Oper} {x y : Operand} {m n : Int} (d : Int) {w : World} (ho : o.op = .binOp .sub 3 x y 3) (hx : ρ x = .int .i64 m) (hy : ρ y = .int .i64 n) (hd : IntKind.i64.wrap (m - n) = d) : (execOp ρ o).run Try.prog w = .ok (.value (.int .i64 d)) w := by
  subst hd
  simp only [execOp, ho]
  go_simp
theorem len_ints {ρ : Operand → Value} {o : Oper} {x : Operand} {A : Option Addr} {n c : Nat} {w : World} (ho : o.op = .call { callee := .builtin .len, args := #[x], argTypes := #[48] }) (hx : ρ x = .slice A n c) : (execOp ρ o).run Try.prog w = .ok (.value (.int .i64 n)) w := by
  simp only [execOp, ho]
  go_simp
theorem idx_ints {ρ : Operand → Value} {o : Oper} {x y : Operand} {A : Addr} {n c i : Nat} {w : World} (ho : o.op = .indexAddr 48 x y) (hx : ρ x = .slice (some A) n c) (hy : ρ y = .int .i64 i) (hi : i < n) : (execOp ρ o).run Try.prog w = .ok (.value (.pointer (some (A.add i)))) w := by
  simp only [execOp, ho]
  go_simp
theorem wpList_stored {P : Program} {ops : Array Oper} {Q : Exit → Act → World → Prop} {o : Oper} {a : Act} {w w' : World} (T : Array Value) (ds : List Deferred) (hg : o.guard = none) (hd : o.dst = none) (hr : (execOp a.eval o).run P w = .ok .skip w') (ha : a = ⟨T, ds⟩) (k : Q .normal ⟨T, ds⟩ w') : wpList P ops Q [o] a w := by
  subst ha
  refine wpList_plain hg fun K hK => ?_
  unfold Oper.wp
  rw [hr]
  show K ((Act.mk T ds).put o.dst undef) w'
  rw [hd]
  exact hK _ _ k
theorem st_bool {ρ : Operand → Value} {o : Oper} {x y : Operand} {p : Addr} {u b : Bool} {w : World} (ho : o.op = .store 4 x y) (hx : ρ x = .pointer (some p)) (hy : ρ y = .bool b) (hc : w.cell? p = some (.bool u)) (hf : w.frozen? p = false) : (execOp ρ o).run Try.prog w = .ok .skip (w.setCell p (.bool b)) := by
  simp only [execOp, ho]
  go_simp
end Go.Proofs.Ytkfgnacbifiadaa
