/- The stack's iterator. -/
import Derived.RangeFuncNested
import Derived.RangeFuncBound
import Derived.RangeFuncCalls
import Derived.RangeFuncLeaves
import Derived.RangeFuncBox
import Derived.Shelf.Abstract
import Derived.Shelf.RegionOpen
import Derived.WalkKit
import Derived.OwnWalkIn
import Derived.TacticsInMore
import Derived.LoopNIn
import Derived.LoopIn
import Derived.Test.YtkfgnacbifiadaaStack
namespace Go.Proofs.Ytkfgnacbifiadaa
set_option linter.unusedVariables false
set_option linter.unusedSimpArgs false
open Go.RowKit Go.Shelf
attribute [local go_sem] Oper.semAt_some

/-- What a round that goes on must leave: the iterator's box, the stack, its row. -/
def Kp3 (Bs b : Nat) (r : Option Nat) (W W' : World) : Prop := ∀ k, (k = Bs ∨ k = b ∨ r = some k) → W'.heap[k]? = W.heap[k]?
theorem Kp3.refl (Bs b : Nat) (r : Option Nat) (W : World) : Kp3 Bs b r W W := fun _ _ => rfl
theorem Kp3.trans {Bs b : Nat} {r : Option Nat} {A B C : World} (h : Kp3 Bs b r A B) (k : Kp3 Bs b r B C) : Kp3 Bs b r A C := fun i hi => (k i hi).trans (h i hi)
theorem Kp3.sti {Bs base b : Nat} {v : Value} {L : List Int} {W W' : World} (h : StI base b v L W) (k : Kp3 Bs b v.ownBlock W W') : StI base b v L W' := by
  refine ⟨(k b (.inr (.inl rfl))).trans h.blk, ?_, h.base_le⟩
  refine ⟨h.own.1, ?_⟩
  rcases h.own.2 with hn | ⟨g, cap, cur, rfl, hb, hgg, rest⟩
  · exact .inl hn
  · exact .inr ⟨g, cap, cur, rfl, hb, (k g (.inr (.inr rfl))).trans hgg, rest⟩

theorem rev_take (L : List Int) {m : Nat} (h : m < L.length) : L.reverse.take (L.length - m) = L.reverse.take (L.length - (m + 1)) ++ [L[m]?.getD 0] := by
  have e : L.length - m = (L.length - (m + 1)) + 1 := by omega
  rw [e, List.take_add_one, List.getElem?_reverse (by omega)]
  have e2 : L.length - 1 - (L.length - (m + 1)) = m := by omega
  rw [e2, List.getElem?_eq_getElem h]
  simp

set_option maxRecDepth 100000 in
set_option maxHeartbeats 4000000 in
theorem allI1_in (F : Fence) (n : Nat) (hf : F.fn 46) (hro : F.round = none) (hn : 1 ≤ n) (l Bs base b : Nat) (v : Value) (L : List Int) (hl : L.length ≤ 1000) (J Jx : List Int → World → Prop)
    (hY : ∀ pre x W, J pre W → pre.length < L.length → YieldAt F (n - 1) Try.prog l #[.int .i64 x] W fun e W' =>
      (e = .returned (.bool true) ∧ J (pre ++ [x]) W' ∧ Kp3 Bs b v.ownBlock W W') ∨ (e = .returned (.bool false) ∧ Jx (pre ++ [x]) W'))
    (W : World) (hBs : W.cell? ⟨Bs, 0, none⟩ = some (.pointer (some ⟨b, 0, none⟩))) (hS : StI base b v L W) (h0 : J [] W) :
    CallsIn F n Try.prog 46 #[.func (.yield l) #[] #[], .pointer (some ⟨Bs, 0, none⟩)] W fun e W' => (∃ v, e = .returned v) ∧
      ((∃ ys, ys = L.reverse ∧ J ys W') ∨ (∃ pre, (∃ k, k ≤ L.length ∧ pre = L.reverse.take k) ∧ Jx pre W')) := by
  obtain ⟨A, c, rfl⟩ := own_shape hS.own
  have HS := Lib.hid hS
  have hc : W.cell? ⟨b, 0, none⟩ = some (.slice A L.length c) := hS.blk.cell 0
  clear hS
  refine callsIn_of_wp Try.func46 rfl hf ?_ hro
  simp only [Try.ntmps46, List.size_toArray, List.length_cons, List.length_nil, Nat.reduceAdd, Nat.reduceSub, Array.replicate_succ, Array.replicate_zero, List.push_toArray, List.append_toArray, List.nil_append, List.cons_append]
  gi_wp2
  gi_loopw [3] (fun i wr => ∃ j : Nat, j ≤ L.length ∧ i = .int .i64 ((j : Int) - 1) ∧ J (L.reverse.take (L.length - j)) wr ∧ Kp3 Bs b (Value.slice A L.length c).ownBlock W wr) (fun i _ => (intOf i + 1).toNat)
  case atStart => exact ⟨L.length, Nat.le_refl _, rfl, by simpa using h0, Kp3.refl _ _ _ _⟩
  case round =>
    obtain ⟨j, j1, rfl, hJ, hk⟩ := hrel
    rcases j with _ | m
    · have e0 : ((0 : Nat) : Int) - 1 = -1 := by omega
      rw [e0]
      have hJ2 : J L.reverse wr := by rw [List.take_of_length_le (by simp)] at hJ; exact hJ
      gi_wp2
      go_end0
      exact ⟨⟨_, rfl⟩, .inl ⟨_, rfl, hJ2⟩⟩
    · have hml : m < L.length := by omega
      have hSw := Kp3.sti HS.out hk
      obtain ⟨g, c', hv, _, _⟩ := hSw.own.form (by omega)
      injection hv with hA _ hcc
      subst hA hcc
      have hbx : wr.cell? ⟨Bs, 0, none⟩ = some (.pointer (some ⟨b, 0, none⟩)) := (World.cell?_of_block (hk Bs (.inl rfl))).trans hBs
      have hcb : wr.cell? ⟨b, 0, none⟩ = some (.slice (some ⟨g, 0, none⟩) L.length c) := hSw.blk.cell 0
      have hx : wr.cell? ⟨g, m, none⟩ = some (.int .i64 (L[m]?.getD 0)) := by rw [hSw.own.cellAt m (by omega)]; simp [hml]
      have e1 : ((m + 1 : Nat) : Int) - 1 = m := by omega
      rw [e1]
      have hT := Lib.hid (rev_take L hml)
      obtain ⟨x, hxe⟩ : ∃ x, L[m]?.getD 0 = x := ⟨_, rfl⟩
      rw [hxe] at hx hT
      clear hxe
      obtain ⟨fn, tmps, assign, body, hy, hR⟩ := hY _ x wr hJ (by simp; omega)
      clear hSw
      gi_wp2
      refine hR.mono ?_
      rintro e W3 (⟨rfl, hJ3, hk3⟩ | ⟨rfl, hJx3⟩)
      · gi_wp2
        go_roundw
        case rel => exact ⟨m, by omega, rfl, by rw [hT.out]; exact hJ3, hk.trans hk3⟩
        case measure => simp [intOf]
      · gi_wp2
        refine bodyPost_ret (results_none rfl _ _ _) rfl ?_
        exact ⟨⟨_, rfl⟩, .inr ⟨_, ⟨L.length - m, by omega, hT.out.symm⟩, hJx3⟩⟩

set_option maxHeartbeats 1000000 in
theorem allI_in (F : Fence) (n : Nat) (hf : F.fn 40) (hro : F.round = none) (b : Nat) (w : World) :
    CallsIn F n Try.prog 40 #[.pointer (some ⟨b, 0, none⟩)] w fun e w' => e = .returned (.func (.func 46) #[] #[.pointer (some ⟨w.heap.size, 0, none⟩)]) ∧ w' = w.alloc (.cells #[.pointer (some ⟨b, 0, none⟩)] 49) := by
  refine callsIn_of_wp Try.func40 rfl hf ?_ hro
  simp only [Try.ntmps40, List.size_toArray, List.length_cons, List.length_nil, Nat.reduceAdd, Nat.reduceSub, Array.replicate_succ, Array.replicate_zero, List.push_toArray, List.append_toArray, List.nil_append, List.cons_append]
  gi_wp2
  go_ret
  exact ⟨rfl, rfl⟩
theorem allI_stops (F : Fence) (n : Nat) (hf : F.fn 46) (hro : F.round = none) (hn : 1 ≤ n) (Bs base b : Nat) (v : Value) (L : List Int) (hl : L.length ≤ 1000) (w : World) (hB : Bs < w.heap.size) (hBs : w.cell? ⟨Bs, 0, none⟩ = some (.pointer (some ⟨b, 0, none⟩))) (hS : StI base b v L w) :
    SeqStopsK F n Try.prog 46 #[.pointer (some ⟨Bs, 0, none⟩)] (fun x : Int => #[Value.int .i64 x]) (Kp3 Bs b v.ownBlock) (fun ys => ys = L.reverse) (fun pre => ∃ k, k ≤ L.length ∧ pre = L.reverse.take k) L.length w := fun l J Jx W hW _ _ hY h0 =>
  allI1_in F n hf hro hn l Bs base b v L hl J Jx hY W ((hW.cell (p := ⟨Bs, 0, none⟩) hB).trans hBs) (hS.below hW (Nat.le_refl _)) h0
theorem Kp3.b {Bs b : Nat} {r : Option Nat} {w : World} (h1 : Bs < w.heap.size) (h2 : b < w.heap.size) (h3 : ∀ g, r = some g → g < w.heap.size) (W : World) (l : Nat) (o o' : Obj) (hl : w.heap.size ≤ l) (h : W.heap[l]? = some o) (_ : o.isCells = false) (_ : o.isWalk = false) : Kp3 Bs b r W (W.putObj l o') := by
  intro k hk
  have hlt : k < w.heap.size := by
    rcases hk with rfl | rfl | hk
    · exact h1
    · exact h2
    · exact h3 k hk
  exact (grownBy_putObj' W l o').block k (by have := (Array.getElem?_eq_some_iff.1 h).1; omega) (fun e => by injection e; omega)
end Go.Proofs.Ytkfgnacbifiadaa
