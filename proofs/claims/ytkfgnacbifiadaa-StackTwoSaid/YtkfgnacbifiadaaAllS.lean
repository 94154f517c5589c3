/- The stack's iterator, of texts. -/
import Derived.Test.YtkfgnacbifiadaaAll
namespace Go.Proofs.Ytkfgnacbifiadaa
set_option linter.unusedVariables false
set_option linter.unusedSimpArgs false
open Go.RowKit Go.Shelf
attribute [local go_sem] Oper.semAt_some
theorem Kp3.sts {Bs base b : Nat} {v : Value} {L : List ByteArray} {W W' : World} (h : StS base b v L W) (k : Kp3 Bs b v.ownBlock W W') : StS base b v L W' := by
  refine ⟨(k b (.inr (.inl rfl))).trans h.blk, ?_, h.base_le⟩
  refine ⟨h.own.1, ?_⟩
  rcases h.own.2 with hn | ⟨g, cap, cur, rfl, hb, hgg, rest⟩
  · exact .inl hn
  · exact .inr ⟨g, cap, cur, rfl, hb, (k g (.inr (.inr rfl))).trans hgg, rest⟩

theorem rev_takeS (L : List ByteArray) {m : Nat} (h : m < L.length) : L.reverse.take (L.length - m) = L.reverse.take (L.length - (m + 1)) ++ [L[m]?.getD ByteArray.empty] := by
  have e : L.length - m = (L.length - (m + 1)) + 1 := by omega
  rw [e, List.take_add_one, List.getElem?_reverse (by omega)]
  have e2 : L.length - 1 - (L.length - (m + 1)) = m := by omega
  rw [e2, List.getElem?_eq_getElem h]
  simp

set_option maxRecDepth 100000 in
set_option maxHeartbeats 4000000 in
theorem allS1_in (F : Fence) (n : Nat) (hf : F.fn 45) (hro : F.round = none) (hn : 1 ≤ n) (l Bs base b : Nat) (v : Value) (L : List ByteArray) (hl : L.length ≤ 1000) (J Jx : List ByteArray → World → Prop)
    (hY : ∀ pre x W, J pre W → pre.length < L.length → YieldAt F (n - 1) Try.prog l #[.string x] W fun e W' =>
      (e = .returned (.bool true) ∧ J (pre ++ [x]) W' ∧ Kp3 Bs b v.ownBlock W W') ∨ (e = .returned (.bool false) ∧ Jx (pre ++ [x]) W'))
    (W : World) (hBs : W.cell? ⟨Bs, 0, none⟩ = some (.pointer (some ⟨b, 0, none⟩))) (hS : StS base b v L W) (h0 : J [] W) :
    CallsIn F n Try.prog 45 #[.func (.yield l) #[] #[], .pointer (some ⟨Bs, 0, none⟩)] W fun e W' => (∃ v, e = .returned v) ∧
      ((∃ ys, ys = L.reverse ∧ J ys W') ∨ (∃ pre, (∃ k, k ≤ L.length ∧ pre = L.reverse.take k) ∧ Jx pre W')) := by
  obtain ⟨A, c, rfl⟩ := own_shape hS.own
  have HS := Lib.hid hS
  have hc : W.cell? ⟨b, 0, none⟩ = some (.slice A L.length c) := hS.blk.cell 0
  clear hS
  refine callsIn_of_wp Try.func45 rfl hf ?_ hro
  simp only [Try.ntmps45, List.size_toArray, List.length_cons, List.length_nil, Nat.reduceAdd, Nat.reduceSub, Array.replicate_succ, Array.replicate_zero, List.push_toArray, List.append_toArray, List.nil_append, List.cons_append]
  gi_wp2
  gi_loopw [3] (fun i wr => ∃ j : Nat, j ≤ L.length ∧ i = .int .i64 ((j : Int) - 1) ∧ J (L.reverse.take (L.length - j)) wr ∧ Kp3 Bs b (Value.slice A L.length c).ownBlock W wr) (fun i _ => (intOf i + 1).toNat)
  case atStart => exact ⟨L.length, Nat.le_refl _, rfl, by simpa using h0, Kp3.refl _ _ _ _⟩
  case round =>
    obtain ⟨j, j1, rfl, hJ, hk⟩ := hrel
    rcases j with _ | m
    · have e0 : ((0 : Nat) : Int) - 1 = -1 := by omega
      rw [e0]
      have hJ2 : J L.reverse wr := by rw [List.take_of_length_le (by simp)] at hJ; exact hJ
      gi_wp2
      go_end0
      exact ⟨⟨_, rfl⟩, .inl ⟨_, rfl, hJ2⟩⟩
    · have hml : m < L.length := by omega
      have hSw := Kp3.sts HS.out hk
      obtain ⟨g, c', hv, _, _⟩ := hSw.own.form (by omega)
      injection hv with hA _ hcc
      subst hA hcc
      have hbx : wr.cell? ⟨Bs, 0, none⟩ = some (.pointer (some ⟨b, 0, none⟩)) := (World.cell?_of_block (hk Bs (.inl rfl))).trans hBs
      have hcb : wr.cell? ⟨b, 0, none⟩ = some (.slice (some ⟨g, 0, none⟩) L.length c) := hSw.blk.cell 0
      have hx : wr.cell? ⟨g, m, none⟩ = some (.string (L[m]?.getD ByteArray.empty)) := by rw [hSw.own.cellAt m (by omega)]; simp [hml]
      have e1 : ((m + 1 : Nat) : Int) - 1 = m := by omega
      rw [e1]
      have hT := Lib.hid (rev_takeS L hml)
      obtain ⟨x, hxe⟩ : ∃ x, L[m]?.getD ByteArray.empty = x := ⟨_, rfl⟩
      rw [hxe] at hx hT
      clear hxe
      obtain ⟨fn, tmps, assign, body, hy, hR⟩ := hY _ x wr hJ (by simp; omega)
      clear hSw
      gi_wp2
      refine hR.mono ?_
      rintro e W3 (⟨rfl, hJ3, hk3⟩ | ⟨rfl, hJx3⟩)
      · gi_wp2
        go_roundw
        case rel => exact ⟨m, by omega, rfl, by rw [hT.out]; exact hJ3, hk.trans hk3⟩
        case measure => simp [intOf]
      · gi_wp2
        refine bodyPost_ret (results_none rfl _ _ _) rfl ?_
        exact ⟨⟨_, rfl⟩, .inr ⟨_, ⟨L.length - m, by omega, hT.out.symm⟩, hJx3⟩⟩

set_option maxHeartbeats 1000000 in
theorem allS_in (F : Fence) (n : Nat) (hf : F.fn 32) (hro : F.round = none) (b : Nat) (w : World) :
    CallsIn F n Try.prog 32 #[.pointer (some ⟨b, 0, none⟩)] w fun e w' => e = .returned (.func (.func 45) #[] #[.pointer (some ⟨w.heap.size, 0, none⟩)]) ∧ w' = w.alloc (.cells #[.pointer (some ⟨b, 0, none⟩)] 37) := by
  refine callsIn_of_wp Try.func32 rfl hf ?_ hro
  simp only [Try.ntmps32, List.size_toArray, List.length_cons, List.length_nil, Nat.reduceAdd, Nat.reduceSub, Array.replicate_succ, Array.replicate_zero, List.push_toArray, List.append_toArray, List.nil_append, List.cons_append]
  gi_wp2
  go_ret
  exact ⟨rfl, rfl⟩
theorem allS_stops (F : Fence) (n : Nat) (hf : F.fn 45) (hro : F.round = none) (hn : 1 ≤ n) (Bs base b : Nat) (v : Value) (L : List ByteArray) (hl : L.length ≤ 1000) (w : World) (hB : Bs < w.heap.size) (hBs : w.cell? ⟨Bs, 0, none⟩ = some (.pointer (some ⟨b, 0, none⟩))) (hS : StS base b v L w) :
    SeqStopsK F n Try.prog 45 #[.pointer (some ⟨Bs, 0, none⟩)] (fun x : ByteArray => #[Value.string x]) (Kp3 Bs b v.ownBlock) (fun ys => ys = L.reverse) (fun pre => ∃ k, k ≤ L.length ∧ pre = L.reverse.take k) L.length w := fun l J Jx W hW _ _ hY h0 =>
  allS1_in F n hf hro hn l Bs base b v L hl J Jx hY W ((hW.cell (p := ⟨Bs, 0, none⟩) hB).trans hBs) (hS.below hW (Nat.le_refl _)) h0
end Go.Proofs.Ytkfgnacbifiadaa
