/- The walk of SeekKnown. -/
import Derived.Test.YtblajeildolloaaSeekRun
import Derived.Test.YtblajeildolloaaSeekT
import Derived.Test.YtblajeildolloaaPlant
namespace Go.Proofs.Ytblajeildolloaa
set_option linter.unusedVariables false
set_option linter.unusedSimpArgs false
open Go.RowKit

theorem ints5_any (f : FuncId) : True := trivial
/-- A memory by its cells alone. -/
def MemC (b : Nat) (C : List Int) (size : Int) (w : World) : Prop := ∃ v count odd, MemP b b v C size count odd 0 w
theorem MemC.below {b : Nat} {C : List Int} {size : Int} {w w' : World} (h : MemC b C size w) (hb : Below w.heap.size w w') : MemC b C size w' := by
  obtain ⟨v, c, o, h⟩ := h; exact ⟨v, c, o, h.below hb⟩
theorem MemC.lt {b : Nat} {C : List Int} {size : Int} {w : World} (h : MemC b C size w) : b < w.heap.size := by
  obtain ⟨v, c, o, h⟩ := h; exact h.blk.lt
theorem MemP.low {B b : Nat} {v : Value} {C : List Int} {size count odd ref : Int} {w w' : World} (h : MemP B b v C size count odd ref w) (m : Chg (MemF b v) w w') : Below B w w' :=
  m.below (fun x hx => by
    rcases hx with e | e
    · rw [e]; exact h.base
    · exact (h.own.lt x e).1) (by have := h.base; have := h.blk.lt; omega)
def MakeCPost (b : Nat) (C : List Int) (size : Int) (q : List Int) (w : World) (e : Ending) (w' : World) : Prop := e = .returned (.tuple #[.int .i64 ((C.length : Int) + 1), .bool true]) ∧ MemC b (C ++ q) size w' ∧ Below b w w'
theorem makeC_any (b : Nat) (C : List Int) (size : Int) (A : Option Addr) (c N : Nat) (q : List Int) (w : World) (hN : N = q.length) (h : MemC b C size w) (hs2 : size ≤ 65536) (hq : IntsAt w w.heap.size A q) (hA : ∀ ad, A = some ad → ad.block ≠ b) (h0 : 0 < q.length) (h1 : (q.length : Int) ≤ size - C.length) :
    Calls Try.prog 17 #[.pointer (some ⟨b, 0, none⟩), .slice A N c] w (MakeCPost b C size q w) := by
  obtain ⟨v, count, odd, h⟩ := h
  exact (make_ok b b v C size count odd 0 w h (by omega) hs2 A c q N hN hq hA h0 h1).mono fun e w' ⟨he, v', hm, m, _⟩ => ⟨he, ⟨v', _, _, hm⟩, h.low (MemF.of_mv m)⟩
def WriteCPost (b : Nat) (C : List Int) (size a x : Int) (w : World) (e : Ending) (w' : World) : Prop := e = .returned (.tuple #[]) ∧ MemC b (wrC C a x) size w' ∧ Below b w w'
theorem writeC_any (b : Nat) (C : List Int) (size a x : Int) (w : World) (h : MemC b C size w) (hC : C.length ≤ 1000000) (a0 : -9223372036854775808 ≤ a) (a1 : a ≤ 9223372036854775807) :
    Calls Try.prog 8 #[.pointer (some ⟨b, 0, none⟩), .int .i64 a, .int .i64 x] w (WriteCPost b C size a x w) := by
  obtain ⟨v, count, odd, h⟩ := h
  exact (write_any b b v C size count odd 0 a x w h hC a0 a1).mono fun e w' ⟨he, hm, m⟩ => ⟨he, ⟨v, _, _, hm⟩, h.low (MemF.of_mv m)⟩
def StepCPost (b fb lo : Nat) (C : List Int) (size : Int) (s : SS) (w : World) (e : Ending) (w' : World) : Prop := e = .returned (.bool ((s.step (rdC C)).next == 5)) ∧ SeekP (fun x => lo ≤ x) fb (s.step (rdC C)) w' ∧ MemC b C size w' ∧ Below b w w'
/-- Step, of a frame all of whose blocks lie above the memory's. -/
theorem stepC_any (b fb lo : Nat) (C : List Int) (size : Int) (s : SS) (w : World) (h : SeekP (fun x => lo ≤ x) fb s w) (hm : MemC b C size w) (hI : s.Inv) (hlo : b ≤ lo) (hlw : lo ≤ w.heap.size) (hC : C.length ≤ 1000000) (hw : ∀ x ∈ C, -9223372036854775808 ≤ x ∧ x ≤ 9223372036854775807) :
    Calls Try.prog 10 #[.pointer (some ⟨fb, 0, none⟩), .pointer (some ⟨b, 0, none⟩)] w (StepCPost b fb lo C size s w) := by
  obtain ⟨v, count, odd, hm⟩ := hm
  exact (stepS_any _ fb b s b v C size count odd 0 w h hm hI hC (bd_of hw)).mono fun e w' ⟨he, h1, h2, h3⟩ => ⟨he, h1.mono (fun x hx => hx.elim id (fun h => by omega)), ⟨v, _, _, h2⟩, h3.below (fun x hx => hx.elim (fun h => by omega) (fun h => by omega)) (by have := hm.blk.lt; omega)⟩
def AskedP (b fb lo : Nat) (C : List Int) (size : Int) (s : SS) (w : World) : Prop := SeekP (fun x => lo ≤ x) fb s w ∧ MemC b C size w
set_option maxRecDepth 100000 in
set_option maxHeartbeats 1000000 in
theorem known16_any (w : World) : Calls Try.prog 12 #[] w fun e w' => e = .returned (.bool true) ∧ Below w.heap.size w w' := by
  go_enter Try.func12, Try.ntmps12
  go_wp2_with (fail)
  with_reducible refine (memNew_any 9 _ (by decide) (by decide)).mono ?_
  rintro e w1 ⟨rfl, hm, hb⟩
  have hB1 := hb
  have HM := Lib.hid hm
  clear hm hb
  obtain ⟨b, hbe⟩ : ∃ b, w.heap.size = b := ⟨_, rfl⟩
  rw [hbe] at HM hB1 ⊢
  go_wp2_with (fail)
  with_reducible refine (begin_any b b 9 0 0 0 _ HM.out (by decide) (by decide)).mono ?_
  rintro e w2 ⟨rfl, v, hm, ho, _⟩
  have hz2 : b < w2.heap.size := by have := hB1.size; have := ho.size; have := HM.out.blk.lt; omega
  have hB2 := hB1.trans (ho.below (B := b) (by simp) (by have := HM.out.blk.lt; omega))
  have HM2 : Hid (MemP b b v beginL 9 2 0 0 w2) := Lib.hid (by rw [show bump (bump 0) = 2 from by kernel_rfl] at hm; exact hm)
  clear hm ho HM hB1
  have HC2 : Hid (MemC b beginL 9 w2) := Lib.hid ⟨v, _, _, HM2.out⟩
  clear HM2
  go_wp2_with (fail)
  with_reducible refine (newS_any 5 _).mono ?_
  rintro e w3 ⟨rfl, hs, hb⟩
  have HC3 := Lib.hid (HC2.out.below hb)
  have HS3 := Lib.hid hs
  have hB3 := hB2.trans (hb.mono (by omega))
  have hz3 := hb.size
  clear hs hb HC2 hB2
  have hbd : ∀ x ∈ beginL, -9223372036854775808 ≤ x ∧ x ≤ 9223372036854775807 := by decide
  have HBD := Lib.hid hbd
  have HI0 := Lib.hid (SS.Inv.init (k := 5) (by decide) (by decide))
  clear hbd
  generalize w2.heap.size = lo at HS3 hz2 hz3 ⊢
  go_wp2_with (fail)
  with_reducible refine (stepC_any b lo lo beginL 9 _ _ HS3.out HC3.out HI0.out (by omega) (by omega) (by decide) HBD.out).mono ?_
  rintro e w4 ⟨rfl, hs, hc, hb⟩
  have es : (SS.init 5).step (rdC beginL) = ⟨1, 5, 1, ⟨6, 1, 5, 1, 1, 0, 0⟩, some (PS.init 6), 0, 0, false⟩ := by kernel_rfl
  have HI4 := Lib.hid (SS.Inv.step HI0.out (rdC_bd (bd_of HBD.out)))
  rw [es] at hs HI4 ⊢
  have HS4 := Lib.hid hs
  have HC4 := Lib.hid hc
  have hB4 := hB3.trans hb
  have hz4 := hb.size
  clear hs hc hb es HS3 HC3 hB3
  go_wp2_with (fail)
  with_reducible refine (stepC_any b lo lo beginL 9 _ _ HS4.out HC4.out HI4.out (by omega) (by omega) (by decide) HBD.out).mono ?_
  rintro e w5 ⟨rfl, hs, hc, hb⟩
  have es : SS.step (rdC beginL) ⟨1, 5, 1, ⟨6, 1, 5, 1, 1, 0, 0⟩, some (PS.init 6), 0, 0, false⟩ = ⟨5, 5, 1, ⟨6, 1, 5, 1, 1, 0, 0⟩, some ⟨3, 6, 0, 57⟩, 7, 0, false⟩ := by kernel_rfl
  rw [es] at hs ⊢
  have HS5 := Lib.hid hs
  have hB5 := hB4.trans hb
  clear hs hc hb es HS4 HC4 hB4
  go_wp2_with (fail)
  with_reducible refine (valueS_any _ _ _ _ HS5.out).mono ?_
  rintro e w6 ⟨rfl, hd⟩
  have HS6 := Lib.hid (HS5.out.below (drawn_bl hd _))
  have hB6 := hB5.trans (drawn_bl hd _)
  clear hd HS5 hB5
  go_wp2_with (fail)
  with_reducible refine (doneS_any _ _ _ _ HS6.out).mono ?_
  rintro e w7 ⟨rfl, rfl⟩
  go_wp2_with (fail)
  go_ret
  exact ⟨rfl, hbe ▸ hB6⟩
/-- The memory ahead of the law's round i. -/
def memB (i : Nat) : List Int := if i = 0 then memK 0 else memK (i - 1)
def KOut (b : Nat) (w0 : World) (iv : Value) (wr : World) : Prop := ∃ i : Nat, i ≤ 3 ∧ iv = .int .i64 (i : Int) ∧ MemC b (memB i) 90 wr ∧ Below b w0 wr
def KMid (b : Nat) (M : List Int) (w0 : World) (kv : Value) (wr : World) : Prop := ∃ k : Nat, k ≤ 5 ∧ kv = .int .i64 (k : Int) ∧ MemC b M 90 wr ∧ Below b w0 wr
def KIn (b fb lo : Nat) (M : List Int) (S : Nat) (st : Nat → SS) (w0 : World) (nv : Value) (wr : World) : Prop := ∃ t : Nat, t < S ∧ nv = .int .i64 (t : Int) ∧ lo ≤ wr.heap.size ∧ SeekP (fun x => lo ≤ x) fb (st t) wr ∧ MemC b M 90 wr ∧ Below b w0 wr
structure Sought (i k : Nat) (M : List Int) (S : Nat) (st : Nat → SS) : Prop where
  zero : st 0 = SS.init k
  step : ∀ t, (st t).step (rdC M) = st (t + 1)
  inv : ∀ t, (st t).Inv
  going : ∀ t, t < S → (st t).next ≠ 5
  done : (st S).next = 5
  there : (st S).there = decide (0 < k ∧ k < 4)
  value : (st S).value = wantK i k
  few : S ≤ 40
  pos : 0 < S
theorem sought {i k : Nat} (hi : i < 3) (hk : k < 5) {M : List Int} (hM : memK i = M) : ∃ S st, Sought i k M S st := by
  obtain ⟨q1, q2, q3, q4, q5, q6⟩ := seekK i hi k hk
  subst hM
  exact ⟨stepsK i k, runK i k, rfl, fun t => rfl, fun t => SS.Inv.it (SS.Inv.init (by omega) (by omega)) (rdC_bd (bd_of (memK_bd i hi))) t, q1, q2, q3, q4, q5, q6⟩
theorem mem01 : wrC (layF (p3L.length + 1) beginL p3L).1 6 179 = memB 0 := by decide +kernel
theorem mem12 : wrC (memB 1 ++ [179, 3, 6, 0, 0]) 6 244 = memK 1 := by decide +kernel
theorem mem23 : wrC (wrC (memB 2 ++ [3, 33] ++ [24, 29, rdC (memB 2 ++ [3, 33]) 29, 282, 0]) 29 301) 41 1 = memK 2 := by decide +kernel
theorem memB_len : (memB 0).length = 29 ∧ (memB 1).length = 29 ∧ (memB 2).length = 34 := by decide +kernel
theorem p3_asc : AscP p3L := fun i hi => by
  have : i = 0 ∨ i = 1 := by simp [p3L] at hi; omega
  rcases this with rfl | rfl <;> decide
end Go.Proofs.Ytblajeildolloaa
