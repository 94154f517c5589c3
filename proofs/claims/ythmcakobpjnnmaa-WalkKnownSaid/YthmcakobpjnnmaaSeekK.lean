/- The walk of SeekKnown. -/
import Derived.Test.YthmcakobpjnnmaaSeekRun
import Derived.Test.YthmcakobpjnnmaaSeekT
import Derived.Test.YthmcakobpjnnmaaPlant
namespace Go.Proofs.Ythmcakobpjnnmaa
set_option linter.unusedVariables false
set_option linter.unusedSimpArgs false
open Go.RowKit

theorem ints5_any (f : FuncId) : True := trivial
set_option maxHeartbeats 400000 in
theorem rebuildW_any (a g s : Int) (w : World) : Calls Try.prog 41 #[.int .i64 a, .int .i64 g, .int .i64 s] w fun e w' => e = .returned (.slice (some ⟨w.heap.size, 0, none⟩) 5 5) ∧ IntsAt w' w'.heap.size (some ⟨w.heap.size, 0, none⟩) [a, g, s, 0, 0] ∧ Below w.heap.size w w' := by
  have H : Hid (IntsAt (w.alloc (.cells #[.int .i64 a, .int .i64 g, .int .i64 s, .int .i64 0, .int .i64 0] 2)) (w.alloc (.cells #[.int .i64 a, .int .i64 g, .int .i64 s, .int .i64 0, .int .i64 0] 2)).heap.size (some ⟨w.heap.size, 0, none⟩) [a, g, s, 0, 0]) := Lib.hid ((ints_row w 2 [a, g, s, 0, 0]).more (by simp))
  go_enter Try.func41, Try.ntmps41
  go_wp2_with (fail)
  go_ret
  exact ⟨rfl, H.out, (Below.refl _ _).alloc (Nat.le_refl _) _⟩
set_option maxHeartbeats 400000 in
theorem dcssW_any (a g x y : Int) (w : World) : Calls Try.prog 46 #[.int .i64 a, .int .i64 g, .int .i64 x, .int .i64 y] w fun e w' => e = .returned (.slice (some ⟨w.heap.size, 0, none⟩) 5 5) ∧ IntsAt w' w'.heap.size (some ⟨w.heap.size, 0, none⟩) [a, g, x, y, 0] ∧ Below w.heap.size w w' := by
  have H : Hid (IntsAt (w.alloc (.cells #[.int .i64 a, .int .i64 g, .int .i64 x, .int .i64 y, .int .i64 0] 2)) (w.alloc (.cells #[.int .i64 a, .int .i64 g, .int .i64 x, .int .i64 y, .int .i64 0] 2)).heap.size (some ⟨w.heap.size, 0, none⟩) [a, g, x, y, 0]) := Lib.hid ((ints_row w 2 [a, g, x, y, 0]).more (by simp))
  go_enter Try.func46, Try.ntmps46
  go_wp2_with (fail)
  go_ret
  exact ⟨rfl, H.out, (Below.refl _ _).alloc (Nat.le_refl _) _⟩
/-- A memory by its cells alone. -/
def MemC (b : Nat) (C : List Int) (size : Int) (w : World) : Prop := ∃ v count odd, MemP b b v C size count odd 0 w
theorem MemC.below {b : Nat} {C : List Int} {size : Int} {w w' : World} (h : MemC b C size w) (hb : Below w.heap.size w w') : MemC b C size w' := by
  obtain ⟨v, c, o, h⟩ := h; exact ⟨v, c, o, h.below hb⟩
theorem MemC.lt {b : Nat} {C : List Int} {size : Int} {w : World} (h : MemC b C size w) : b < w.heap.size := by
  obtain ⟨v, c, o, h⟩ := h; exact h.blk.lt
theorem MemP.low {B b : Nat} {v : Value} {C : List Int} {size count odd ref : Int} {w w' : World} (h : MemP B b v C size count odd ref w) (m : Chg (MemF b v) w w') : Below B w w' :=
  m.below (fun x hx => by
    rcases hx with e | e
    · rw [e]; exact h.base
    · exact (h.own.lt x e).1) (by have := h.base; have := h.blk.lt; omega)
def MakeCPost (b : Nat) (C : List Int) (size : Int) (q : List Int) (w : World) (e : Ending) (w' : World) : Prop := e = .returned (.tuple #[.int .i64 ((C.length : Int) + 1), .bool true]) ∧ MemC b (C ++ q) size w' ∧ Below b w w'
theorem makeC_any (b : Nat) (C : List Int) (size : Int) (A : Option Addr) (c N : Nat) (q : List Int) (w : World) (hN : N = q.length) (h : MemC b C size w) (hs2 : size ≤ 65536) (hq : IntsAt w w.heap.size A q) (hA : ∀ ad, A = some ad → ad.block ≠ b) (h0 : 0 < q.length) (h1 : (q.length : Int) ≤ size - C.length) :
    Calls Try.prog 40 #[.pointer (some ⟨b, 0, none⟩), .slice A N c] w (MakeCPost b C size q w) := by
  obtain ⟨v, count, odd, h⟩ := h
  exact (make_ok b b v C size count odd 0 w h (by omega) hs2 A c q N hN hq hA h0 h1).mono fun e w' ⟨he, v', hm, m, _⟩ => ⟨he, ⟨v', _, _, hm⟩, h.low (MemF.of_mv m)⟩
def WriteCPost (b : Nat) (C : List Int) (size a x : Int) (w : World) (e : Ending) (w' : World) : Prop := e = .returned (.tuple #[]) ∧ MemC b (wrC C a x) size w' ∧ Below b w w'
theorem writeC_any (b : Nat) (C : List Int) (size a x : Int) (w : World) (h : MemC b C size w) (hC : C.length ≤ 1000000) (a0 : -9223372036854775808 ≤ a) (a1 : a ≤ 9223372036854775807) :
    Calls Try.prog 33 #[.pointer (some ⟨b, 0, none⟩), .int .i64 a, .int .i64 x] w (WriteCPost b C size a x w) := by
  obtain ⟨v, count, odd, h⟩ := h
  exact (write_any b b v C size count odd 0 a x w h hC a0 a1).mono fun e w' ⟨he, hm, m⟩ => ⟨he, ⟨v, _, _, hm⟩, h.low (MemF.of_mv m)⟩
theorem atC_any (b : Nat) (C : List Int) (size a : Int) (w : World) (h : MemC b C size w) (hC : C.length ≤ 1000000) (a0 : -9223372036854775808 ≤ a) (a1 : a ≤ 9223372036854775807) :
    Calls Try.prog 47 #[.pointer (some ⟨b, 0, none⟩), .int .i64 a] w fun e w' => e = .returned (.int .i64 (rdC C a)) ∧ w = w' := by
  obtain ⟨v, count, odd, h⟩ := h
  exact memAt_any b b v C size count odd 0 a w h hC a0 a1
def StepCPost (b fb lo : Nat) (C : List Int) (size : Int) (s : SS) (w : World) (e : Ending) (w' : World) : Prop := e = .returned (.bool ((s.step (rdC C)).next == 5)) ∧ SeekP (fun x => lo ≤ x) fb (s.step (rdC C)) w' ∧ MemC b C size w' ∧ Below b w w'
/-- Step, of a frame all of whose blocks lie above the memory's. -/
theorem stepC_any (b fb lo : Nat) (C : List Int) (size : Int) (s : SS) (w : World) (h : SeekP (fun x => lo ≤ x) fb s w) (hm : MemC b C size w) (hI : s.Inv) (hlo : b ≤ lo) (hlw : lo ≤ w.heap.size) (hC : C.length ≤ 1000000) (hw : ∀ x ∈ C, -9223372036854775808 ≤ x ∧ x ≤ 9223372036854775807) :
    Calls Try.prog 35 #[.pointer (some ⟨fb, 0, none⟩), .pointer (some ⟨b, 0, none⟩)] w (StepCPost b fb lo C size s w) := by
  obtain ⟨v, count, odd, hm⟩ := hm
  exact (stepS_any _ fb b s b v C size count odd 0 w h hm hI hC (bd_of hw)).mono fun e w' ⟨he, h1, h2, h3⟩ => ⟨he, h1.mono (fun x hx => hx.elim id (fun h => by omega)), ⟨v, _, _, h2⟩, h3.below (fun x hx => hx.elim (fun h => by omega) (fun h => by omega)) (by have := hm.blk.lt; omega)⟩
def AskedP (b fb lo : Nat) (C : List Int) (size : Int) (s : SS) (w : World) : Prop := SeekP (fun x => lo ≤ x) fb s w ∧ MemC b C size w
set_option maxRecDepth 100000 in
set_option maxHeartbeats 1000000 in
theorem known16_any (w : World) : Calls Try.prog 37 #[] w fun e w' => e = .returned (.bool true) ∧ Below w.heap.size w w' := by
  go_enter Try.func37, Try.ntmps37
  go_wp2_with (fail)
  with_reducible refine (memNew_any 9 _ (by decide) (by decide)).mono ?_
  rintro e w1 ⟨rfl, hm, hb⟩
  have hB1 := hb
  have HM := Lib.hid hm
  clear hm hb
  obtain ⟨b, hbe⟩ : ∃ b, w.heap.size = b := ⟨_, rfl⟩
  rw [hbe] at HM hB1 ⊢
  go_wp2_with (fail)
  with_reducible refine (begin_any b b 9 0 0 0 _ HM.out (by decide) (by decide)).mono ?_
  rintro e w2 ⟨rfl, v, hm, ho, _⟩
  have hz2 : b < w2.heap.size := by have := hB1.size; have := ho.size; have := HM.out.blk.lt; omega
  have hB2 := hB1.trans (ho.below (B := b) (by simp) (by have := HM.out.blk.lt; omega))
  have HM2 : Hid (MemP b b v beginL 9 2 0 0 w2) := Lib.hid (by rw [show bump (bump 0) = 2 from by kernel_rfl] at hm; exact hm)
  clear hm ho HM hB1
  have HC2 : Hid (MemC b beginL 9 w2) := Lib.hid ⟨v, _, _, HM2.out⟩
  clear HM2
  go_wp2_with (fail)
  with_reducible refine (newS_any 5 _).mono ?_
  rintro e w3 ⟨rfl, hs, hb⟩
  have HC3 := Lib.hid (HC2.out.below hb)
  have HS3 := Lib.hid hs
  have hB3 := hB2.trans (hb.mono (by omega))
  have hz3 := hb.size
  clear hs hb HC2 hB2
  have hbd : ∀ x ∈ beginL, -9223372036854775808 ≤ x ∧ x ≤ 9223372036854775807 := by decide
  have HBD := Lib.hid hbd
  have HI0 := Lib.hid (SS.Inv.init (k := 5) (by decide) (by decide))
  clear hbd
  generalize w2.heap.size = lo at HS3 hz2 hz3 ⊢
  go_wp2_with (fail)
  with_reducible refine (stepC_any b lo lo beginL 9 _ _ HS3.out HC3.out HI0.out (by omega) (by omega) (by decide) HBD.out).mono ?_
  rintro e w4 ⟨rfl, hs, hc, hb⟩
  have es : (SS.init 5).step (rdC beginL) = ⟨1, 5, 1, ⟨6, 1, 5, 1, 1, 0, 0⟩, some (PS.init 6), 0, 0, false⟩ := by kernel_rfl
  have HI4 := Lib.hid (SS.Inv.step HI0.out (rdC_bd (bd_of HBD.out)))
  rw [es] at hs HI4 ⊢
  have HS4 := Lib.hid hs
  have HC4 := Lib.hid hc
  have hB4 := hB3.trans hb
  have hz4 := hb.size
  clear hs hc hb es HS3 HC3 hB3
  go_wp2_with (fail)
  with_reducible refine (stepC_any b lo lo beginL 9 _ _ HS4.out HC4.out HI4.out (by omega) (by omega) (by decide) HBD.out).mono ?_
  rintro e w5 ⟨rfl, hs, hc, hb⟩
  have es : SS.step (rdC beginL) ⟨1, 5, 1, ⟨6, 1, 5, 1, 1, 0, 0⟩, some (PS.init 6), 0, 0, false⟩ = ⟨5, 5, 1, ⟨6, 1, 5, 1, 1, 0, 0⟩, some ⟨3, 6, 0, 57⟩, 7, 0, false⟩ := by kernel_rfl
  rw [es] at hs ⊢
  have HS5 := Lib.hid hs
  have hB5 := hB4.trans hb
  clear hs hc hb es HS4 HC4 hB4
  go_wp2_with (fail)
  with_reducible refine (valueS_any _ _ _ _ HS5.out).mono ?_
  rintro e w6 ⟨rfl, hd⟩
  have HS6 := Lib.hid (HS5.out.below (drawn_bl hd _))
  have hB6 := hB5.trans (drawn_bl hd _)
  clear hd HS5 hB5
  go_wp2_with (fail)
  with_reducible refine (doneS_any _ _ _ _ HS6.out).mono ?_
  rintro e w7 ⟨rfl, rfl⟩
  go_wp2_with (fail)
  go_ret
  exact ⟨rfl, hbe ▸ hB6⟩
/-- The memory ahead of the law's round i. -/
def memB (i : Nat) : List Int := if i = 0 then memK 0 else memK (i - 1)
def KOut (b : Nat) (w0 : World) (iv : Value) (wr : World) : Prop := ∃ i : Nat, i ≤ 3 ∧ iv = .int .i64 (i : Int) ∧ MemC b (memB i) 90 wr ∧ Below b w0 wr
def KMid (b : Nat) (M : List Int) (w0 : World) (kv : Value) (wr : World) : Prop := ∃ k : Nat, k ≤ 5 ∧ kv = .int .i64 (k : Int) ∧ MemC b M 90 wr ∧ Below b w0 wr
def KIn (b fb lo : Nat) (M : List Int) (S : Nat) (st : Nat → SS) (w0 : World) (nv : Value) (wr : World) : Prop := ∃ t : Nat, t < S ∧ nv = .int .i64 (t : Int) ∧ lo ≤ wr.heap.size ∧ SeekP (fun x => lo ≤ x) fb (st t) wr ∧ MemC b M 90 wr ∧ Below b w0 wr
structure Sought (i k : Nat) (M : List Int) (S : Nat) (st : Nat → SS) : Prop where
  zero : st 0 = SS.init k
  step : ∀ t, (st t).step (rdC M) = st (t + 1)
  inv : ∀ t, (st t).Inv
  going : ∀ t, t < S → (st t).next ≠ 5
  done : (st S).next = 5
  there : (st S).there = decide (0 < k ∧ k < 4)
  value : (st S).value = wantK i k
  few : S ≤ 40
  pos : 0 < S
theorem sought {i k : Nat} (hi : i < 3) (hk : k < 5) {M : List Int} (hM : memK i = M) : ∃ S st, Sought i k M S st := by
  obtain ⟨q1, q2, q3, q4, q5, q6⟩ := seekK i hi k hk
  subst hM
  exact ⟨stepsK i k, runK i k, rfl, fun t => rfl, fun t => SS.Inv.it (SS.Inv.init (by omega) (by omega)) (rdC_bd (bd_of (memK_bd i hi))) t, q1, q2, q3, q4, q5, q6⟩
theorem mem01 : wrC (layF (p3L.length + 1) beginL p3L).1 6 179 = memB 0 := by decide +kernel
theorem mem12 : wrC (memB 1 ++ [179, 3, 6, 0, 0]) 6 244 = memK 1 := by decide +kernel
theorem mem23 : wrC (wrC (memB 2 ++ [3, 33] ++ [24, 29, rdC (memB 2 ++ [3, 33]) 29, 282, 0]) 29 301) 41 1 = memK 2 := by decide +kernel
theorem memB_len : (memB 0).length = 29 ∧ (memB 1).length = 29 ∧ (memB 2).length = 34 := by decide +kernel
theorem p3_asc : AscP p3L := fun i hi => by
  have : i = 0 ∨ i = 1 := by simp [p3L] at hi; omega
  rcases this with rfl | rfl <;> decide
set_option maxRecDepth 100000 in
set_option maxHeartbeats 4000000 in
theorem seekKnown_walk (w : World) : Calls Try.prog 9 #[] w fun e w' => e = .returned (.bool true) ∧ Below w.heap.size w w' := by
  go_enter Try.func9, Try.ntmps9
  go_wp2_with (fail)
  with_reducible refine (memNew_any 90 _ (by decide) (by decide)).mono ?_
  rintro e w1 ⟨rfl, hm, hb⟩
  have hB1 := hb
  have HM := Lib.hid hm
  clear hm hb
  obtain ⟨b, hbe⟩ : ∃ b, w.heap.size = b := ⟨_, rfl⟩
  rw [hbe] at HM hB1 ⊢
  go_wp2_with (fail)
  with_reducible refine (begin_any b b 90 0 0 0 _ HM.out (by decide) (by decide)).mono ?_
  rintro e w2 ⟨rfl, v, hm, ho, _⟩
  have hz2 : b < w2.heap.size := by have := hB1.size; have := ho.size; have := HM.out.blk.lt; omega
  have hB2 := hB1.trans (ho.below (B := b) (by simp) (by have := HM.out.blk.lt; omega))
  have HM2 : Hid (MemP b b v beginL 90 2 0 0 w2) := Lib.hid (by rw [show bump (bump 0) = 2 from by kernel_rfl] at hm; exact hm)
  clear hm ho HM hB1
  have hq : PairsAt (w2.alloc (.cells #[.int .i64 1, .int .i64 10, .int .i64 2, .int .i64 20, .int .i64 3, .int .i64 30] 51)) (w2.alloc (.cells #[.int .i64 1, .int .i64 10, .int .i64 2, .int .i64 20, .int .i64 3, .int .i64 30] 51)).heap.size (some ⟨w2.heap.size, 0, none⟩) p3L := (pairs_row w2 51 p3L).more (by simp)
  have hb := (Below.refl w2.heap.size w2).alloc (Nat.le_refl _) (.cells #[.int .i64 1, .int .i64 10, .int .i64 2, .int .i64 20, .int .i64 3, .int .i64 30] 51)
  have HM3 := Lib.hid (HM2.out.below hb)
  have hB3 := hB2.trans (hb.mono (by omega))
  have hz3 := hb.size
  have hap : Apart (some ⟨w2.heap.size, 0, none⟩) b v := fun ad ha hx => by
    injection ha with ha
    subst ha
    rcases hx with h | h
    · have : w2.heap.size = b := h
      omega
    · have : w2.heap.size < w2.heap.size := own_lt HM2.out.own _ h
      omega
  have HQ := Lib.hid hq
  have HA := Lib.hid hap
  clear hq hap
  clear HM2 hB2 hb
  go_wp2_with (fail)
  generalize w2.alloc (.cells #[.int .i64 1, .int .i64 10, .int .i64 2, .int .i64 20, .int .i64 3, .int .i64 30] 51) = w3 at HQ HM3 hB3 hz3 ⊢
  with_reducible refine (build_any b b v beginL 90 2 0 0 _ 3 3 p3L _ (by kernel_rfl) (by decide) HM3.out HQ.out (by decide) (by decide) p3_asc HA.out (by decide +kernel)).mono ?_
  rintro e w4 ⟨rfl, v4, c4, hm, hc, _⟩
  have hB4 := hB3.trans (HM3.out.low hc)
  have HC4 : Hid (MemC b (layF (p3L.length + 1) beginL p3L).1 90 w4) := Lib.hid ⟨_, _, _, hm⟩
  rw [show (layF (p3L.length + 1) beginL p3L).2 = 179 from tree3_len.2.1]
  clear hm hc HM3 HQ HA hB3
  go_wp2_with (fail)
  with_reducible refine (writeC_any b _ 90 6 179 _ HC4.out (by decide +kernel) (by decide) (by decide)).mono ?_
  rintro e w5 ⟨rfl, hc, hb⟩
  rw [mem01] at hc
  have hB5 := hB4.trans hb
  have HC5 := Lib.hid hc
  clear hc hb HC4 hB4
  go_wp2_with (fail)
  go_loopw [5] (fun iv wr => KOut b w iv wr) (fun iv _ => 3 - (intOf iv).toNat)
  case atStart => unfold KOut; exact ⟨0, by omega, rfl, HC5.out, hB5⟩
  case round =>
    obtain ⟨i, i1, rfl, hC, hBC⟩ := hrel
    clear HC5 hB5 hz2 hz3
    have hi : i = 0 ∨ i = 1 ∨ i = 2 ∨ i = 3 := by omega
    rcases hi with rfl | rfl | rfl | rfl
    · clear i1
      have HC0 := Lib.hid (show MemC b (memK 0) 90 wr from hC)
      clear hC
      rw [show ((0 : Nat) : Int) = 0 from rfl]
      go_wp2_with (fail)
      have hC := HC0.out
      clear HC0
      obtain ⟨M, hM⟩ : ∃ M, memK 0 = M := ⟨_, rfl⟩
      have HMB := Lib.hid (show memB (0 + 1) = M from hM)
      have HMW := Lib.hid (memK_bd 0 (by omega))
      have hml := memK_len 0 (by omega)
      rw [hM] at hC HMW hml
      have HC := Lib.hid hC
      have HME := Lib.hid hM
      clear hC hM
      go_loopw [13] (fun kv wr => KMid b M w kv wr) (fun kv _ => 5 - (intOf kv).toNat)
      case atStart => unfold KMid; exact ⟨0, by omega, rfl, HC.out, hBC⟩
      case round =>
        obtain ⟨k, k1, rfl, hC, hB⟩ := hrel
        clear HC hBC
        by_cases hlt : k < 5
        · obtain ⟨S, st, hst⟩ := sought (i := 0) (k := k) (by omega) hlt HME.out
          have hS6 := hst.pos
          have hS5 := hst.few
          have HST := Lib.hid hst
          have HC := Lib.hid hC
          clear hst hC
          go_wp2_with (fail)
          with_reducible refine (newS_any k _).mono ?_
          rintro e w3 ⟨rfl, hs, hb⟩
          have hbl := HC.out.lt
          have HC3 := Lib.hid (HC.out.below hb)
          have HS3 : Hid (SeekP (fun x => wr.heap.size ≤ x) wr.heap.size (st 0) w3) := Lib.hid (by rw [HST.out.zero]; exact hs)
          have hB3 := hB.trans (hb.mono (by omega))
          have hz3 := hb.size
          clear hs hb hB HC
          generalize wr.heap.size = lo at HS3 hz3 hbl ⊢
          go_wp2_with (fail)
          go_loopw [15] (fun nv wr => KIn b lo lo M S st w nv wr) (fun nv _ => 60 - (intOf nv).toNat)
          case atStart => unfold KIn; exact ⟨0, hS6, rfl, hz3, HS3.out, HC3.out, hB3⟩
          case round =>
            obtain ⟨t, t1, rfl, hlw, hS, hC, hB⟩ := hrel
            clear HC3 HS3 hB3 hz3
            have HC := Lib.hid hC
            have HS := Lib.hid hS
            have ht60 : (t : Int) < 60 := by omega
            clear hC hS
            go_wp2_with (fail)
            with_reducible refine (stepC_any b lo lo M 90 (st t) _ HS.out HC.out (HST.out.inv t) (by omega) hlw (by omega) HMW.out).mono ?_
            rintro e w4 ⟨rfl, hs, hc, hb⟩
            rw [HST.out.step t] at hs ⊢
            have HS4 := Lib.hid hs
            have HC4 := Lib.hid hc
            have hB4 := hB.trans hb
            have hz4 : lo ≤ w4.heap.size := Nat.le_trans hlw hb.size
            clear hs hc hb HS HC hB hlw
            by_cases hlast : t + 1 < S
            · have e5 : ((st (t + 1)).next == 5) = false := by simpa using HST.out.going (t + 1) hlast
              rw [e5]
              clear e5
              go_wp2_with (fail)
              go_roundw
              case rel => unfold KIn; exact ⟨t + 1, hlast, by go_num, hz4, HS4.out, HC4.out, hB4⟩
              case measure => simp [intOf]; omega
            · have et : S = t + 1 := by omega
              subst et
              have e5 : ((st (t + 1)).next == 5) = true := by simpa using HST.out.done
              rw [e5]
              clear e5 hlast t1 hS5 hS6
              go_wp2_with (fail)
              with_reducible refine (valueS_any _ _ _ _ HS4.out).mono ?_
              rintro e w6 ⟨rfl, hd⟩
              rw [HST.out.there, HST.out.value]
              have HS6 := Lib.hid (HS4.out.below (drawn_bl hd _))
              have HC6 := Lib.hid (HC4.out.below (drawn_bl hd _))
              have hB6 := hB4.trans (drawn_bl hd _)
              clear hd HS4 HC4 hB4
              have hk : k = 0 ∨ k = 1 ∨ k = 2 ∨ k = 3 ∨ k = 4 := by omega
              clear hlt k1
              rcases hk with rfl | rfl | rfl | rfl | rfl
              · rw [show wantK 0 0 = 0 from by decide, show decide (0 < 0 ∧ 0 < 4) = false from by decide]
                go_wp2_with (fail)
                with_reducible refine (doneS_any _ _ _ _ HS6.out).mono ?_
                rintro e w7 ⟨rfl, rfl⟩
                rw [HST.out.done]
                go_wp2_with (fail)
                go_roundw
                case rel => unfold KMid; exact ⟨1, by omega, by rfl, HC6.out, hB6⟩
                case measure => simp [intOf]
              · rw [show wantK 0 1 = 10 from by decide, show decide (0 < 1 ∧ 1 < 4) = true from by decide]
                go_wp2_with (fail)
                with_reducible refine (doneS_any _ _ _ _ HS6.out).mono ?_
                rintro e w7 ⟨rfl, rfl⟩
                rw [HST.out.done]
                go_wp2_with (fail)
                go_roundw
                case rel => unfold KMid; exact ⟨2, by omega, by rfl, HC6.out, hB6⟩
                case measure => simp [intOf]
              · rw [show wantK 0 2 = 20 from by decide, show decide (0 < 2 ∧ 2 < 4) = true from by decide]
                go_wp2_with (fail)
                with_reducible refine (doneS_any _ _ _ _ HS6.out).mono ?_
                rintro e w7 ⟨rfl, rfl⟩
                rw [HST.out.done]
                go_wp2_with (fail)
                go_roundw
                case rel => unfold KMid; exact ⟨3, by omega, by rfl, HC6.out, hB6⟩
                case measure => simp [intOf]
              · rw [show wantK 0 3 = 30 from by decide, show decide (0 < 3 ∧ 3 < 4) = true from by decide]
                go_wp2_with (fail)
                with_reducible refine (doneS_any _ _ _ _ HS6.out).mono ?_
                rintro e w7 ⟨rfl, rfl⟩
                rw [HST.out.done]
                go_wp2_with (fail)
                go_roundw
                case rel => unfold KMid; exact ⟨4, by omega, by rfl, HC6.out, hB6⟩
                case measure => simp [intOf]
              · rw [show wantK 0 4 = 0 from by decide, show decide (0 < 4 ∧ 4 < 4) = false from by decide]
                go_wp2_with (fail)
                with_reducible refine (doneS_any _ _ _ _ HS6.out).mono ?_
                rintro e w7 ⟨rfl, rfl⟩
                rw [HST.out.done]
                go_wp2_with (fail)
                go_roundw
                case rel => unfold KMid; exact ⟨5, by omega, by rfl, HC6.out, hB6⟩
                case measure => simp [intOf]
        · have hk5 : k = 5 := by omega
          subst hk5
          have HC := Lib.hid hC
          clear hC
          go_wp2_with (fail)
          go_roundw
          case rel => unfold KOut; exact ⟨0 + 1, by omega, by rfl, HMB.out ▸ HC.out, hB⟩
          case measure => simp [intOf]
    · clear i1
      have HC0 := Lib.hid hC
      have hbl := hC.lt
      clear hC
      go_wp2_with (fail)
      with_reducible refine (rebuildW_any 179 3 6 _).mono ?_
      rintro e w6 ⟨rfl, hq, hb⟩
      have HC6 := Lib.hid (HC0.out.below hb)
      have HQ6 := Lib.hid hq
      have hB6 := hBC.trans (hb.mono (by omega))
      clear hq hb HC0 hBC
      go_wp2_with (fail)
      with_reducible refine (makeC_any b (memB 1) 90 _ 5 5 [179, 3, 6, 0, 0] _ (by kernel_rfl) HC6.out (by decide) HQ6.out (fun ad ha => by injection ha with ha; subst ha; show wr.heap.size ≠ b; omega) (by simp) (by rw [memB_len.2.1]; decide)).mono ?_
      rintro e w7 ⟨rfl, hc, hb⟩
      rw [show (((memB 1).length : Int) + 1) = 30 from by rw [memB_len.2.1]; rfl]
      have HC7 := Lib.hid hc
      have hB7 := hB6.trans hb
      clear hc hb HC6 HQ6 hB6
      go_wp2_with (fail)
      with_reducible refine (of_any 4 30 _).mono ?_
      rintro e w8 ⟨rfl, rfl⟩
      rw [show wOf 4 30 = 244 from by decide]
      go_wp2_with (fail)
      with_reducible refine (writeC_any b _ 90 6 244 _ HC7.out (by simp [memB_len.2.1]) (by decide) (by decide)).mono ?_
      rintro e w8 ⟨rfl, hc, hb⟩
      rw [mem12] at hc
      have hBC := hB7.trans hb
      have HC8 := Lib.hid hc
      clear hc hb HC7 hB7 hbl
      go_wp2_with (fail)
      have hC := HC8.out
      clear HC8
      obtain ⟨M, hM⟩ : ∃ M, memK 1 = M := ⟨_, rfl⟩
      have HMB := Lib.hid (show memB (1 + 1) = M from hM)
      have HMW := Lib.hid (memK_bd 1 (by omega))
      have hml := memK_len 1 (by omega)
      rw [hM] at hC HMW hml
      have HC := Lib.hid hC
      have HME := Lib.hid hM
      clear hC hM
      go_loopw [13] (fun kv wr => KMid b M w kv wr) (fun kv _ => 5 - (intOf kv).toNat)
      case atStart => unfold KMid; exact ⟨0, by omega, rfl, HC.out, hBC⟩
      case round =>
        obtain ⟨k, k1, rfl, hC, hB⟩ := hrel
        clear HC hBC
        by_cases hlt : k < 5
        · obtain ⟨S, st, hst⟩ := sought (i := 1) (k := k) (by omega) hlt HME.out
          have hS6 := hst.pos
          have hS5 := hst.few
          have HST := Lib.hid hst
          have HC := Lib.hid hC
          clear hst hC
          go_wp2_with (fail)
          with_reducible refine (newS_any k _).mono ?_
          rintro e w3 ⟨rfl, hs, hb⟩
          have hbl := HC.out.lt
          have HC3 := Lib.hid (HC.out.below hb)
          have HS3 : Hid (SeekP (fun x => wr.heap.size ≤ x) wr.heap.size (st 0) w3) := Lib.hid (by rw [HST.out.zero]; exact hs)
          have hB3 := hB.trans (hb.mono (by omega))
          have hz3 := hb.size
          clear hs hb hB HC
          generalize wr.heap.size = lo at HS3 hz3 hbl ⊢
          go_wp2_with (fail)
          go_loopw [15] (fun nv wr => KIn b lo lo M S st w nv wr) (fun nv _ => 60 - (intOf nv).toNat)
          case atStart => unfold KIn; exact ⟨0, hS6, rfl, hz3, HS3.out, HC3.out, hB3⟩
          case round =>
            obtain ⟨t, t1, rfl, hlw, hS, hC, hB⟩ := hrel
            clear HC3 HS3 hB3 hz3
            have HC := Lib.hid hC
            have HS := Lib.hid hS
            have ht60 : (t : Int) < 60 := by omega
            clear hC hS
            go_wp2_with (fail)
            with_reducible refine (stepC_any b lo lo M 90 (st t) _ HS.out HC.out (HST.out.inv t) (by omega) hlw (by omega) HMW.out).mono ?_
            rintro e w4 ⟨rfl, hs, hc, hb⟩
            rw [HST.out.step t] at hs ⊢
            have HS4 := Lib.hid hs
            have HC4 := Lib.hid hc
            have hB4 := hB.trans hb
            have hz4 : lo ≤ w4.heap.size := Nat.le_trans hlw hb.size
            clear hs hc hb HS HC hB hlw
            by_cases hlast : t + 1 < S
            · have e5 : ((st (t + 1)).next == 5) = false := by simpa using HST.out.going (t + 1) hlast
              rw [e5]
              clear e5
              go_wp2_with (fail)
              go_roundw
              case rel => unfold KIn; exact ⟨t + 1, hlast, by go_num, hz4, HS4.out, HC4.out, hB4⟩
              case measure => simp [intOf]; omega
            · have et : S = t + 1 := by omega
              subst et
              have e5 : ((st (t + 1)).next == 5) = true := by simpa using HST.out.done
              rw [e5]
              clear e5 hlast t1 hS5 hS6
              go_wp2_with (fail)
              with_reducible refine (valueS_any _ _ _ _ HS4.out).mono ?_
              rintro e w6 ⟨rfl, hd⟩
              rw [HST.out.there, HST.out.value]
              have HS6 := Lib.hid (HS4.out.below (drawn_bl hd _))
              have HC6 := Lib.hid (HC4.out.below (drawn_bl hd _))
              have hB6 := hB4.trans (drawn_bl hd _)
              clear hd HS4 HC4 hB4
              have hk : k = 0 ∨ k = 1 ∨ k = 2 ∨ k = 3 ∨ k = 4 := by omega
              clear hlt k1
              rcases hk with rfl | rfl | rfl | rfl | rfl
              · rw [show wantK 1 0 = 0 from by decide, show decide (0 < 0 ∧ 0 < 4) = false from by decide]
                go_wp2_with (fail)
                with_reducible refine (doneS_any _ _ _ _ HS6.out).mono ?_
                rintro e w7 ⟨rfl, rfl⟩
                rw [HST.out.done]
                go_wp2_with (fail)
                go_roundw
                case rel => unfold KMid; exact ⟨1, by omega, by rfl, HC6.out, hB6⟩
                case measure => simp [intOf]
              · rw [show wantK 1 1 = 10 from by decide, show decide (0 < 1 ∧ 1 < 4) = true from by decide]
                go_wp2_with (fail)
                with_reducible refine (doneS_any _ _ _ _ HS6.out).mono ?_
                rintro e w7 ⟨rfl, rfl⟩
                rw [HST.out.done]
                go_wp2_with (fail)
                go_roundw
                case rel => unfold KMid; exact ⟨2, by omega, by rfl, HC6.out, hB6⟩
                case measure => simp [intOf]
              · rw [show wantK 1 2 = 20 from by decide, show decide (0 < 2 ∧ 2 < 4) = true from by decide]
                go_wp2_with (fail)
                with_reducible refine (doneS_any _ _ _ _ HS6.out).mono ?_
                rintro e w7 ⟨rfl, rfl⟩
                rw [HST.out.done]
                go_wp2_with (fail)
                go_roundw
                case rel => unfold KMid; exact ⟨3, by omega, by rfl, HC6.out, hB6⟩
                case measure => simp [intOf]
              · rw [show wantK 1 3 = 30 from by decide, show decide (0 < 3 ∧ 3 < 4) = true from by decide]
                go_wp2_with (fail)
                with_reducible refine (doneS_any _ _ _ _ HS6.out).mono ?_
                rintro e w7 ⟨rfl, rfl⟩
                rw [HST.out.done]
                go_wp2_with (fail)
                go_roundw
                case rel => unfold KMid; exact ⟨4, by omega, by rfl, HC6.out, hB6⟩
                case measure => simp [intOf]
              · rw [show wantK 1 4 = 0 from by decide, show decide (0 < 4 ∧ 4 < 4) = false from by decide]
                go_wp2_with (fail)
                with_reducible refine (doneS_any _ _ _ _ HS6.out).mono ?_
                rintro e w7 ⟨rfl, rfl⟩
                rw [HST.out.done]
                go_wp2_with (fail)
                go_roundw
                case rel => unfold KMid; exact ⟨5, by omega, by rfl, HC6.out, hB6⟩
                case measure => simp [intOf]
        · have hk5 : k = 5 := by omega
          subst hk5
          have HC := Lib.hid hC
          clear hC
          go_wp2_with (fail)
          go_roundw
          case rel => unfold KOut; exact ⟨1 + 1, by omega, by rfl, HMB.out ▸ HC.out, hB⟩
          case measure => simp [intOf]
    · clear i1
      have HC0 := Lib.hid hC
      have hbl := hC.lt
      clear hC
      go_wp2_with (fail)
      with_reducible refine (refAt_any 179 _ (by decide) (by decide)).mono ?_
      rintro e w6 ⟨rfl, rfl⟩
      rw [show wAt 179 = 22 from by decide]
      go_wp2_with (fail)
      with_reducible refine (childat_any 22 2 1 _).mono ?_
      rintro e w6 ⟨rfl, hb⟩
      rw [show childAtI 22 2 1 = 29 from by decide]
      have HC6 := Lib.hid (HC0.out.below hb)
      have hB6 := hBC.trans (hb.mono (by omega))
      have hz6 := hb.size
      clear hb HC0 hBC
      go_wp2_with (fail)
      with_reducible refine (leafW_any 3 33 _).mono ?_
      rintro e w7 ⟨rfl, hq, hb, hz⟩
      have HC7 := Lib.hid (HC6.out.below hb)
      have HQ7 := Lib.hid (show IntsAt w7 w7.heap.size (some ⟨w6.heap.size, 0, none⟩) [3, 33] from hq.more (by omega))
      have hB7 := hB6.trans (hb.mono (by omega))
      have hz7 := hb.size
      clear hb hq hz HC6 hB6
      go_wp2_with (fail)
      with_reducible refine (makeC_any b (memB 2) 90 _ 2 2 [3, 33] _ (by kernel_rfl) HC7.out (by decide) HQ7.out (fun ad ha => by injection ha with ha; subst ha; show w6.heap.size ≠ b; omega) (by simp) (by rw [memB_len.2.2]; decide)).mono ?_
      rintro e w8 ⟨rfl, hc, hb⟩
      rw [show (((memB 2).length : Int) + 1) = 35 from by rw [memB_len.2.2]; rfl]
      have HC8 := Lib.hid hc
      have hB8 := hB7.trans hb
      have hz8 := hb.size
      clear hc hb HC7 HQ7 hB7
      go_wp2_with (fail)
      with_reducible refine (refAt_any 179 _ (by decide) (by decide)).mono ?_
      rintro e w9 ⟨rfl, rfl⟩
      rw [show wAt 179 = 22 from by decide]
      go_wp2_with (fail)
      with_reducible refine (atC_any b _ 90 29 _ HC8.out (by simp [memB_len.2.2]) (by decide) (by decide)).mono ?_
      rintro e w9 ⟨rfl, rfl⟩
      go_wp2_with (fail)
      with_reducible refine (of_any 2 35 _).mono ?_
      rintro e w9 ⟨rfl, rfl⟩
      rw [show wOf 2 35 = 282 from by decide]
      go_wp2_with (fail)
      with_reducible refine (dcssW_any 24 29 _ 282 _).mono ?_
      rintro e w9 ⟨rfl, hq, hb⟩
      have HC9 := Lib.hid (HC8.out.below hb)
      have HQ9 := Lib.hid hq
      have hB9 := hB8.trans (hb.mono (by omega))
      have hz9 := hb.size
      clear hb hq HC8 hB8
      go_wp2_with (fail)
      with_reducible refine (makeC_any b (memB 2 ++ [3, 33]) 90 _ 5 5 [24, 29, rdC (memB 2 ++ [3, 33]) 29, 282, 0] _ (by kernel_rfl) HC9.out (by decide) HQ9.out (fun ad ha => by injection ha with ha; subst ha; show w8.heap.size ≠ b; omega) (by simp) (by simp [memB_len.2.2])).mono ?_
      rintro e w10 ⟨rfl, hc, hb⟩
      rw [show ((((memB 2 ++ [3, 33] : List Int).length : Nat) : Int) + 1) = 37 from by simp [memB_len.2.2]]
      have HC10 := Lib.hid hc
      have hB10 := hB9.trans hb
      clear hc hb HC9 HQ9 hB9
      go_wp2_with (fail)
      with_reducible refine (of_any 5 37 _).mono ?_
      rintro e w11 ⟨rfl, rfl⟩
      rw [show wOf 5 37 = 301 from by decide]
      go_wp2_with (fail)
      with_reducible refine (writeC_any b _ 90 29 301 _ HC10.out (by simp [memB_len.2.2]) (by decide) (by decide)).mono ?_
      rintro e w11 ⟨rfl, hc, hb⟩
      have HC11 := Lib.hid hc
      have hB11 := hB10.trans hb
      clear hc hb HC10 hB10
      go_wp2_with (fail)
      with_reducible refine (writeC_any b _ 90 41 1 _ HC11.out (by rw [wrC_len]; simp [memB_len.2.2]) (by decide) (by decide)).mono ?_
      rintro e w12 ⟨rfl, hc, hb⟩
      rw [mem23] at hc
      have hBC := hB11.trans hb
      have HC12 := Lib.hid hc
      clear hc hb HC11 hB11 hbl hz6 hz7 hz8 hz9
      go_wp2_with (fail)
      have hC := HC12.out
      clear HC12
      obtain ⟨M, hM⟩ : ∃ M, memK 2 = M := ⟨_, rfl⟩
      have HMB := Lib.hid (show memB (2 + 1) = M from hM)
      have HMW := Lib.hid (memK_bd 2 (by omega))
      have hml := memK_len 2 (by omega)
      rw [hM] at hC HMW hml
      have HC := Lib.hid hC
      have HME := Lib.hid hM
      clear hC hM
      go_loopw [13] (fun kv wr => KMid b M w kv wr) (fun kv _ => 5 - (intOf kv).toNat)
      case atStart => unfold KMid; exact ⟨0, by omega, rfl, HC.out, hBC⟩
      case round =>
        obtain ⟨k, k1, rfl, hC, hB⟩ := hrel
        clear HC hBC
        by_cases hlt : k < 5
        · obtain ⟨S, st, hst⟩ := sought (i := 2) (k := k) (by omega) hlt HME.out
          have hS6 := hst.pos
          have hS5 := hst.few
          have HST := Lib.hid hst
          have HC := Lib.hid hC
          clear hst hC
          go_wp2_with (fail)
          with_reducible refine (newS_any k _).mono ?_
          rintro e w3 ⟨rfl, hs, hb⟩
          have hbl := HC.out.lt
          have HC3 := Lib.hid (HC.out.below hb)
          have HS3 : Hid (SeekP (fun x => wr.heap.size ≤ x) wr.heap.size (st 0) w3) := Lib.hid (by rw [HST.out.zero]; exact hs)
          have hB3 := hB.trans (hb.mono (by omega))
          have hz3 := hb.size
          clear hs hb hB HC
          generalize wr.heap.size = lo at HS3 hz3 hbl ⊢
          go_wp2_with (fail)
          go_loopw [15] (fun nv wr => KIn b lo lo M S st w nv wr) (fun nv _ => 60 - (intOf nv).toNat)
          case atStart => unfold KIn; exact ⟨0, hS6, rfl, hz3, HS3.out, HC3.out, hB3⟩
          case round =>
            obtain ⟨t, t1, rfl, hlw, hS, hC, hB⟩ := hrel
            clear HC3 HS3 hB3 hz3
            have HC := Lib.hid hC
            have HS := Lib.hid hS
            have ht60 : (t : Int) < 60 := by omega
            clear hC hS
            go_wp2_with (fail)
            with_reducible refine (stepC_any b lo lo M 90 (st t) _ HS.out HC.out (HST.out.inv t) (by omega) hlw (by omega) HMW.out).mono ?_
            rintro e w4 ⟨rfl, hs, hc, hb⟩
            rw [HST.out.step t] at hs ⊢
            have HS4 := Lib.hid hs
            have HC4 := Lib.hid hc
            have hB4 := hB.trans hb
            have hz4 : lo ≤ w4.heap.size := Nat.le_trans hlw hb.size
            clear hs hc hb HS HC hB hlw
            by_cases hlast : t + 1 < S
            · have e5 : ((st (t + 1)).next == 5) = false := by simpa using HST.out.going (t + 1) hlast
              rw [e5]
              clear e5
              go_wp2_with (fail)
              go_roundw
              case rel => unfold KIn; exact ⟨t + 1, hlast, by go_num, hz4, HS4.out, HC4.out, hB4⟩
              case measure => simp [intOf]; omega
            · have et : S = t + 1 := by omega
              subst et
              have e5 : ((st (t + 1)).next == 5) = true := by simpa using HST.out.done
              rw [e5]
              clear e5 hlast t1 hS5 hS6
              go_wp2_with (fail)
              with_reducible refine (valueS_any _ _ _ _ HS4.out).mono ?_
              rintro e w6 ⟨rfl, hd⟩
              rw [HST.out.there, HST.out.value]
              have HS6 := Lib.hid (HS4.out.below (drawn_bl hd _))
              have HC6 := Lib.hid (HC4.out.below (drawn_bl hd _))
              have hB6 := hB4.trans (drawn_bl hd _)
              clear hd HS4 HC4 hB4
              have hk : k = 0 ∨ k = 1 ∨ k = 2 ∨ k = 3 ∨ k = 4 := by omega
              clear hlt k1
              rcases hk with rfl | rfl | rfl | rfl | rfl
              · rw [show wantK 2 0 = 0 from by decide, show decide (0 < 0 ∧ 0 < 4) = false from by decide]
                go_wp2_with (fail)
                with_reducible refine (doneS_any _ _ _ _ HS6.out).mono ?_
                rintro e w7 ⟨rfl, rfl⟩
                rw [HST.out.done]
                go_wp2_with (fail)
                go_roundw
                case rel => unfold KMid; exact ⟨1, by omega, by rfl, HC6.out, hB6⟩
                case measure => simp [intOf]
              · rw [show wantK 2 1 = 10 from by decide, show decide (0 < 1 ∧ 1 < 4) = true from by decide]
                go_wp2_with (fail)
                with_reducible refine (doneS_any _ _ _ _ HS6.out).mono ?_
                rintro e w7 ⟨rfl, rfl⟩
                rw [HST.out.done]
                go_wp2_with (fail)
                go_roundw
                case rel => unfold KMid; exact ⟨2, by omega, by rfl, HC6.out, hB6⟩
                case measure => simp [intOf]
              · rw [show wantK 2 2 = 20 from by decide, show decide (0 < 2 ∧ 2 < 4) = true from by decide]
                go_wp2_with (fail)
                with_reducible refine (doneS_any _ _ _ _ HS6.out).mono ?_
                rintro e w7 ⟨rfl, rfl⟩
                rw [HST.out.done]
                go_wp2_with (fail)
                go_roundw
                case rel => unfold KMid; exact ⟨3, by omega, by rfl, HC6.out, hB6⟩
                case measure => simp [intOf]
              · rw [show wantK 2 3 = 33 from by decide, show decide (0 < 3 ∧ 3 < 4) = true from by decide]
                go_wp2_with (fail)
                with_reducible refine (doneS_any _ _ _ _ HS6.out).mono ?_
                rintro e w7 ⟨rfl, rfl⟩
                rw [HST.out.done]
                go_wp2_with (fail)
                go_roundw
                case rel => unfold KMid; exact ⟨4, by omega, by rfl, HC6.out, hB6⟩
                case measure => simp [intOf]
              · rw [show wantK 2 4 = 0 from by decide, show decide (0 < 4 ∧ 4 < 4) = false from by decide]
                go_wp2_with (fail)
                with_reducible refine (doneS_any _ _ _ _ HS6.out).mono ?_
                rintro e w7 ⟨rfl, rfl⟩
                rw [HST.out.done]
                go_wp2_with (fail)
                go_roundw
                case rel => unfold KMid; exact ⟨5, by omega, by rfl, HC6.out, hB6⟩
                case measure => simp [intOf]
        · have hk5 : k = 5 := by omega
          subst hk5
          have HC := Lib.hid hC
          clear hC
          go_wp2_with (fail)
          go_roundw
          case rel => unfold KOut; exact ⟨2 + 1, by omega, by rfl, HMB.out ▸ HC.out, hB⟩
          case measure => simp [intOf]
    · clear i1 hC
      go_wp2_with (fail)
      with_reducible refine (known16_any _).mono ?_
      rintro e w6 ⟨rfl, hb⟩
      have hB6 := hBC.trans (hb.mono (by have := hBC.size; omega))
      clear hb hBC
      go_wp2_with (fail)
      go_ret
      exact ⟨rfl, hbe ▸ hB6⟩
end Go.Proofs.Ythmcakobpjnnmaa
