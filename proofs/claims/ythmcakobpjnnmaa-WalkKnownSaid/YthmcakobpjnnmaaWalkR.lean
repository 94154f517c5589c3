/- The walk of WalkKnown: lists alike; a walk alone. -/
import Derived.Test.YthmcakobpjnnmaaWalkU
import Derived.Test.YthmcakobpjnnmaaSeekK
namespace Go.Proofs.Ythmcakobpjnnmaa
set_option linter.unusedVariables false
set_option linter.unusedSimpArgs false
open Go.RowKit

theorem PairsAt.both {w : World} {B : Nat} {A : Option Addr} {L : List (Int × Int)} (h : PairsAt w B A L) (hl : 0 < L.length) : ∃ ad, A = some ad ∧ ad.block < B ∧ ∀ i, i < L.length → w.cell? (ad.add (i * 2)) = some (.int .i64 (pkey L i)) ∧ w.cell? (ad.add (i * 2 + 1)) = some (.int .i64 (pval L i)) := by
  obtain ⟨ad, e, hb, hc⟩ := h.2 hl
  exact ⟨ad, e, hb, fun i hi => ⟨hc _ _ (cellsP_key hi), hc _ _ (cellsP_val hi)⟩⟩
set_option maxHeartbeats 1000000 in
set_option maxRecDepth 100000 in
theorem pairsSame_any (A A2 : Option Addr) (c c2 N N2 B : Nat) (q : List (Int × Int)) (w : World) (hN : N = q.length) (hN2 : N2 = q.length) (h1 : PairsAt w B A q) (h2 : PairsAt w B A2 q) (hl : q.length ≤ 1000000) :
    Calls Try.prog 52 #[.slice A N c, .slice A2 N2 c2] w fun e w' => e = .returned (.bool true) ∧ Drawn w w' := by
  subst hN
  subst hN2
  have H1 := Lib.hid h1
  have H2 := Lib.hid h2
  clear h1 h2
  go_enter Try.func52, Try.ntmps52
  go_wp2_with (fail)
  go_loopw [5] (fun v wr => ∃ (i m : Nat), i ≤ q.length ∧ v = .int .i64 i ∧ wr = w.drewN m) (fun v _ => q.length - (intOf v).toNat)
  case atStart => exact ⟨0, 0, by omega, rfl, rfl⟩
  case round =>
    obtain ⟨i, m, i1, rfl, rfl⟩ := hrel
    by_cases hlt : i < q.length
    · obtain ⟨ad, rfl, _, hc⟩ := H1.out.both (by omega)
      obtain ⟨k1, v1⟩ := hc i hlt
      clear hc
      obtain ⟨ad2, rfl, _, hc⟩ := H2.out.both (by omega)
      obtain ⟨k2, v2⟩ := hc i hlt
      clear hc
      generalize pkey q i = x at k1 k2
      generalize pval q i = y at v1 v2
      have u1 : w.cell? { block := (ad.add (i * 2)).block, off := (ad.add (i * 2)).off + 1 } = some (.int .i64 y) := by rw [← Addr.add_add] at v1; exact v1
      have u2 : w.cell? { block := (ad2.add (i * 2)).block, off := (ad2.add (i * 2)).off + 1 } = some (.int .i64 y) := by rw [← Addr.add_add] at v2; exact v2
      go_wp2_with (fail)
      go_quiet (fail)
      go_wp2_with (fail)
      go_roundw
      case rel => exact ⟨i + 1, _, by omega, by go_num, rfl⟩
      case measure => simp [intOf]; omega
    · go_wp2_with (fail)
      go_ret
      exact ⟨rfl, Drawn.of _ _⟩
def WS.it (R : Int → Int) (s : WS) : Nat → WS
  | 0 => s
  | t + 1 => (WS.it R s t).step R
theorem WS.Inv.it {s : WS} (h : s.Inv) {R : Int → Int} (hR : ∀ a, -9223372036854775808 ≤ R a ∧ R a ≤ 9223372036854775807) : ∀ t, (WS.it R s t).Inv
  | 0 => h
  | t + 1 => (WS.Inv.it h hR t).step hR
/-- A memory whose row lies ahead of a place. -/
def MemL (b lo : Nat) (C : List Int) (size : Int) (w : World) : Prop := ∃ v count odd, MemP b b v C size count odd 0 w ∧ b < lo ∧ ∀ g, v.ownBlock = some g → g < lo
theorem MemL.c {b lo : Nat} {C : List Int} {size : Int} {w : World} (h : MemL b lo C size w) : MemC b C size w := by
  obtain ⟨v, c, o, h, _⟩ := h; exact ⟨v, c, o, h⟩
theorem MemC.l {b : Nat} {C : List Int} {size : Int} {w : World} (h : MemC b C size w) : MemL b w.heap.size C size w := by
  obtain ⟨v, c, o, h⟩ := h; exact ⟨v, c, o, h, h.blk.lt, fun g hg => own_lt h.own g hg⟩
theorem MemL.below {b lo : Nat} {C : List Int} {size : Int} {w w' : World} (h : MemL b lo C size w) (hb : Below w.heap.size w w') : MemL b lo C size w' := by
  obtain ⟨v, c, o, h, r⟩ := h; exact ⟨v, c, o, h.below hb, r⟩
def StepLPost (b fb lo : Nat) (C : List Int) (size : Int) (s : WS) (w : World) (e : Ending) (w' : World) : Prop := e = .returned (.bool ((s.step (rdC C)).next == 6)) ∧ WalkP (fun x => lo ≤ x) fb (s.step (rdC C)) w' ∧ MemL b lo C size w' ∧ Chg (fun x => x = b ∨ lo ≤ x) w w'
/-- Step, of a frame all of whose blocks lie above the memory's. -/
theorem stepL_any (b fb lo : Nat) (C : List Int) (size : Int) (s : WS) (w : World) (h : WalkP (fun x => lo ≤ x) fb s w) (hm : MemL b lo C size w) (hI : s.Inv) (hlw : lo ≤ w.heap.size) (hC : C.length ≤ 1000000) (hw : ∀ x ∈ C, -9223372036854775808 ≤ x ∧ x ≤ 9223372036854775807) (h1 : s.levels.length < 1000) (h2 : s.pairs.length < 1000) (h3 : s.spots.length < 1000) :
    Calls Try.prog 85 #[.pointer (some ⟨fb, 0, none⟩), .pointer (some ⟨b, 0, none⟩)] w (StepLPost b fb lo C size s w) := by
  obtain ⟨v, count, odd, hm, hb, hv⟩ := hm
  refine (stepW_any _ fb b s b v C size count odd 0 w h hm ⟨by omega, fun g hg => by have := hv g hg; omega⟩ hI hC (bd_of hw) (by omega) (by omega) (by omega)).mono ?_
  rintro e w' ⟨he, h1, h2, h3⟩
  exact ⟨he, h1.mono (fun x hx => hx.elim id (fun h => by omega)), ⟨v, _, _, h2, hb, hv⟩, h3.mono (fun x hx => hx.symm)⟩
/-- A run of a walk to its end. -/
structure Walked (R : Int → Int) (s : WS) (S : Nat) (st : Nat → WS) : Prop where
  zero : st 0 = s
  step : ∀ t, (st t).step R = st (t + 1)
  inv : ∀ t, (st t).Inv
  going : ∀ t, t < S → (st t).next ≠ 6
  done : (st S).next = 6
  few : S ≤ 1000
  pos : 0 < S
  l1 : ∀ t, t ≤ S → (st t).levels.length < 1000
  l2 : ∀ t, t ≤ S → (st t).pairs.length < 1000
  l3 : ∀ t, t ≤ S → (st t).spots.length < 1000
def AloneIn (b fb lo : Nat) (M : List Int) (size : Int) (S : Nat) (st : Nat → WS) (w0 : World) (nv : Value) (wr : World) : Prop := ∃ t : Nat, t < S ∧ nv = .int .i64 (t : Int) ∧ lo ≤ wr.heap.size ∧ WalkP (fun x => lo ≤ x) fb (st t) wr ∧ MemL b lo M size wr ∧ Chg (fun x => x = b) w0 wr
def AlonePost (b : Nat) (M : List Int) (size : Int) (s : WS) (w : World) (e : Ending) (w' : World) : Prop := e = .returned (.pointer (some ⟨w.heap.size, 0, none⟩)) ∧ WalkP (fun x => w.heap.size ≤ x) w.heap.size s w' ∧ MemC b M size w' ∧ Chg (fun x => x = b) w w'
set_option maxHeartbeats 1000000 in
set_option maxRecDepth 100000 in
theorem alone_any (b : Nat) (M : List Int) (size lo hi : Int) (back : Bool) (most : Int) (values : Bool) (S : Nat) (st : Nat → WS) (w : World) (hM : MemC b M size w) (hl : M.length ≤ 1000000) (hw : ∀ x ∈ M, -9223372036854775808 ≤ x ∧ x ≤ 9223372036854775807) (hst : Walked (rdC M) (WS.init lo hi back most values) S st) :
    Calls Try.prog 49 #[.pointer (some ⟨b, 0, none⟩), .int .i64 lo, .int .i64 hi, .bool back, .int .i64 most, .bool values] w (AlonePost b M size (st S) w) := by
  have hS6 := hst.pos
  have hS5 := hst.few
  have HM := Lib.hid hM
  have HW := Lib.hid hw
  have HST := Lib.hid hst
  clear hM hw hst
  go_enter Try.func49, Try.ntmps49
  go_wp2_with (fail)
  with_reducible refine (newW_any lo hi back most values _).mono ?_
  rintro e w1 ⟨rfl, hs, hb⟩
  have HS1 : Hid (WalkP (fun x => w.heap.size ≤ x) w.heap.size (st 0) w1) := Lib.hid (by rw [HST.out.zero]; exact hs)
  have HM1 := Lib.hid (HM.out.l.below hb)
  have HC1 : Hid (Chg (fun x => x = b) w w1) := Lib.hid (Chg.of_below hb)
  have hz1 := hb.size
  clear hs hb HM
  go_wp2_with (fail)
  go_loopw [14] (fun nv wr => AloneIn b w.heap.size w.heap.size M size S st w nv wr) (fun nv _ => 1000 - (intOf nv).toNat)
  case atStart => unfold AloneIn; exact ⟨0, hS6, rfl, hz1, HS1.out, HM1.out, HC1.out⟩
  case round =>
    obtain ⟨t, t1, rfl, hlw, hS, hC, hB⟩ := hrel
    clear HS1 HM1 HC1 hz1
    have HC := Lib.hid hC
    have HS := Lib.hid hS
    have HB := Lib.hid hB
    clear hC hS hB
    have ht60 : (t : Int) < 20000 := by omega
    go_wp2_with (fail)
    with_reducible refine (stepL_any b w.heap.size w.heap.size M size (st t) _ HS.out HC.out (HST.out.inv t) hlw hl HW.out (HST.out.l1 t (by omega)) (HST.out.l2 t (by omega)) (HST.out.l3 t (by omega))).mono ?_
    rintro e w4 ⟨rfl, hs, hc, hb⟩
    rw [HST.out.step t] at hs ⊢
    have HS4 := Lib.hid hs
    have HC4 := Lib.hid hc
    have HB4 := Lib.hid (HB.out.grow hb (fun x hx => hx))
    have hz4 : w.heap.size ≤ w4.heap.size := Nat.le_trans hlw hb.size
    clear hs hc hb HS HC HB hlw
    by_cases hlast : t + 1 < S
    · have e5 : ((st (t + 1)).next == 6) = false := by simpa using HST.out.going (t + 1) hlast
      rw [e5]
      clear e5
      go_wp2_with (fail)
      go_roundw
      case rel => unfold AloneIn; exact ⟨t + 1, hlast, by go_num, hz4, HS4.out, HC4.out, HB4.out⟩
      case measure => simp [intOf]; omega
    · have et : S = t + 1 := by omega
      subst et
      have e5 : ((st (t + 1)).next == 6) = true := by simpa using HST.out.done
      rw [e5]
      clear e5 hlast t1 hS5 hS6
      go_wp2_with (fail)
      go_ret
      exact ⟨rfl, HS4.out, HC4.out.c, HB4.out⟩
end Go.Proofs.Ythmcakobpjnnmaa
