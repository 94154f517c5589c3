/- The walk of RouteKnown. -/
import Derived.Test.YthmcakobpjnnmaaFew
namespace Go.Proofs.Ythmcakobpjnnmaa
set_option linter.unusedVariables false
set_option linter.unusedSimpArgs false
open Go.RowKit

def qx15 : List Int := [-9223372036854775808, 9223372036854775807]
theorem qx15_bd : ∀ i, i < qx15.length → -9223372036854775808 ≤ keyAt qx15 i ∧ keyAt qx15 i ≤ 9223372036854775807 := all_bd (by decide)
def kL15 : List Int := [9, 10, 39, 40, -9223372036854775808, 9223372036854775807]
def sL15 : List Int := [2, 4, 4, 3, 2, 3]
def wL15 : List Int := [0, 1, 3, 4, 0, 4]
def ints (L : List Int) : Array Value := (L.map (Value.int .i64)).toArray
theorem Blk.int {w : World} {g : Nat} {t : TypeId} {L : List Int} (h : Blk w g t (ints L)) (i : Nat) (hi : i < L.length) : w.cell? ⟨g, i, none⟩ = some (.int .i64 (keyAt L i)) := by
  rw [h.cell i]
  simp [ints, keyAt, List.getD_eq_getElem?_getD, hi]
/-- What a step of the law's loop over keys asks. -/
structure KnRow (i : Nat) (k s f : Int) : Prop where
  key : keyAt kL15 i = k
  steps : keyAt sL15 i = s
  want : keyAt wL15 i = f
theorem ok15s : ∀ i, i < 6 → RunOk q15 (keyAt kL15 i) (keyAt wL15 i).toNat ∧ (nOf q15 (keyAt kL15 i) : Int) = keyAt sL15 i ∧ ((keyAt wL15 i).toNat : Int) = keyAt wL15 i ∧ nOf q15 (keyAt kL15 i) ≤ 4 := by
  have key : ∀ (k : Int) (f : Nat), -9223372036854775808 ≤ k → k ≤ 9223372036854775807 → f ≤ 4 → (∀ j, j < f → keyAt q15 j ≤ k) → (∀ j, j < 4 → f ≤ j → k < keyAt q15 j) → RunOk q15 k f := fun k f a b c d e => runOk (by decide) (by decide) q15_bd a b c d (fun j h1 h2 => e j h2 h1)
  intro i hi
  have : i = 0 ∨ i = 1 ∨ i = 2 ∨ i = 3 ∨ i = 4 ∨ i = 5 := by omega
  rcases this with rfl | rfl | rfl | rfl | rfl | rfl
  · exact ⟨key 9 0 (by decide) (by decide) (by decide) (by decide) (by decide), by decide, by decide, by decide⟩
  · exact ⟨key 10 1 (by decide) (by decide) (by decide) (by decide) (by decide), by decide, by decide, by decide⟩
  · exact ⟨key 39 3 (by decide) (by decide) (by decide) (by decide) (by decide), by decide, by decide, by decide⟩
  · exact ⟨key 40 4 (by decide) (by decide) (by decide) (by decide) (by decide), by decide, by decide, by decide⟩
  · exact ⟨key (-9223372036854775808) 0 (by decide) (by decide) (by decide) (by decide) (by decide), by decide, by decide, by decide⟩
  · exact ⟨key 9223372036854775807 4 (by decide) (by decide) (by decide) (by decide) (by decide), by decide, by decide, by decide⟩
theorem okx15 : RunOk qx15 (-5) 1 := runOk (by decide) (by decide) qx15_bd (by decide) (by decide) (by decide) (by decide) (fun j h1 h2 => (by decide : ∀ j, j < 2 → 1 ≤ j → -5 < keyAt qx15 j) j h2 h1)
theorem nx15 : nOf qx15 (-5) = 3 := by decide
structure KnS (b b2 g : Nat) (v v2 : Value) (w : World) : Prop where
  m : ∃ c o, MemP b b v (atL q15) 2000 c o 0 w
  n : ∃ c o, MemP b2 b2 v2 (atL qx15) 2000 c o 0 w
  k : Blk w g 26 (ints kL15)
  s : Blk w (g + 1) 27 (ints sL15)
  f : Blk w (g + 1 + 1) 27 (ints wL15)
  ne : b ≠ b2
  lt1 : b < g
  lt2 : b2 < g
section
variable {b b2 g fb : Nat} {v v2 : Value} {w w' : World}
theorem KnS.below (h : KnS b b2 g v v2 w) (hb : Below w.heap.size w w') : KnS b b2 g v v2 w' := by
  obtain ⟨c, o, hm⟩ := h.m
  obtain ⟨c2, o2, hn⟩ := h.n
  exact ⟨⟨c, o, hm.below hb⟩, ⟨c2, o2, hn.below hb⟩, h.k.below hb h.k.lt, h.s.below hb h.s.lt, h.f.below hb h.f.lt, h.ne, h.lt1, h.lt2⟩
/-- Behind a step over the first memory. -/
theorem KnS.on1 {k : Int} {t : Nat} (h : KnS b b2 g v v2 w) {s : RS} (hf : RouteP fb s w) (hw : OnWay q15 k b b fb v t w') (ho : Only [fb, b] w w') : KnS b b2 g v v2 w' := by
  obtain ⟨c2, o2, hn⟩ := h.n
  have e1 : fb ≠ b2 := hf.blk.ne_ hn.blk (by decide)
  refine ⟨hw.mem, ⟨c2, o2, hn.only ho (by simp; exact ⟨fun e => e1 e.symm, fun e => h.ne e.symm⟩) (fun g' hg => by
    have e2 := own_blk_ne hn.own hf.blk (by decide)
    obtain ⟨c, o, hm⟩ := h.m
    have e3 := own_blk_ne hn.own hm.blk (by decide)
    simp
    exact ⟨fun e => e2 (by rw [hg, e]), fun e => e3 (by rw [hg, e])⟩)⟩, ?_, ?_, ?_, h.ne, h.lt1, h.lt2⟩
  · exact ho.blk h.k (by simp; exact ⟨h.k.ne_ hf.blk (by decide), by have := h.lt1; omega⟩)
  · exact ho.blk h.s (by simp; exact ⟨h.s.ne_ hf.blk (by decide), by have := h.lt1; omega⟩)
  · exact ho.blk h.f (by simp; exact ⟨h.f.ne_ hf.blk (by decide), by have := h.lt1; omega⟩)
end
def KnOut (b b2 g : Nat) (v v2 : Value) (w0 : World) (i : Value) (wr : World) : Prop := ∃ t : Nat, t ≤ 6 ∧ i = .int .i64 (t : Int) ∧ KnS b b2 g v v2 wr ∧ Below w0.heap.size w0 wr
def KnIn (b b2 g fb : Nat) (k : Int) (v v2 : Value) (w0 : World) (i : Value) (wr : World) : Prop := ∃ t : Nat, t < nOf q15 k ∧ i = .int .i64 ((t : Int) + 1) ∧ KnS b b2 g v v2 wr ∧ OnWay q15 k b b fb v t wr ∧ Below w0.heap.size w0 wr
def KnX (q : List Int) (b fb : Nat) (k : Int) (v : Value) (w0 : World) (i : Value) (wr : World) : Prop := ∃ t : Nat, t < nOf q k ∧ i = .int .i64 (t : Int) ∧ OnWay q k b b fb v t wr ∧ Below w0.heap.size w0 wr
set_option maxRecDepth 100000 in
set_option maxHeartbeats 2000000 in
theorem routeKnown_walk (w : World) : Calls Try.prog 3 #[] w fun e w' => e = .returned (.bool true) ∧ Below w.heap.size w w' := by
  have hq : IntsAt (w.alloc (.cells #[.int .i64 10, .int .i64 20, .int .i64 30, .int .i64 40] 2)) (w.alloc (.cells #[.int .i64 10, .int .i64 20, .int .i64 30, .int .i64 40] 2)).heap.size (some ⟨w.heap.size, 0, none⟩) q15 := (ints_row w 2 q15).more (by simp)
  have hB0 := (Below.refl w.heap.size w).alloc (Nat.le_refl _) (.cells #[.int .i64 10, .int .i64 20, .int .i64 30, .int .i64 40] 2)
  have HQ := Lib.hid hq
  clear hq
  go_enter Try.func3, Try.ntmps3
  go_wp2_with (fail)
  have hs0 : w.heap.size < (w.alloc (.cells #[.int .i64 10, .int .i64 20, .int .i64 30, .int .i64 40] 2)).heap.size := by simp
  generalize w.alloc (.cells #[.int .i64 10, .int .i64 20, .int .i64 30, .int .i64 40] 2) = w0 at HQ hB0 hs0 ⊢
  with_reducible refine (at_any _ 4 4 q15 _ (by kernel_rfl) HQ.out (by decide)).mono ?_
  rintro e w1 ⟨v, rfl, hm, hb⟩
  have hB1 := hB0.trans (hb.mono (by omega))
  have HM := Lib.hid hm
  have hz1 : w0.heap.size < w1.heap.size := hm.blk.lt
  clear hb hm HQ
  generalize w0.heap.size = b at HM hz1 hs0 ⊢
  have hq2 : IntsAt (w1.alloc (.cells #[.int .i64 (-9223372036854775808), .int .i64 9223372036854775807] 2)) (w1.alloc (.cells #[.int .i64 (-9223372036854775808), .int .i64 9223372036854775807] 2)).heap.size (some ⟨w1.heap.size, 0, none⟩) qx15 := (ints_row w1 2 qx15).more (by simp)
  have hb2 := (Below.refl w1.heap.size w1).alloc (Nat.le_refl _) (.cells #[.int .i64 (-9223372036854775808), .int .i64 9223372036854775807] 2)
  have hB2 := hB1.trans (hb2.mono hB1.size)
  have HM2 := Lib.hid (HM.out.below hb2)
  have HQ2 := Lib.hid hq2
  clear hq2
  clear hb2 hB1 HM
  go_wp2_with (fail)
  generalize w1.alloc (.cells #[.int .i64 (-9223372036854775808), .int .i64 9223372036854775807] 2) = w2 at HQ2 HM2 hB2 ⊢
  with_reducible refine (at_any _ 2 2 qx15 _ (by kernel_rfl) HQ2.out (by decide)).mono ?_
  rintro e w3 ⟨v2, rfl, hm3, hb⟩
  have HM3 := Lib.hid (HM2.out.below hb)
  have hB3 := hB2.trans (hb.mono hB2.size)
  have HN3 := Lib.hid hm3
  have hz3 : w2.heap.size < w3.heap.size := hm3.blk.lt
  have hz4 : b < w2.heap.size := HM2.out.blk.lt
  clear hb hm3 HQ2 HM2 hB2
  generalize w2.heap.size = b2 at HN3 hz3 hz4 ⊢
  go_wp2_with (fail)
  have hk : KnS b b2 w3.heap.size v v2 (((w3.alloc (.cells (ints kL15) 26)).alloc (.cells (ints sL15) 27)).alloc (.cells (ints wL15) 27)) := by
    have a1 := (Below.refl w3.heap.size w3).alloc (Nat.le_refl _) (.cells (ints kL15) 26)
    have a2 := a1.alloc (by simp) (.cells (ints sL15) 27)
    have a3 := a2.alloc (by simp; omega) (.cells (ints wL15) 27)
    have b1 := Blk.new w3 26 (ints kL15)
    have b2' := Blk.new (w3.alloc (.cells (ints kL15) 26)) 27 (ints sL15)
    have b3 := Blk.new ((w3.alloc (.cells (ints kL15) 26)).alloc (.cells (ints sL15) 27)) 27 (ints wL15)
    simp only [World.size_alloc] at b2' b3
    exact ⟨⟨_, _, HM3.out.below a3⟩, ⟨_, _, HN3.out.below a3⟩, (b1.alloc _).alloc _, b2'.alloc _, b3, by omega, by omega, by omega⟩
  have hB4 : Below w.heap.size w (((w3.alloc (.cells (ints kL15) 26)).alloc (.cells (ints sL15) 27)).alloc (.cells (ints wL15) 27)) := ((hB3.alloc hB3.size _).alloc (by have := hB3.size; simp; omega) _).alloc (by have := hB3.size; simp; omega) _
  have eg : w3.heap.size + 1 + 1 = w3.heap.size + 1 + 1 := rfl
  change Code.wp _ _ _ _ (((w3.alloc (.cells (ints kL15) 26)).alloc (.cells (ints sL15) 27)).alloc (.cells (ints wL15) 27))
  generalize ((w3.alloc (.cells (ints kL15) 26)).alloc (.cells (ints sL15) 27)).alloc (.cells (ints wL15) 27) = w4 at hk hB4 ⊢
  clear HM3 HN3 hz3 hz1 hB0 hB3 eg
  generalize w3.heap.size = g at hk ⊢
  go_loopw [8] (fun i wr => KnOut b b2 g v v2 w i wr) (fun i _ => 6 - (intOf i).toNat)
  case atStart => unfold KnOut; exact ⟨0, by omega, rfl, hk, hB4⟩
  case round =>
    obtain ⟨t, t1, rfl, hS, hB⟩ := hrel
    clear hk hB4
    by_cases hlt : t < 6
    · obtain ⟨hok, hn, hf, hn4⟩ := ok15s t hlt
      have ck : wr.cell? ⟨g, t, none⟩ = some (.int .i64 (keyAt kL15 t)) := hS.k.int t hlt
      obtain ⟨k, hk⟩ : ∃ k, keyAt kL15 t = k := ⟨_, rfl⟩
      obtain ⟨f, hfe⟩ : ∃ f, (keyAt wL15 t).toNat = f := ⟨_, rfl⟩
      rw [hk] at ck hok hn hn4
      rw [hfe] at hok hf
      have HS := Lib.hid hS
      have HOK := Lib.hid hok
      have HN := Lib.hid hn
      have HF := Lib.hid hf
      have HK := Lib.hid hk
      clear hS hok hn hf hk hfe
      go_wp2_with (fail)
      with_reducible refine (newR_any 8 k _).mono ?_
      rintro e w5 ⟨rfl, hf, hb⟩
      have hB5 := hB.trans (hb.mono hB.size)
      have HS5 := Lib.hid (HS.out.below hb)
      have HW5 := Lib.hid (show OnWay q15 k b b wr.heap.size v 0 w5 from ⟨(HS.out.below hb).m, hf⟩)
      have hfb := hB.size
      clear hb hf HS ck hB
      generalize wr.heap.size = fb at HW5 hfb ⊢
      go_wp2_with (fail)
      go_loopw [10] (fun i wr => KnIn b b2 g fb k v v2 w i wr) (fun i _ => 5 - (intOf i).toNat)
      case atStart => unfold KnIn; exact ⟨0, by unfold nOf; omega, rfl, HS5.out, HW5.out, hB5⟩
      case round =>
        obtain ⟨d, d1, rfl, hS, hW, hB⟩ := hrel
        clear HS5 HW5 hB5
        have HS := Lib.hid hS
        have HW := Lib.hid hW
        have hd4 := Nat.lt_of_lt_of_le d1 hn4
        have hd5 : (d : Int) + 1 < 20 := by omega
        clear hS hW
        go_wp2_with (fail)
        with_reducible refine (way_any (by decide) q15_bd HOK.out d _ HW.out).mono ?_
        rintro e w6 ⟨rfl, h6, o6⟩
        have hB6 := hB.trans (o6.below (B := w.heap.size) (by simp; omega) hB.size)
        have HS6 := Lib.hid (HS.out.on1 HW.out.fr h6 o6)
        have HW6 := Lib.hid h6
        clear h6 o6 HS HW hB
        by_cases hlast : d + 1 < nOf q15 k
        · have en : ((stAt q15 k (d + 1)).next == 6) = false := by simpa using HOK.out.going (d + 1) hlast
          rw [en]
          clear en
          go_wp2_with (fail)
          go_roundw
          case rel => unfold KnIn; exact ⟨d + 1, hlast, by go_num, HS6.out, HW6.out, hB6⟩
          case measure => simp [intOf]; omega
        · have et : nOf q15 k = d + 1 := by omega
          obtain ⟨e1, e2, e3⟩ := HOK.out.ended (d + 1) (by omega)
          have en : ((stAt q15 k (d + 1)).next == 6) = true := by simpa using e1
          have E3 := Lib.hid e3
          rw [en]
          have cs : w6.cell? ⟨g + 1, t, none⟩ = some (.int .i64 ((d : Int) + 1)) := by
            rw [HS6.out.s.int t hlt, ← HN.out, et]
            rfl
          have cf : w6.cell? ⟨g + 1 + 1, t, none⟩ = some (.int .i64 (f : Int)) := by
            rw [HS6.out.f.int t hlt, ← HF.out]
          have es : ((d : Int) + 1 != (d : Int) + 1) = false := by simp
          have ef : ((f : Int) != (f : Int)) = false := by simp
          have HCH : Hid (∀ n, Calls Try.prog 14 #[.pointer (some ⟨fb, 0, none⟩)] (w6.drewN n) fun e w' => e = .returned (.int .i64 (f : Int)) ∧ ∃ m, w' = w6.drewN m) := Lib.hid (fun n => by
            have := child_any fb _ _ (HW6.out.fr.drewN n)
            rw [e3] at this
            exact quiet_left this)
          clear en e1 e2 e3 et hlast d1
          go_wp2_with (fail)
          go_quiet ((go_at_call 14; exact HCH.out _))
          rename_i nq
          have hD := drawn_bl (Drawn.of w6 nq)
          have HS7 := Lib.hid (HS6.out.below (hD _))
          have hB7 := hB6.trans (hD _)
          clear hD cs cf
          generalize w6.drewN nq = w7 at HS7 hB7 ⊢
          go_wp2_with (fail)
          go_roundw
          case rel => unfold KnOut; exact ⟨t + 1, by omega, by go_num, HS7.out, hB7⟩
          case measure => simp [intOf]; omega
    · have HS := Lib.hid hS
      have hle : ¬ (t : Int) < 6 := by omega
      clear hS
      go_wp2_with (fail)
      with_reducible refine (newR_any 8 (-5) _).mono ?_
      rintro e w5 ⟨rfl, hf, hb⟩
      have hB5 := hB.trans (hb.mono hB.size)
      have HW5 := Lib.hid (show OnWay qx15 (-5) b2 b2 wr.heap.size v2 0 w5 from ⟨(HS.out.below hb).n, hf⟩)
      have hfb := hB.size
      have hlt2 : w.heap.size ≤ b2 := by omega
      clear hb hf HS hB
      generalize wr.heap.size = fb at HW5 hfb ⊢
      go_wp2_with (fail)
      go_loopw [12] (fun i wr => KnX qx15 b2 fb (-5) v2 w i wr) (fun i _ => 5 - (intOf i).toNat)
      case atStart => unfold KnX; exact ⟨0, by rw [nx15]; omega, rfl, HW5.out, hB5⟩
      case round =>
        obtain ⟨d, d1, rfl, hW, hB⟩ := hrel
        clear HW5 hB5
        have HW := Lib.hid hW
        rw [nx15] at d1
        have hd5 : (d : Int) < 20 := by omega
        clear hW
        go_wp2_with (fail)
        with_reducible refine (way_any (by decide) qx15_bd okx15 d _ HW.out).mono ?_
        rintro e w6 ⟨rfl, h6, o6⟩
        have hB6 := hB.trans (o6.below (B := w.heap.size) (by simp; omega) hB.size)
        have HW6 := Lib.hid h6
        clear h6 o6 HW hB
        by_cases hlast : d + 1 < 3
        · have en : ((stAt qx15 (-5) (d + 1)).next == 6) = false := by simpa using okx15.going (d + 1) (by rw [nx15]; exact hlast)
          rw [en]
          clear en
          go_wp2_with (fail)
          go_roundw
          case rel => unfold KnX; exact ⟨d + 1, by rw [nx15]; exact hlast, by go_num, HW6.out, hB6⟩
          case measure => simp [intOf]; omega
        · obtain ⟨e1, e2, e3⟩ := okx15.ended (d + 1) (by rw [nx15]; omega)
          have en : ((stAt qx15 (-5) (d + 1)).next == 6) = true := by simpa using e1
          rw [en]
          have E1 := Lib.hid e1
          have E2 := Lib.hid e2
          have E3 := Lib.hid e3
          clear e1 e2 e3
          clear en hlast d1
          go_wp2_with (fail)
          with_reducible refine (known15_any _).mono ?_
          rintro e w7 ⟨rfl, hb⟩
          have hB7 := hB6.trans (hb.mono hB6.size)
          have HF := Lib.hid (HW6.out.below hb).fr
          clear hb HW6 hB6
          go_wp2_with (fail)
          with_reducible refine (child_any _ _ _ HF.out).mono ?_
          rintro e w8 ⟨rfl, rfl⟩
          rw [E3.out]
          go_wp2_with (fail)
          with_reducible refine (degree_any _ _ _ HF.out E1.out).mono ?_
          rintro e w8 ⟨rfl, rfl⟩
          rw [E2.out]
          have el : ((qx15.length : Int) + 1 == 3) = true := rfl
          go_wp2_with (fail)
          go_ret
          exact ⟨rfl, hB7⟩
end Go.Proofs.Ythmcakobpjnnmaa
