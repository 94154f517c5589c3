/- The walk of RouteRight. -/
import Derived.Test.YthmcakobpjnnmaaFew
import Derived.Test.YthmcakobpjnnmaaCells
namespace Go.Proofs.Ythmcakobpjnnmaa
set_option linter.unusedVariables false
set_option linter.unusedSimpArgs false
open Go.RowKit

def RightRel (q : List Int) (k : Int) (w0 : World) (B b fb B2 : Nat) (v u : Value) (i : Value) (wr : World) : Prop := ∃ t : Nat, t < nOf q k ∧ i = .int .i64 (t : Int) ∧ OnWayC q k B b fb v t wr ∧ wr.ownsRow B2 2 1 u (atL q).length ((atL q).map (Value.int .i64)) ∧ Below w0.heap.size w0 wr
set_option maxRecDepth 100000 in
set_option maxHeartbeats 2000000 in
theorem routeRight_walk (A : Option Addr) (c : Nat) (l : List Int) (k : Int) {w : World} (hq : IntsAt w w.heap.size A l) (hl : l.length * 8 ≤ 140737488351232) (hc : l.length ≤ c) (hw : ∀ i, i < l.length → -9223372036854775808 ≤ keyAt l i ∧ keyAt l i ≤ 9223372036854775807) (wf : (Lit.int .i64 k).wf = true) :
    Calls Try.prog 5 #[.slice A l.length c, .int .i64 k] w fun e w' => e = .returned (.bool true) ∧ Below w.heap.size w w' := by
  obtain ⟨k0, k1⟩ := Go.bounds_i64 wf
  have HQ := Lib.hid hq
  have HW := Lib.hid hw
  clear hq hw wf
  go_enter Try.func5, Try.ntmps5
  go_wp2_with (fail)
  with_reducible refine (wide_any A c l _ HQ.out (by omega) HW.out).mono ?_
  rintro e V ⟨A1, c1, rfl, hq1, hB1⟩
  have HQ1 := Lib.hid hq1
  have hr := wideL_right l
  have hl1 := wideL_len l
  have hw1 := wideL_bd HW.out
  obtain ⟨f, _, f1, f2, f3⟩ := findI_split (k := k) hr
  have HO := Lib.hid (runOk hr (by omega) hw1 k0 k1 f1 f2 f3)
  have HW1 := Lib.hid hw1
  have F2 := Lib.hid f2
  have F3 := Lib.hid f3
  clear hq1 HQ HW hr hw1 f2 f3
  generalize wideL l = q at HQ1 hl1 HO HW1 f1 F2 F3 ⊢
  go_wp2_with (fail)
  with_reducible refine (at_any A1 c1 q.length q _ rfl HQ1.out hl1).mono ?_
  rintro e w1 ⟨v, rfl, hm, hb1⟩
  have HM := Lib.hid hm
  have hz1 : V.heap.size < w1.heap.size := hm.blk.lt
  have HAL := Lib.hid (atL_len q)
  clear hm
  go_wp2_with (fail)
  with_reducible refine (cells_any _ _ _ _ _ _ _ _ _ HM.out (by have := HAL.out; omega)).mono ?_
  rintro e w2 ⟨u, rfl, hu, hb⟩
  have HU := Lib.hid hu
  obtain ⟨B2, hB2⟩ : ∃ B2, w1.heap.size = B2 := ⟨_, rfl⟩
  have hb2 := hb1.trans (hb.mono hb1.size)
  have HM2 := Lib.hid (HM.out.below hb)
  have hz2 : w1.heap.size ≤ w2.heap.size := hb.size
  rw [hB2] at hz1 hz2 HU
  clear hu hb HM hb1 hB2
  obtain ⟨A2, c2, rfl⟩ := own_shape HU.out
  go_wp2_with (fail)
  with_reducible refine (newR_any 8 k _).mono ?_
  rintro e w3 ⟨rfl, hf, hb⟩
  have hb3 := hb2.trans (hb.mono hb2.size)
  have HC := Lib.hid (show OnWayC q k V.heap.size V.heap.size w2.heap.size v 0 w3 from ⟨HM2.out.below hb, hf⟩)
  have hlt2 : ∀ g, (Value.slice A2 (atL q).length c2).ownBlock = some g → B2 ≤ g ∧ g < w2.heap.size := fun g h => HU.out.lt g h
  have HU3 := Lib.hid (own_below HU.out hb)
  have hfew := HO.out.few
  have hpos : 0 < nOf q k := by unfold nOf; omega
  have hns : ∀ g, (Value.slice A2 (atL q).length c2).ownBlock = some g → g ∉ [w2.heap.size, V.heap.size] := fun g h => by have := hlt2 g h; simp; omega
  have HNS := Lib.hid hns
  clear hb hf HM2 HU hb2 hns hlt2
  generalize w2.heap.size = fb at HC hz2 HNS ⊢
  go_wp2_with (fail)
  go_loopw [10] (fun i wr => RightRel q k V V.heap.size V.heap.size fb B2 v (.slice A2 (atL q).length c2) i wr) (fun i _ => nOf q k - (intOf i).toNat)
  case atStart => unfold RightRel; exact ⟨0, hpos, rfl, HC.out, HU3.out, hb3⟩
  case round =>
    obtain ⟨t, t1, rfl, hC, hU, hB⟩ := hrel
    clear HC HU3 hb3
    have H := Lib.hid hC
    have HU := Lib.hid hU
    have htl : (t : Int) < 200 := by omega
    clear hC hU
    go_wp2_with (fail)
    with_reducible refine (wayC_any (by omega) HW1.out HO.out t t1 _ H.out).mono ?_
    rintro e w5 ⟨rfl, h5, o5⟩
    have hB5 := hB.trans (o5.below (B := V.heap.size) (by simp; omega) hB.size)
    have H5 := Lib.hid h5
    have HU5 := Lib.hid (o5.own HU.out HNS.out)
    clear h5 o5 H HU hB
    by_cases hlt : t + 1 < nOf q k
    · have en : ((stAt q k (t + 1)).next == 6) = false := by simpa using HO.out.going (t + 1) hlt
      rw [en]
      clear en
      go_wp2_with (fail)
      go_roundw
      case rel => unfold RightRel; exact ⟨t + 1, hlt, by go_num, H5.out, HU5.out, hB5⟩
      case measure => simp [intOf]; omega
    · have et : nOf q k = t + 1 := by omega
      obtain ⟨e1, e2, e3⟩ := HO.out.ended (t + 1) (by omega)
      have en : ((stAt q k (t + 1)).next == 6) = true := by simpa using e1
      have E1 := Lib.hid e1
      have E2 := Lib.hid e2
      have E3 := Lib.hid e3
      rw [en]
      clear en et hlt hfew hpos t1 e1 e2 e3
      go_wp2_with (fail)
      with_reducible refine (child_any _ _ _ H5.out.fr).mono ?_
      rintro e w7 ⟨rfl, rfl⟩
      rw [E3.out]
      go_wp2_with (fail)
      with_reducible refine (known15_any _).mono ?_
      rintro e w6 ⟨rfl, hb⟩
      have hB6 := hB5.trans (hb.mono hB5.size)
      have H6 := Lib.hid (H5.out.below hb)
      have HU6 := Lib.hid (own_below HU5.out hb)
      clear hb H5 hB5 HU5
      go_wp2_with (fail)
      with_reducible refine (done_any _ _ _ H6.out.fr).mono ?_
      rintro e w7 ⟨rfl, rfl⟩
      rw [E1.out]
      have en6 : ((6 : Int) == 6) = true := rfl
      go_wp2_with (fail)
      with_reducible refine (degree_any _ _ _ H6.out.fr E1.out).mono ?_
      rintro e w7 ⟨rfl, rfl⟩
      rw [E2.out]
      have ed : ((q.length : Int) + 1 == (q.length : Int) + 1) = true := by simp
      have hQ6 := HQ1.out.below hB6
      have hf0 : (0 : Int) ≤ f := by omega
      have hf1 : (f : Int) ≤ q.length := by omega
      by_cases g0 : f = 0
      · subst g0
        by_cases g1 : q.length = 0
        · have hqn : q = [] := List.eq_nil_of_length_eq_zero g1
          subst hqn
          have ey : ((0 : Int) == (([] : List Int).length : Int)) = true := rfl
          go_wp2_with (fail)
          with_reducible refine (cells_any _ _ _ _ _ _ _ _ _ H6.out.mem (by have := HAL.out; omega)).mono ?_
          rintro e w8 ⟨u8, rfl, hu, hb⟩
          have hB8 := hB6.trans (hb.mono hB6.size)
          have H8 := Lib.hid (H6.out.below hb)
          have h82 := (IntsAt.of_own (own_below HU6.out hb)).2
          obtain ⟨A8, c8, rfl⟩ := own_shape hu
          have h81 := (IntsAt.of_own hu).2
          have I1 := Lib.hid h81
          have I2 := Lib.hid h82
          clear hb H6 hB6 HU6 hu h81 h82
          go_wp2_with (fail)
          with_reducible refine (words15_any A2 A8 c2 c8 _ _ _ (atL []) _ rfl rfl I2.out I1.out (by have := HAL.out; omega)).mono ?_
          rintro e w9 ⟨rfl, hd⟩
          have hB9 := hB8.trans (drawn_bl hd _)
          have H9 := Lib.hid (H8.out.below (drawn_bl hd _))
          clear hd H8 hB8
          go_wp2_with (fail)
          with_reducible refine (odd_any _ _ _ _ _ _ _ _ _ H9.out.mem).mono ?_
          rintro e w10 ⟨rfl, rfl⟩
          have hBB := below_called hB1 hB9
          go_wp2_with (fail)
          go_ret
          exact ⟨rfl, hBB⟩
        · have ey2 : ¬ (0 : Int) = (q.length : Int) := by omega
          have ey3 : ¬ 0 = q.length := by omega
          have ey4 : ((0 : Int) == (q.length : Int)) = false := by rw [beq_eq_false_iff_ne]; omega
          obtain ⟨ad, rfl, hbd, hcc⟩ := hQ6.cells (by omega)
          have cc2 : w6.cell? ad = some (.int .i64 (keyAt q 0)) := hcc 0 (by omega)
          have le2 := F3.out 0 (Nat.le_refl _) (by omega)
          generalize keyAt q 0 = x2 at cc2 le2
          have hlen : 0 < q.length := by omega
          clear hcc g1 hQ6
          go_wp2_with (fail)
          with_reducible refine (cells_any _ _ _ _ _ _ _ _ _ H6.out.mem (by have := HAL.out; omega)).mono ?_
          rintro e w8 ⟨u8, rfl, hu, hb⟩
          have hB8 := hB6.trans (hb.mono hB6.size)
          have H8 := Lib.hid (H6.out.below hb)
          have h82 := (IntsAt.of_own (own_below HU6.out hb)).2
          obtain ⟨A8, c8, rfl⟩ := own_shape hu
          have h81 := (IntsAt.of_own hu).2
          have I1 := Lib.hid h81
          have I2 := Lib.hid h82
          clear hb H6 hB6 HU6 hu h81 h82
          go_wp2_with (fail)
          with_reducible refine (words15_any A2 A8 c2 c8 _ _ _ (atL q) _ rfl rfl I2.out I1.out (by have := HAL.out; omega)).mono ?_
          rintro e w9 ⟨rfl, hd⟩
          have hB9 := hB8.trans (drawn_bl hd _)
          have H9 := Lib.hid (H8.out.below (drawn_bl hd _))
          clear hd H8 hB8
          go_wp2_with (fail)
          with_reducible refine (odd_any _ _ _ _ _ _ _ _ _ H9.out.mem).mono ?_
          rintro e w10 ⟨rfl, rfl⟩
          have hBB := below_called hB1 hB9
          go_wp2_with (fail)
          go_ret
          exact ⟨rfl, hBB⟩
      · obtain ⟨g, rfl⟩ : ∃ g, f = g + 1 := ⟨f - 1, by omega⟩
        have eg : ((g + 1 : Nat) : Int) = (g : Int) + 1 := by omega
        rw [eg]
        have ez : ((g : Int) + 1 == 0) = false := by rw [beq_eq_false_iff_ne]; omega
        have ez1 : ¬ ((g : Int) + 1 = 0) := by omega
        have eh : (g : Int) + 1 - 1 = g := by omega
        obtain ⟨ad, rfl, hbd, hcc⟩ := hQ6.cells (by omega)
        have cc1 : w6.cell? (ad.add g) = some (.int .i64 (keyAt q g)) := hcc g (by omega)
        have le1 := F2.out g (by omega)
        have FF := Lib.hid f1
        clear g0 hf0 hf1 eg
        by_cases g1 : q.length = g + 1
        · have ey : ((g : Int) + 1 == (q.length : Int)) = true := by rw [g1]; simp
          have hgl : g < q.length := by omega
          have hqn : ¬ q = [] := by intro e; subst e; simp at hgl
          have hqz : ((q.length : Int) == 0) = false := by rw [beq_eq_false_iff_ne]; omega
          generalize keyAt q g = x1 at cc1 le1
          clear hcc g1 hQ6 f1
          go_wp2_with (fail)
          with_reducible refine (cells_any _ _ _ _ _ _ _ _ _ H6.out.mem (by have := HAL.out; omega)).mono ?_
          rintro e w8 ⟨u8, rfl, hu, hb⟩
          have hB8 := hB6.trans (hb.mono hB6.size)
          have H8 := Lib.hid (H6.out.below hb)
          have h82 := (IntsAt.of_own (own_below HU6.out hb)).2
          obtain ⟨A8, c8, rfl⟩ := own_shape hu
          have h81 := (IntsAt.of_own hu).2
          have I1 := Lib.hid h81
          have I2 := Lib.hid h82
          clear hb H6 hB6 HU6 hu h81 h82
          go_wp2_with (fail)
          with_reducible refine (words15_any A2 A8 c2 c8 _ _ _ (atL q) _ rfl rfl I2.out I1.out (by have := HAL.out; omega)).mono ?_
          rintro e w9 ⟨rfl, hd⟩
          have hB9 := hB8.trans (drawn_bl hd _)
          have H9 := Lib.hid (H8.out.below (drawn_bl hd _))
          clear hd H8 hB8
          go_wp2_with (fail)
          with_reducible refine (odd_any _ _ _ _ _ _ _ _ _ H9.out.mem).mono ?_
          rintro e w10 ⟨rfl, rfl⟩
          have hBB := below_called hB1 hB9
          go_wp2_with (fail)
          go_ret
          exact ⟨rfl, hBB⟩
        · have ey2 : ¬ ((g : Int) + 1 = (q.length : Int)) := by omega
          have ey3 : ¬ g + 1 = q.length := by omega
          have ey4 : ((g : Int) + 1 == (q.length : Int)) = false := by rw [beq_eq_false_iff_ne]; omega
          have cc2 : w6.cell? { block := ad.block, off := ad.off + (g + 1) } = some (.int .i64 (keyAt q (g + 1))) := hcc (g + 1) (by omega)
          have le2 := F3.out (g + 1) (Nat.le_refl _) (by omega)
          generalize keyAt q g = x1 at cc1 le1
          generalize keyAt q (g + 1) = x2 at cc2 le2
          have hlen : g + 1 < q.length := by omega
          clear hcc g1 hQ6 f1
          go_wp2_with (fail)
          with_reducible refine (cells_any _ _ _ _ _ _ _ _ _ H6.out.mem (by have := HAL.out; omega)).mono ?_
          rintro e w8 ⟨u8, rfl, hu, hb⟩
          have hB8 := hB6.trans (hb.mono hB6.size)
          have H8 := Lib.hid (H6.out.below hb)
          have h82 := (IntsAt.of_own (own_below HU6.out hb)).2
          obtain ⟨A8, c8, rfl⟩ := own_shape hu
          have h81 := (IntsAt.of_own hu).2
          have I1 := Lib.hid h81
          have I2 := Lib.hid h82
          clear hb H6 hB6 HU6 hu h81 h82
          go_wp2_with (fail)
          with_reducible refine (words15_any A2 A8 c2 c8 _ _ _ (atL q) _ rfl rfl I2.out I1.out (by have := HAL.out; omega)).mono ?_
          rintro e w9 ⟨rfl, hd⟩
          have hB9 := hB8.trans (drawn_bl hd _)
          have H9 := Lib.hid (H8.out.below (drawn_bl hd _))
          clear hd H8 hB8
          go_wp2_with (fail)
          with_reducible refine (odd_any _ _ _ _ _ _ _ _ _ H9.out.mem).mono ?_
          rintro e w10 ⟨rfl, rfl⟩
          have hBB := below_called hB1 hB9
          go_wp2_with (fail)
          go_ret
          exact ⟨rfl, hBB⟩
end Go.Proofs.Ythmcakobpjnnmaa
