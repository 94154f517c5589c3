/- The walks of ProbeOwn and ProbeTells. -/
import Derived.Test.YtelmehlabgnllaaWide
import Derived.Test.YtelmehlabgnllaaLawPath
namespace Go.Proofs.Ytelmehlabgnllaa
set_option linter.unusedVariables false
set_option linter.unusedSimpArgs false
open Go.RowKit

theorem IntsAt.at1 {w : World} {B : Nat} {ad : Addr} {q : List Int} (h : IntsAt w B (some ad) q) {z : Nat} (hz : z < q.length) : w.cell? (ad.add z) = some (.int .i64 (keyAt q z)) := by
  obtain ⟨ad', e, hb, hc⟩ := h.cells (by omega)
  injection e with e
  subst e
  exact hc z hz
theorem own_find {q : List Int} (h : rightB q = true) {z : Nat} (hz : z < q.length) : findI q (keyAt q z) = ((z + 1 : Nat) : Int) := by
  refine findI_at h (i := z + 1) (by omega) (fun j hj => ?_) (fun j h1 h2 => asc_lt (rightB_asc h) (by omega) h2)
  exact asc_le (rightB_asc h) (by omega) hz
theorem own_below {q : List Int} (h : rightB q = true) {z : Nat} (hz : z < q.length) : findI q (keyAt q z - 1) = (z : Int) := by
  refine findI_at h (i := z) (by omega) (fun j hj => ?_) (fun j h1 h2 => ?_)
  · have := asc_lt (rightB_asc h) hj hz; omega
  · have := asc_le (rightB_asc h) h1 h2; omega
theorem own_all {q : List Int} (h : rightB q = true) (hb : ∀ i, i < q.length → keyAt q i ≤ 9223372036854775807) : findI q 9223372036854775807 = (q.length : Int) :=
  findI_at h (i := q.length) (by omega) (fun j hj => hb j hj) (fun j h1 h2 => absurd h2 (by omega))
theorem own_none {q : List Int} (h : rightB q = true) (h0 : q.length = 0) (k : Int) : findI q k = 0 :=
  findI_at h (i := 0) (by omega) (fun j hj => absurd hj (by omega)) (fun j h1 h2 => absurd h2 (by omega))

set_option maxHeartbeats 4000000 in
set_option maxRecDepth 100000 in
theorem probeOwn_walk (A : Option Addr) (c : Nat) (l : List Int) (a1 : Int) {w : World} (hq : IntsAt w w.heap.size A l) (hl : l.length * 8 ≤ 140737488351232) (hc : l.length ≤ c) (hw : ∀ i, i < l.length → -9223372036854775808 ≤ keyAt l i ∧ keyAt l i ≤ 9223372036854775807) (w1 : (Lit.int .i64 a1).wf = true) :
    Calls Try.prog 9 #[.slice A l.length c, .int .i64 a1] w fun e w' => e = .returned (.bool true) ∧ Below w.heap.size w w' := by
  obtain ⟨l1, u1⟩ := Go.bounds_i64 w1
  have hR := Lib.hid (wideL_right l)
  have HL := wideL_len l
  have HB := Lib.hid (fun i h => wideL_bd hw i h)
  have HQ := Lib.hid hq
  have HW := Lib.hid hw
  clear hq hw
  go_enter Try.func9, Try.ntmps9
  go_wp2_with (fail)
  refine (wide_any A c l w HQ.out (by omega) HW.out).mono ?_
  rintro e V1 ⟨A1, c1, rfl, h1, hB1⟩
  by_cases hz : (wideL l).length = 0
  · have hz' : (((wideL l).length : Int) == 0) = true := by simp [hz]
    have E := Lib.hid (own_none hR.out hz 5)
    clear hz
    go_wp2_with (fail)
    refine (known6_any _).mono ?_
    rintro e V2 ⟨rfl, hb⟩
    have h2 := h1.called hb
    have hB2 := below_called hB1 hb
    clear h1 hb hB1
    go_wp2_with (fail)
    refine (find_any A1 c1 (wideL l) 5 V2 h2 (by omega)).mono ?_
    rw [E.out]
    rintro e V3 ⟨rfl, hb⟩
    have hB3 := below_called hB2 hb
    clear h2 hb hB2
    go_wp2_with (fail)
    go_ret
    exact ⟨rfl, hB3⟩
  · have hz' : (((wideL l).length : Int) == 0) = false := by rw [beq_eq_false_iff_ne]; omega
    obtain ⟨x1, y1⟩ := cut_bd a1 ((wideL l).length : Int) (by omega)
    obtain ⟨z, hzz⟩ : ∃ z : Nat, a1 % ((wideL l).length : Int) = z := ⟨(a1 % ((wideL l).length : Int)).toNat, (Int.toNat_of_nonneg x1).symm⟩
    rw [hzz] at x1 y1
    have zl : z < (wideL l).length := by omega
    have E1 := Lib.hid (own_find hR.out zl)
    have E2 := Lib.hid (own_below hR.out zl)
    have E3 := Lib.hid (own_all hR.out (fun i hi => (HB.out i hi).2))
    obtain ⟨b0, b1⟩ := HB.out z zl
    obtain ⟨ad, rfl, hbl, _⟩ := h1.cells (by omega)
    have ec : ((z + 1 : Nat) : Int) = (z : Int) + 1 := by omega
    clear hz x1 y1
    have hc1 := h1.at1 zl
    go_wp2_with (fail)
    refine (cut_any a1 ((wideL l).length : Int) _ (by omega) (by omega) (by omega) (by omega)).mono ?_
    rw [hzz]
    rintro e V1' ⟨rfl, rfl⟩
    clear hzz
    go_wp2_with (fail)
    refine (known6_any _).mono ?_
    rintro e V2 ⟨rfl, hb⟩
    have h2 := h1.called hb
    have hB2 := below_called hB1 hb
    clear h1 hb hB1 hc1
    have hc2 := h2.at1 zl
    go_wp2_with (fail)
    refine (find_any (some ad) c1 (wideL l) (keyAt (wideL l) z) V2 h2 (by omega)).mono ?_
    rw [E1.out, ec]
    rintro e V3 ⟨rfl, hb⟩
    have h3 := h2.called hb
    have hB3 := below_called hB2 hb
    clear h2 hb hB2 hc2
    have hc3 := h3.at1 zl
    by_cases hmin : keyAt (wideL l) z = -9223372036854775808
    · have hm' : (keyAt (wideL l) z == -9223372036854775808) = true := by simpa using hmin
      clear hmin
      go_wp2_with (fail)
      refine (find_any (some ad) c1 (wideL l) 9223372036854775807 V3 h3 (by omega)).mono ?_
      rw [E3.out]
      rintro e V4 ⟨rfl, hb⟩
      have hB4 := below_called hB3 hb
      clear h3 hb hB3 hc3
      go_wp2_with (fail)
      go_ret
      exact ⟨rfl, hB4⟩
    · have hm' : (keyAt (wideL l) z == -9223372036854775808) = false := by simpa using hmin
      have hm2 : -9223372036854775808 ≤ keyAt (wideL l) z - 1 := by omega
      clear hmin
      go_wp2_with (fail)
      refine (find_any (some ad) c1 (wideL l) (keyAt (wideL l) z - 1) V3 h3 (by omega)).mono ?_
      rw [E2.out]
      rintro e V4 ⟨rfl, hb⟩
      have h4 := h3.called hb
      have hB4 := below_called hB3 hb
      clear h3 hb hB3 hc3
      go_wp2_with (fail)
      refine (find_any (some ad) c1 (wideL l) 9223372036854775807 V4 h4 (by omega)).mono ?_
      rw [E3.out]
      rintro e V5 ⟨rfl, hb⟩
      have hB5 := below_called hB4 hb
      clear h4 hb hB4
      go_wp2_with (fail)
      go_ret
      exact ⟨rfl, hB5⟩

set_option maxHeartbeats 4000000 in
set_option maxRecDepth 100000 in
theorem probeTells_walk (A : Option Addr) (c : Nat) (l : List Int) (a1 a2 a3 a4 : Int) {w : World} (hq : IntsAt w w.heap.size A l) (hl : l.length * 8 ≤ 140737488351232) (hc : l.length ≤ c) (hw : ∀ i, i < l.length → -9223372036854775808 ≤ keyAt l i ∧ keyAt l i ≤ 9223372036854775807) (w1 : (Lit.int .i64 a1).wf = true) (w2 : (Lit.int .i64 a2).wf = true) (w3 : (Lit.int .i64 a3).wf = true) (w4 : (Lit.int .i64 a4).wf = true) :
    Calls Try.prog 4 #[.slice A l.length c, .int .i64 a1, .int .i64 a2, .int .i64 a3, .int .i64 a4] w fun e w' => e = .returned (.bool true) ∧ Below w.heap.size w w' := by
  obtain ⟨l1, u1⟩ := Go.bounds_i64 w1
  obtain ⟨l2, u2⟩ := Go.bounds_i64 w2
  obtain ⟨l3, u3⟩ := Go.bounds_i64 w3
  obtain ⟨l4, u4⟩ := Go.bounds_i64 w4
  have HL := wideL_len l
  have hw5 : ∀ i, i < (wideL l).length → -9223372036854775808 ≤ keyAt (wideL l) i ∧ keyAt (wideL l) i ≤ 9223372036854775807 := fun i h => wideL_bd hw i h
  have HB := Lib.hid hw5
  have HQ := Lib.hid hq
  have HW := Lib.hid hw
  have hlp := pathI_len l a1
  have hlq := pathI_len (wideL l) a1
  clear hq hw hw5
  have hB0 := Below.refl w.heap.size w
  by_cases h500 : 500 < l.length
  · have h500' : (500 : Int) < (l.length : Int) := by omega
    clear h500
    go_enter Try.func4, Try.ntmps4
    go_wp2_with (fail)
    refine (known6_any _).mono ?_
    rintro e V1 ⟨rfl, hb⟩
    go_wp2_with (fail)
    go_ret
    exact ⟨rfl, hb⟩
  have h500' : ¬ (500 : Int) < (l.length : Int) := by omega
  clear h500
  go_enter Try.func4, Try.ntmps4
  go_wp2_with (fail)
  refine (wide_any A c l w HQ.out (by omega) HW.out).mono ?_
  rintro e V1 ⟨A1, c1, rfl, g1, hB1⟩
  have h1 := HQ.out.called (show Below w.heap.size w V1 from hB1)
  go_wp2_with (fail)
  refine (known6_any _).mono ?_
  rintro e V2 ⟨rfl, hb⟩
  have h2 := h1.called hb
  have g2 := g1.called hb
  have hB2 := below_called hB1 hb
  clear h1 g1 hB1
  clear hb
  go_wp2_with (fail)
  refine (right_any A c _ l V2 h2 (by omega)).mono ?_
  rintro e V3 ⟨rfl, hd⟩
  have hb := hd.below V2.heap.size
  clear hd
  have h3 := h2.called hb
  have g3 := g2.called hb
  have hB3 := below_called hB2 hb
  clear h2 g2 hB2
  clear hb
  go_wp2_with (fail)
  refine (rising_any A c _ l V3 h3 (by omega)).mono ?_
  rintro e V4 ⟨rfl, hd⟩
  have hb := hd.below V3.heap.size
  clear hd
  have h4 := h3.called hb
  have g4 := g3.called hb
  have hB4 := below_called hB3 hb
  clear h3 g3 hB3
  clear hb
  go_wp2_with (fail)
  refine (find_any A c l a1 V4 h4 (by omega)).mono ?_
  rintro e V5 ⟨rfl, hb⟩
  have h5 := h4.called hb
  have g5 := g4.called hb
  have hB5 := below_called hB4 hb
  clear h4 g4 hB4
  clear hb
  go_wp2_with (fail)
  refine (reffind_any A c _ l a1 V5 h5 (by omega)).mono ?_
  rintro e V6 ⟨rfl, hd⟩
  have hb := hd.below V5.heap.size
  clear hd
  have h6 := h5.called hb
  have g6 := g5.called hb
  have hB6 := below_called hB5 hb
  clear h5 g5 hB5
  clear hb
  go_wp2_with (fail)
  refine (path_any A c l a1 V6 h6 (by omega) l1 u1 HW.out).mono ?_
  rintro e V7 ⟨Ap, cp, rfl, p7, hb⟩
  have h7 := h6.called hb
  have g7 := g6.called hb
  have hB7 := below_called hB6 hb
  clear h6 g6 hB6
  clear hb
  go_wp2_with (fail)
  refine (refpath_any A c l a1 V7 h7 (by omega) l1 u1 HW.out).mono ?_
  rintro e V8 ⟨Ar, cr, rfl, r8, hb⟩
  have h8 := h7.called hb
  have g8 := g7.called hb
  have p8 := p7.called hb
  have hB8 := below_called hB7 hb
  clear h7 g7 p7 hB7
  clear hb
  go_wp2_with (fail)
  refine (ints_same Ap Ar cp cr _ _ (pathI l a1) V8 p8 r8 (by omega)).mono ?_
  rintro e V9 ⟨rfl, hd⟩
  have hb := hd.below V8.heap.size
  clear hd
  clear p8 r8
  have h9 := h8.called hb
  have g9 := g8.called hb
  have hB9 := below_called hB8 hb
  clear h8 g8 hB8
  clear hb
  go_wp2_with (fail)
  refine (find_any A1 c1 (wideL l) a1 V9 g9 (by omega)).mono ?_
  rintro e V10 ⟨rfl, hb⟩
  have h10 := h9.called hb
  have g10 := g9.called hb
  have hB10 := below_called hB9 hb
  clear h9 g9 hB9
  clear hb
  go_wp2_with (fail)
  refine (reffind_any A1 c1 _ (wideL l) a1 V10 g10 (by omega)).mono ?_
  rintro e V11 ⟨rfl, hd⟩
  have hb := hd.below V10.heap.size
  clear hd
  have h11 := h10.called hb
  have g11 := g10.called hb
  have hB11 := below_called hB10 hb
  clear h10 g10 hB10
  clear hb
  go_wp2_with (fail)
  refine (path_any A1 c1 (wideL l) a1 V11 g11 (by omega) l1 u1 HB.out).mono ?_
  rintro e V12 ⟨Ap, cp, rfl, p12, hb⟩
  have h12 := h11.called hb
  have g12 := g11.called hb
  have hB12 := below_called hB11 hb
  clear h11 g11 hB11
  clear hb
  go_wp2_with (fail)
  refine (refpath_any A1 c1 (wideL l) a1 V12 g12 (by omega) l1 u1 HB.out).mono ?_
  rintro e V13 ⟨Ar, cr, rfl, r13, hb⟩
  have h13 := h12.called hb
  have g13 := g12.called hb
  have p13 := p12.called hb
  have hB13 := below_called hB12 hb
  clear h12 g12 p12 hB12
  clear hb
  go_wp2_with (fail)
  refine (ints_same Ap Ar cp cr _ _ (pathI (wideL l) a1) V13 p13 r13 (by omega)).mono ?_
  rintro e V14 ⟨rfl, hd⟩
  have hb := hd.below V13.heap.size
  clear hd
  clear p13 r13
  have h14 := h13.called hb
  have g14 := g13.called hb
  have hB14 := below_called hB13 hb
  clear h13 g13 hB13
  clear hb
  go_wp2_with (fail)
  refine (guess_any _ _ _ _ V14 (by omega) (by omega) (by omega) (by omega) (by omega) (by omega) (by omega) (by omega)).mono ?_
  rintro e V15 ⟨rfl, hd⟩
  have hb := hd.below V14.heap.size
  clear hd
  have h15 := h14.called hb
  have g15 := g14.called hb
  have hB15 := below_called hB14 hb
  clear h14 g14 hB14
  clear hb
  go_wp2_with (fail)
  refine (refguess_any _ _ _ _ V15 (by omega) (by omega) (by omega) (by omega) (by omega) (by omega) (by omega) (by omega)).mono ?_
  rintro e V16 ⟨rfl, hd⟩
  have hb := hd.below V15.heap.size
  clear hd
  have h16 := h15.called hb
  have g16 := g15.called hb
  have hB16 := below_called hB15 hb
  clear h15 g15 hB15
  clear hb
  go_wp2_with (fail)
  go_ret
  exact ⟨rfl, hB16⟩
end Go.Proofs.Ytelmehlabgnllaa
