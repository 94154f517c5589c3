/- The walk of RouteFew. -/
import Derived.Test.YthmcakobpjnnmaaKnown15
import Derived.Test.YthmcakobpjnnmaaWide
import Derived.Test.YthmcakobpjnnmaaRowWords
namespace Go.Proofs.Ythmcakobpjnnmaa
set_option linter.unusedVariables false
set_option linter.unusedSimpArgs false
open Go.RowKit

/-- The same, with the count. -/
structure OnWayC (q : List Int) (k : Int) (B b fb : Nat) (v : Value) (t : Nat) (w : World) : Prop where
  mem : MemP B b v (atL q) 2000 (3 + t) 0 0 w
  fr : RouteP fb (stAt q k t) w
theorem OnWayC.below {q : List Int} {k : Int} {B b fb : Nat} {v : Value} {t : Nat} {w w' : World} (h : OnWayC q k B b fb v t w) (hb : Below w.heap.size w w') : OnWayC q k B b fb v t w' :=
  ⟨h.mem.below hb, h.fr.blk.below hb h.fr.blk.lt⟩
theorem wayC_any {q : List Int} {k : Int} {B b fb f : Nat} {v : Value} (hl : q.length ≤ 1000) (hw : ∀ i, i < q.length → -9223372036854775808 ≤ keyAt q i ∧ keyAt q i ≤ 9223372036854775807) (hO : RunOk q k f) (t : Nat) (ht : t < nOf q k) (w : World) (h : OnWayC q k B b fb v t w) :
    Calls Try.prog 13 #[.pointer (some ⟨fb, 0, none⟩), .pointer (some ⟨b, 0, none⟩)] w fun e w' => e = .returned (.bool ((stAt q k (t + 1)).next == 6)) ∧ OnWayC q k B b fb v (t + 1) w' ∧ Only [fb, b] w w' := by
  have hn : t ≤ 1001 := by have := hO.few; omega
  refine (stepR_any fb b (stAt q k t) B v (atL q) 2000 (3 + t) 0 0 w h.fr h.mem (hO.inv t) (by rw [atL_len]; omega) (atL_bd hl hw)).mono fun e w' ⟨he, h1, h2, h3⟩ => ⟨he, ⟨?_, h1⟩, h3⟩
  rw [if_neg (hO.going t ht), if_pos (hO.here t), bump_eq (by omega) (by omega)] at h2
  have e : (3 : Int) + t + 1 = 3 + ((t + 1 : Nat) : Int) := by omega
  rw [e] at h2
  exact h2
def FewRel (q : List Int) (k : Int) (w0 : World) (B b fb : Nat) (v : Value) (i : Value) (wr : World) : Prop := ∃ t : Nat, t < nOf q k ∧ i = .int .i64 ((t : Int) + 1) ∧ OnWayC q k B b fb v t wr ∧ Below w0.heap.size w0 wr
set_option maxRecDepth 100000 in
set_option maxHeartbeats 2000000 in
theorem routeFew_walk (A : Option Addr) (c : Nat) (l : List Int) (k : Int) {w : World} (hq : IntsAt w w.heap.size A l) (hl : l.length * 8 ≤ 140737488351232) (hc : l.length ≤ c) (hw : ∀ i, i < l.length → -9223372036854775808 ≤ keyAt l i ∧ keyAt l i ≤ 9223372036854775807) (wf : (Lit.int .i64 k).wf = true) :
    Calls Try.prog 6 #[.slice A l.length c, .int .i64 k] w fun e w' => e = .returned (.bool true) ∧ Below w.heap.size w w' := by
  obtain ⟨k0, k1⟩ := Go.bounds_i64 wf
  have HQ := Lib.hid hq
  have HW := Lib.hid hw
  clear hq hw wf
  go_enter Try.func6, Try.ntmps6
  go_wp2_with (fail)
  with_reducible refine (wide_any A c l _ HQ.out (by omega) HW.out).mono ?_
  rintro e V ⟨A1, c1, rfl, hq1, hB1⟩
  have HQ1 := Lib.hid hq1
  have hr := wideL_right l
  have hl1 := wideL_len l
  have hw1 := wideL_bd HW.out
  obtain ⟨f, _, f1, f2, f3⟩ := findI_split (k := k) hr
  have HO := Lib.hid (runOk hr (by omega) hw1 k0 k1 f1 f2 f3)
  have HW1 := Lib.hid hw1
  clear hq1 HQ HW hr hw1 f2 f3
  generalize wideL l = q at HQ1 hl1 HO HW1 f1 ⊢
  go_wp2_with (fail)
  with_reducible refine (at_any A1 c1 q.length q _ rfl HQ1.out hl1).mono ?_
  rintro e w1 ⟨v, rfl, hm, hb1⟩
  have HM := Lib.hid hm
  have hz1 : V.heap.size < w1.heap.size := hm.blk.lt
  clear hm
  go_wp2_with (fail)
  with_reducible refine (count_any _ _ _ _ _ _ _ _ _ HM.out).mono ?_
  rintro e w2 ⟨rfl, rfl⟩
  go_wp2_with (fail)
  with_reducible refine (newR_any 8 k _).mono ?_
  rintro e w2 ⟨rfl, hf, hb⟩
  have hb2 := hb1.trans (hb.mono hb1.size)
  have HC := Lib.hid (show OnWayC q k V.heap.size V.heap.size w1.heap.size v 0 w2 from ⟨HM.out.below hb, hf⟩)
  have hfew := HO.out.few
  have hpos : 0 < nOf q k := by unfold nOf; omega
  clear hb hf HM hb1
  generalize w1.heap.size = fb at HC hz1 ⊢
  go_wp2_with (fail)
  go_loopw [10] (fun i wr => FewRel q k V V.heap.size V.heap.size fb v i wr) (fun i _ => nOf q k + 1 - (intOf i).toNat)
  case atStart => unfold FewRel; exact ⟨0, hpos, rfl, HC.out, hb2⟩
  case round =>
    obtain ⟨t, t1, rfl, hC, hB⟩ := hrel
    clear HC hb2
    have H := Lib.hid hC
    have htl : (t : Int) + 1 < 200 := by omega
    clear hC
    go_wp2_with (fail)
    with_reducible refine (wayC_any (by omega) HW1.out HO.out t t1 _ H.out).mono ?_
    rintro e w5 ⟨rfl, h5, o5⟩
    have hB5 := hB.trans (o5.below (B := V.heap.size) (by simp; omega) hB.size)
    have H5 := Lib.hid h5
    clear h5 o5 H hB
    by_cases hlt : t + 1 < nOf q k
    · have en : ((stAt q k (t + 1)).next == 6) = false := by simpa using HO.out.going (t + 1) hlt
      rw [en]
      clear en
      go_wp2_with (fail)
      go_roundw
      case rel => unfold FewRel; exact ⟨t + 1, hlt, by go_num, H5.out, hB5⟩
      case measure => simp [intOf]; omega
    · have et : nOf q k = t + 1 := by omega
      have en : ((stAt q k (t + 1)).next == 6) = true := by simpa using (HO.out.ended (t + 1) (by omega)).1
      rw [en]
      have hp1 : Hid ((pathI q k).length = t) := Lib.hid (by unfold nOf at et; omega)
      have hc2 : ¬ (2 + (q.length : Int)) < (t : Int) + 1 := by omega
      have hc3 : (t : Int) + 1 ≤ 2 + (q.length : Int) := by omega
      clear en et hlt hfew hpos t1
      go_wp2_with (fail)
      with_reducible refine (known15_any _).mono ?_
      rintro e w6 ⟨rfl, hb⟩
      have hB6 := hB5.trans (hb.mono hB5.size)
      have H6 := Lib.hid (H5.out.below hb)
      clear hb H5 hB5
      go_wp2_with (fail)
      with_reducible refine (path_any A1 c1 q k _ ((HQ1.out.below hB6).more hB6.size) (by omega) k0 k1 HW1.out).mono ?_
      rintro e w7 ⟨A7, c7, rfl, _, hb⟩
      have hB7 := hB6.trans (hb.mono hB6.size)
      have H7 := Lib.hid (H6.out.below hb)
      clear hb H6 hB6
      rw [hp1.out]
      have e1 : ((t : Int) + 1 == 1 + (t : Int)) = true := by rw [beq_iff_eq]; omega
      have e2 : ((3 : Int) + ((t + 1 : Nat) : Int) == 3 + ((t : Int) + 1)) = true := by rw [beq_iff_eq]; omega
      go_wp2_with (fail)
      with_reducible refine (count_any _ _ _ _ _ _ _ _ _ H7.out.mem).mono ?_
      rintro e w8 ⟨rfl, rfl⟩
      have hBB := below_called hB1 hB7
      go_wp2_with (fail)
      go_ret
      exact ⟨rfl, hBB⟩
end Go.Proofs.Ythmcakobpjnnmaa
