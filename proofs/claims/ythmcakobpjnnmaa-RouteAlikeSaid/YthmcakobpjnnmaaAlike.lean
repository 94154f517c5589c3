/- The walk of RouteAlike. -/
import Derived.Test.YthmcakobpjnnmaaFew
import Derived.Test.YthmcakobpjnnmaaMinmax
namespace Go.Proofs.Ythmcakobpjnnmaa
set_option linter.unusedVariables false
set_option linter.unusedSimpArgs false
open Go.RowKit
attribute [local go_sem] max2_int max_two min2_int min_two

/-- Two frames on one memory. -/
structure OnTwo (q : List Int) (k k2 : Int) (B b fb gb : Nat) (v : Value) (t t2 : Nat) (w : World) : Prop where
  mem : ∃ count odd, MemP B b v (atL q) 2000 count odd 0 w
  fr : RouteP fb (stAt q k t) w
  gr : RouteP gb (stAt q k2 t2) w
theorem OnTwo.below {q : List Int} {k k2 : Int} {B b fb gb : Nat} {v : Value} {t t2 : Nat} {w w' : World} (h : OnTwo q k k2 B b fb gb v t t2 w) (hb : Below w.heap.size w w') : OnTwo q k k2 B b fb gb v t t2 w' := by
  obtain ⟨c, o, hm⟩ := h.mem
  exact ⟨⟨c, o, hm.below hb⟩, h.fr.blk.below hb h.fr.blk.lt, h.gr.blk.below hb h.gr.blk.lt⟩
theorem two1_any {q : List Int} {k k2 : Int} {B b fb gb f : Nat} {v : Value} (hl : q.length ≤ 1000) (hw : ∀ i, i < q.length → -9223372036854775808 ≤ keyAt q i ∧ keyAt q i ≤ 9223372036854775807) (hO : RunOk q k f) (hne : fb ≠ gb) (t t2 : Nat) (w : World) (h : OnTwo q k k2 B b fb gb v t t2 w) :
    Calls Try.prog 13 #[.pointer (some ⟨fb, 0, none⟩), .pointer (some ⟨b, 0, none⟩)] w fun e w' => (∃ x, e = .returned x) ∧ OnTwo q k k2 B b fb gb v (t + 1) t2 w' ∧ Only [fb, gb, b] w w' := by
  obtain ⟨c, o, hm⟩ := h.mem
  have hgb : gb ≠ b := h.gr.blk.ne_ hm.blk (by decide)
  exact (stepR_any fb b (stAt q k t) B v (atL q) 2000 c o 0 w h.fr hm (hO.inv t) (by rw [atL_len]; omega) (atL_bd hl hw)).mono fun e w' ⟨he, h1, h2, h3⟩ => ⟨⟨_, he⟩, ⟨⟨_, _, h2⟩, h1, h3.blk h.gr.blk (by simp; exact ⟨fun e => hne e.symm, hgb⟩)⟩, h3.mono (by simp)⟩
theorem two2_any {q : List Int} {k k2 : Int} {B b fb gb f : Nat} {v : Value} (hl : q.length ≤ 1000) (hw : ∀ i, i < q.length → -9223372036854775808 ≤ keyAt q i ∧ keyAt q i ≤ 9223372036854775807) (hO : RunOk q k2 f) (hne : fb ≠ gb) (t t2 : Nat) (w : World) (h : OnTwo q k k2 B b fb gb v t t2 w) :
    Calls Try.prog 13 #[.pointer (some ⟨gb, 0, none⟩), .pointer (some ⟨b, 0, none⟩)] w fun e w' => (∃ x, e = .returned x) ∧ OnTwo q k k2 B b fb gb v t (t2 + 1) w' ∧ Only [fb, gb, b] w w' := by
  obtain ⟨c, o, hm⟩ := h.mem
  have hfb : fb ≠ b := h.fr.blk.ne_ hm.blk (by decide)
  exact (stepR_any gb b (stAt q k2 t2) B v (atL q) 2000 c o 0 w h.gr hm (hO.inv t2) (by rw [atL_len]; omega) (atL_bd hl hw)).mono fun e w' ⟨he, h1, h2, h3⟩ => ⟨⟨_, he⟩, ⟨⟨_, _, h2⟩, h3.blk h.fr.blk (by simp; exact ⟨hne, hfb⟩), h1⟩, h3.mono (by simp)⟩

/-- How many of the first keys are above one and not above the other. -/
def betw (q : List Int) (x y : Int) : Nat → Nat
  | 0 => 0
  | n + 1 => betw q x y n + if x < keyAt q n ∧ keyAt q n ≤ y then 1 else 0
theorem betw_le (q : List Int) (x y : Int) : ∀ n, betw q x y n ≤ n
  | 0 => Nat.le_refl _
  | n + 1 => by have := betw_le q x y n; simp only [betw]; split <;> omega
theorem betw_at {q : List Int} {x y : Int} {f g : Nat} (hfg : f ≤ g) (fx : ∀ j, j < f → keyAt q j ≤ x) (xf : ∀ j, f ≤ j → j < q.length → x < keyAt q j) (gy : ∀ j, j < g → keyAt q j ≤ y) (yg : ∀ j, g ≤ j → j < q.length → y < keyAt q j) :
    ∀ n, n ≤ q.length → betw q x y n = min n g - min n f
  | 0, _ => by simp [betw]
  | n + 1, hn => by
    have ih := betw_at hfg fx xf gy yg n (by omega)
    simp only [betw]
    by_cases h1 : n < f
    · have := fx n h1
      rw [if_neg (by omega)]; omega
    · have h2 := xf n (by omega) (by omega)
      by_cases h3 : n < g
      · have := gy n h3
        rw [if_pos ⟨h2, this⟩]; omega
      · have := yg n (by omega) (by omega)
        rw [if_neg (by omega)]; omega
theorem split_mono {q : List Int} {x y : Int} {f g : Nat} (h : x ≤ y) (f1 : f ≤ q.length) (fx : ∀ j, j < f → keyAt q j ≤ x) (yg : ∀ j, g ≤ j → j < q.length → y < keyAt q j) : f ≤ g := by
  rcases Nat.lt_or_ge g f with h1 | h1
  · have a := fx g h1
    have b := yg g (Nat.le_refl _) (by omega)
    omega
  · exact h1

def TwoRel (q : List Int) (k k2 : Int) (w0 : World) (B b fb gb : Nat) (v : Value) (i : Value) (wr : World) : Prop := ∃ t : Nat, t ≤ 200 ∧ i = .int .i64 t ∧ OnTwo q k k2 B b fb gb v t t wr ∧ Below w0.heap.size w0 wr
set_option maxRecDepth 100000 in
set_option maxHeartbeats 2000000 in
theorem routeAlike_walk (A : Option Addr) (c : Nat) (l : List Int) (k o : Int) {w : World} (hq : IntsAt w w.heap.size A l) (hl : l.length * 8 ≤ 140737488351232) (hc : l.length ≤ c) (hw : ∀ i, i < l.length → -9223372036854775808 ≤ keyAt l i ∧ keyAt l i ≤ 9223372036854775807) (wk : (Lit.int .i64 k).wf = true) (wo : (Lit.int .i64 o).wf = true) :
    Calls Try.prog 4 #[.slice A l.length c, .int .i64 k, .int .i64 o] w fun e w' => e = .returned (.bool true) ∧ Below w.heap.size w w' := by
  obtain ⟨k0, k1⟩ := Go.bounds_i64 wk
  obtain ⟨o0, o1⟩ := Go.bounds_i64 wo
  obtain ⟨lo, hlo⟩ : ∃ lo, (if o < k then o else k) = lo := ⟨_, rfl⟩
  obtain ⟨hi, hhi⟩ : ∃ hi, (if k < o then o else k) = hi := ⟨_, rfl⟩
  have hlh : lo ≤ hi ∧ -9223372036854775808 ≤ lo ∧ hi ≤ 9223372036854775807 := by rw [← hlo, ← hhi]; split <;> split <;> omega
  obtain ⟨hlh1, hlh2, hlh3⟩ := hlh
  have HQ := Lib.hid hq
  have HW := Lib.hid hw
  clear hq hw wk wo
  go_enter Try.func4, Try.ntmps4
  go_wp2_with (fail)
  with_reducible refine (wide_any A c l _ HQ.out (by omega) HW.out).mono ?_
  rintro e V ⟨A1, c1, rfl, hq1, hB1⟩
  have HQ1 := Lib.hid hq1
  have hr := wideL_right l
  have hl1 := wideL_len l
  have hw1 := wideL_bd HW.out
  obtain ⟨f, _, f1, f2, f3⟩ := findI_split (k := lo) hr
  obtain ⟨g, _, g1, g2, g3⟩ := findI_split (k := hi) hr
  have HF := Lib.hid (runOk hr (by omega) hw1 hlh2 (by omega) f1 f2 f3)
  have HG := Lib.hid (runOk hr (by omega) hw1 (by omega) hlh3 g1 g2 g3)
  have hfg := split_mono hlh1 f1 f2 g3
  have HBE := Lib.hid (betw_at hfg f2 f3 g2 g3)
  have HW1 := Lib.hid hw1
  clear hq1 HQ HW hr hw1 f2 f3 g2 g3
  generalize wideL l = q at HQ1 hl1 HF HG HBE HW1 f1 g1 ⊢
  go_wp2_with (fail)
  with_reducible refine (at_any A1 c1 q.length q _ rfl HQ1.out hl1).mono ?_
  rintro e w1 ⟨v, rfl, hm, hb1⟩
  have HM := Lib.hid hm
  have hz1 : V.heap.size < w1.heap.size := hm.blk.lt
  clear hm
  go_wp2_with (fail)
  with_reducible refine (newR_any 8 lo _).mono ?_
  rintro e w2 ⟨rfl, hf, hb⟩
  have hb2 := hb1.trans (hb.mono hb1.size)
  have HM2 := Lib.hid (HM.out.below hb)
  have HF2 := Lib.hid hf
  have hz2 : w1.heap.size < w2.heap.size := hf.blk.lt
  clear hb hf HM hb1
  generalize w1.heap.size = fb at HF2 hz1 hz2 ⊢
  go_wp2_with (fail)
  with_reducible refine (newR_any 8 hi _).mono ?_
  rintro e w3 ⟨rfl, hf, hb⟩
  have hb3 := hb2.trans (hb.mono hb2.size)
  have HC := Lib.hid (show OnTwo q lo hi V.heap.size V.heap.size fb w2.heap.size v 0 0 w3 from ⟨⟨_, _, HM2.out.below hb⟩, HF2.out.blk.below hb HF2.out.blk.lt, hf⟩)
  clear hb hf HM2 HF2 hb2
  generalize w2.heap.size = gb at HC hz2 ⊢
  have hne : fb ≠ gb := by omega
  go_wp2_with (fail)
  go_loopw [12] (fun i wr => TwoRel q lo hi V V.heap.size V.heap.size fb gb v i wr) (fun i _ => 200 - (intOf i).toNat)
  case atStart => unfold TwoRel; exact ⟨0, by omega, rfl, HC.out, hb3⟩
  case round =>
    obtain ⟨t, t1, rfl, hC, hB⟩ := hrel
    clear HC hb3
    have H := Lib.hid hC
    clear hC
    by_cases hlt : t < 200
    · go_wp2_with (fail)
      with_reducible refine (two1_any (by omega) HW1.out HF.out hne t t _ H.out).mono ?_
      rintro e w5 ⟨⟨x, rfl⟩, h5, o5⟩
      have hB5 := hB.trans (o5.below (B := V.heap.size) (by simp; omega) hB.size)
      have H5 := Lib.hid h5
      clear h5 o5 H hB
      go_wp2_with (fail)
      with_reducible refine (two2_any (by omega) HW1.out HG.out hne (t + 1) t _ H5.out).mono ?_
      rintro e w6 ⟨⟨y, rfl⟩, h6, o6⟩
      have hB6 := hB5.trans (o6.below (B := V.heap.size) (by simp; omega) hB5.size)
      have H6 := Lib.hid h6
      clear h6 o6 H5 hB5
      go_wp2_with (fail)
      go_roundw
      case rel => unfold TwoRel; exact ⟨t + 1, by omega, by go_num, H6.out, hB6⟩
      case measure => simp [intOf]; omega
    · have et : t = 200 := by omega
      subst et
      go_wp2_with (fail)
      obtain ⟨wo, rfl⟩ : ∃ wo : World, wo = wr := ⟨_, rfl⟩
      go_loop [13, 47] (fun b i => ∃ n : Nat, n ≤ q.length ∧ i = .int .i64 n ∧ b = .int .i64 (betw q lo hi n)) (fun _ i => q.length - (intOf i).toNat)
      case atStart => exact ⟨0, by omega, rfl, rfl⟩
      case round =>
        obtain ⟨n, n1, rfl, rfl⟩ := hrel
        have hbl := betw_le q lo hi n
        by_cases hn : n < q.length
        · obtain ⟨ad, rfl, hbd, hcc⟩ := (HQ1.out.below hB).cells (by omega)
          have hx0 := hcc n hn
          have es := Lib.hid (show betw q lo hi (n + 1) = betw q lo hi n + if lo < keyAt q n ∧ keyAt q n ≤ hi then 1 else 0 from rfl)
          obtain ⟨x, hx⟩ : ∃ x, keyAt q n = x := ⟨_, rfl⟩
          rw [hx] at hx0 es
          clear hcc hx
          generalize betw q lo hi n = z at hbl es ⊢
          by_cases hx1 : lo < x
          · by_cases hx2 : x ≤ hi
            · have e2 := Lib.hid (show betw q lo hi (n + 1) = z + 1 by rw [es.out, if_pos ⟨hx1, hx2⟩])
              clear es
              go_wp2_with (fail)
              go_round
              case rel => exact ⟨n + 1, by omega, by go_num, by rw [e2.out]; go_num⟩
              case measure => simp [intOf]; omega
            · have e2 := Lib.hid (show betw q lo hi (n + 1) = z by rw [es.out, if_neg (fun h => hx2 h.2)]; omega)
              clear es
              go_wp2_with (fail)
              go_round
              case rel => exact ⟨n + 1, by omega, by go_num, by rw [e2.out]⟩
              case measure => simp [intOf]; omega
          · have e2 := Lib.hid (show betw q lo hi (n + 1) = z by rw [es.out, if_neg (fun h => hx1 h.1)]; omega)
            clear es
            go_wp2_with (fail)
            go_round
            case rel => exact ⟨n + 1, by omega, by go_num, by rw [e2.out]⟩
            case measure => simp [intOf]; omega
        · have en : n = q.length := by omega
          subst en
          have eb := HBE.out q.length (Nat.le_refl _)
          have eb2 : betw q lo hi q.length + f = g := by omega
          obtain ⟨e1, _, e3⟩ := HF.out.ended 200 (by have := HF.out.few; omega)
          obtain ⟨d1, _, d3⟩ := HG.out.ended 200 (by have := HG.out.few; omega)
          have E1 := Lib.hid e1
          have E3 := Lib.hid e3
          have D1 := Lib.hid d1
          have D3 := Lib.hid d3
          generalize betw q lo hi q.length = z at eb2 ⊢
          have EB := Lib.hid eb2
          clear eb eb2 e1 e3 d1 d3 hbl
          go_wp2_with (fail)
          with_reducible refine (known15_any _).mono ?_
          rintro e w6 ⟨rfl, hb⟩
          have hB6 := hB.trans (hb.mono hB.size)
          have H6 := Lib.hid (H.out.below hb)
          clear hb H hB
          go_wp2_with (fail)
          with_reducible refine (done_any _ _ _ H6.out.fr).mono ?_
          rintro e w7 ⟨rfl, rfl⟩
          rw [E1.out]
          have en6 : ((6 : Int) == 6) = true := rfl
          go_wp2_with (fail)
          with_reducible refine (done_any _ _ _ H6.out.gr).mono ?_
          rintro e w7 ⟨rfl, rfl⟩
          rw [D1.out]
          go_wp2_with (fail)
          with_reducible refine (child_any _ _ _ H6.out.gr).mono ?_
          rintro e w7 ⟨rfl, rfl⟩
          rw [D3.out]
          go_wp2_with (fail)
          with_reducible refine (child_any _ _ _ H6.out.fr).mono ?_
          rintro e w7 ⟨rfl, rfl⟩
          rw [E3.out]
          have ez : (g : Int) - (f : Int) = z := by have := EB.out; omega
          have ez2 : ((z : Int) == (z : Int)) = true := by simp
          have hBB := below_called hB1 hB6
          go_wp2_with (fail)
          go_ret
          exact ⟨rfl, hBB⟩
end Go.Proofs.Ythmcakobpjnnmaa
