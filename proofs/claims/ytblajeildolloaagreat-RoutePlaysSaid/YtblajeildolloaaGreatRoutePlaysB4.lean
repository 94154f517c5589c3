/- Part 4 of what the statement of RoutePlays needs: RunU, Wide, Cut, RowWords, RetryAll, Mem7, Do, Frm, Frn, Fro, At. No condition. -/
import Derived.Test.YtblajeildolloaaGreatRoutePlaysB3
import Derived.SizedLaws
import Derived.ChangeSlices
import Derived.OpenShut
import Derived.Deep.RegionLaw
/- The document's procedures: slot, dcss, seek, again. -/
namespace Go.Proofs.YtblajeildolloaaGreat
set_option linter.unusedVariables false
set_option linter.unusedSimpArgs false
open Go.RowKit

theorem go_lt {α : Type} (q : Ask) (k : Int → Prog α) {s : RunS} (h : s.off = false) (ha : s.Bd) : ((Prog.ask q k).go s).2.left < s.left :=
  Nat.lt_of_le_of_lt (go_left (k (askS q s).1) (askS q s).2) (askS_left q h ha.at_)
theorem readP_lt {α : Type} (a : Int) (f : Int → Prog α) {s : RunS} (h : s.off = false) (ha : s.Bd) : (((readP a).bind f).go s).2.left < s.left := go_lt ⟨1, a, 0, 0, [], 0⟩ f h ha
theorem helpP_lt (a : Int) {s : RunS} (h : s.off = false) (ha : s.Bd) : ((helpP a).go s).2.left < s.left := readP_lt a _ h ha
theorem snd_left {α : Type} {p : Prog α} {s s' : RunS} {v : α} (h : p.go s = (v, s')) : s'.left ≤ s.left := by have := go_left p s; rw [h] at this; exact this
theorem snd_off {α : Type} {p : Prog α} {s s' : RunS} {v : α} (h : p.go s = (v, s')) (ho : s.off = true) : s' = s := by have := go_off p s ho; rw [h] at this; exact this
theorem snd_tape {α : Type} {p : Prog α} {s s' : RunS} {v : α} (h : p.go s = (v, s')) : s'.tape = s.tape := by have := go_tape p s; rw [h] at this; exact this
theorem slotGo_off {slot : Int} {s : RunS} (h : s.off = true) : ∀ (f : Nat) (w : Int), (slotGo slot f w).go s = (w, s)
  | 0, w => rfl
  | f + 1, w => by unfold slotGo; rw [go_chk, if_neg (by rw [h]; simp)]; rfl
section
variable (F : Nat → Prop) (rb : Nat) (w0 : World)
def RSlot (slot : Int) (v : Int) (s' : RunS) (T : List Int) (xv : Value) (wr : World) : Prop := ∃ (x : Int) (f : Nat) (s : RunS), xv = .int .i64 x ∧ i64B x ∧ (s.off = false → s.left < f) ∧ s.tape = T ∧ RAt F rb w0 s wr ∧ s.Bd ∧ (slotGo slot f x).go s = (v, s')
set_option maxRecDepth 100000 in
set_option maxHeartbeats 1000000 in
theorem slotR_any (s0 s' : RunS) (v : Int) (f : Nat) (slot : Int) (w : World) (h : RAt F rb w0 s0 w) (d0 : s0.Bd) (hg : (slotP f slot).go s0 = (v, s')) (hb : i64B slot) (hf : s0.left ≤ f) :
    Calls Tryz.prog 196 #[.pointer (some ⟨rb, 0, none⟩), .int .i64 slot] w fun e w' => e = .returned (.int .i64 v) ∧ RAt F rb w0 s' w' := by
  unfold slotP at hg
  have hl : ∀ v1 s1, (readP slot).go s0 = (v1, s1) → s1.off = false → s1.left < f := fun v1 s1 h1 h2 => by
    cases ho : s0.off with
    | true => have := snd_off h1 ho; rw [this, ho] at h2; cases h2
    | false =>
      have := go_lt ⟨1, slot, 0, 0, [], 0⟩ Prog.ret ho d0
      rw [show (Prog.ask ⟨1, slot, 0, 0, [], 0⟩ Prog.ret).go s0 = (v1, s1) from h1] at this
      have this : s1.left < s0.left := this
      omega
  have HG := Lib.hid hg
  have H0 := Lib.hid h
  have HLF := Lib.hid hl
  clear hg h hl
  obtain ⟨v1, s1, g1⟩ := go_ex (readP slot) s0
  have HLF1 := Lib.hid (HLF.out v1 s1 g1)
  have HT := Lib.hid (snd_tape g1)
  have hg := HG.out
  clear HG
  rw [go_bind, g1] at hg
  have HG := Lib.hid hg
  clear hg
  obtain ⟨b1, d1⟩ := go_okE g1 (readP_ok hb) d0
  have G1 := Lib.hid g1
  clear g1 HLF hf
  go_enter Tryz.func196, Tryz.ntmps196
  go_wp2_with (fail)
  with_reducible refine (readR_any F rb w0 s0 s1 v1 slot _ H0.out d0 G1.out).mono ?_
  rintro e w1 ⟨rfl, h1⟩
  have H1 := Lib.hid h1
  clear h1 H0 G1
  go_wp2_with (fail)
  go_loopw [5] (fun xv wr => RSlot F rb w0 slot v s' s1.tape xv wr) (fun _ wr => leftW rb s1.tape.length wr)
  case atStart => unfold RSlot; exact ⟨v1, f, s1, rfl, b1, HLF1.out, rfl, H1.out, d1, HG.out⟩
  case round =>
    obtain ⟨x, f1, s2, rfl, b2, hl2, ht2, h2, d2, hg2⟩ := hrel
    clear H1 HG HLF1
    have H2 := Lib.hid h2
    have HG := Lib.hid hg2
    have HL2 := Lib.hid hl2
    have HT2 := Lib.hid ht2
    clear h2 hg2 hl2 ht2
    cases ho : s2.off with
    | true =>
      have c2 := off_cell H2.out ho
      have hg := HG.out
      clear HG
      rw [slotGo_off ho] at hg
      have HG := Lib.hid hg
      clear hg
      clear ho
      obtain ⟨rfl, rfl⟩ := Prod.mk.inj HG.out
      go_wp2_with (fail)
      go_ret
      exact ⟨rfl, H2.out⟩
    | false =>
      have c2 := off_cell H2.out ho
      have hlt := HL2.out ho
      have HO := Lib.hid ho
      obtain ⟨g, rfl⟩ : ∃ g, f1 = g + 1 := ⟨f1 - 1, by omega⟩
      unfold slotGo at HG
      have hg := HG.out
      clear HG
      rw [go_chk] at hg
      have HG := Lib.hid hg
      clear hg
      have hg := HG.out
      clear HG
      rw [ho] at hg
      have HG := Lib.hid hg
      clear hg
      clear ho
      by_cases k : wKind x = 5
      · have hg := HG.out
        clear HG
        rw [if_pos ⟨rfl, k⟩] at hg
        have HG := Lib.hid hg
        clear hg
        have e5 : (wKind x == 5) = true := by simpa using k
        clear k
        have ha := wAt_bd x
        go_wp2_with (fail)
        with_reducible refine (refKind_any x _ b2.lo b2.hi).mono ?_
        rintro e w3 ⟨rfl, rfl⟩
        go_wp2_with (fail)
        with_reducible refine (refAtw_any x _ b2.lo b2.hi).mono ?_
        rintro e w3 ⟨rfl, rfl⟩
        obtain ⟨v3, s3, g3⟩ := go_ex (helpP (wAt x)) s2
        have hl3 : s3.left < s2.left := by have := helpP_lt (wAt x) HO.out d2; rw [g3] at this; exact this
        have ht3 := snd_tape g3
        have hg := HG.out
        clear HG
        rw [go_bind, g3] at hg
        have HG := Lib.hid hg
        clear hg
        obtain ⟨_, d3⟩ := go_okE g3 (helpP_ok ha.1 ha.2) d2
        have G3 := Lib.hid g3
        clear g3
        go_wp2_with (fail)
        with_reducible refine (helpR_any F rb w0 s2 s3 v3 (wAt x) _ H2.out d2 G3.out ha.1 ha.2).mono ?_
        rintro e w3 ⟨rfl, h3⟩
        have H3 := Lib.hid h3
        have HL3 := Lib.hid hl3
        have HT3 := Lib.hid ht3
        clear h3 hl3 ht3 G3
        obtain ⟨v4, s4, g4⟩ := go_ex (readP slot) s3
        have HL4 := Lib.hid (snd_left g4)
        have HT4 := Lib.hid (snd_tape g4)
        have hg := HG.out
        clear HG
        rw [go_bind, g4] at hg
        have HG := Lib.hid hg
        clear hg
        obtain ⟨b4, d4⟩ := go_okE g4 (readP_ok hb) d3
        have G4 := Lib.hid g4
        clear g4
        go_wp2_with (fail)
        with_reducible refine (readR_any F rb w0 s3 s4 v4 slot _ H3.out d3 G4.out).mono ?_
        rintro e w4 ⟨rfl, h4⟩
        have H4 := Lib.hid h4
        clear h4 G4
        go_wp2_with (fail)
        go_roundw
        case rel => unfold RSlot; exact ⟨v4, g, s4, rfl, b4, fun _ => by have := HL3.out; have := HL4.out; omega, by rw [HT4.out, HT3.out, HT2.out], H4.out, d4, HG.out⟩
        case measure =>
          have e4 := leftW_eq H4.out
          have e2 := leftW_eq H2.out
          rw [HT4.out, HT3.out, HT2.out] at e4
          rw [HT2.out] at e2
          have := HL3.out
          have := HL4.out
          omega
      · have hg := HG.out
        clear HG
        rw [if_neg (fun h => k h.2)] at hg
        have HG := Lib.hid hg
        clear hg
        have e5 : (wKind x == 5) = false := by simpa using k
        clear k
        obtain ⟨rfl, rfl⟩ := Prod.mk.inj HG.out
        go_wp2_with (fail)
        with_reducible refine (refKind_any x _ b2.lo b2.hi).mono ?_
        rintro e w3 ⟨rfl, rfl⟩
        go_wp2_with (fail)
        go_ret
        exact ⟨rfl, H2.out⟩
theorem RAt.setRec {F : Nat → Prop} {rb : Nat} {w0 w : World} {s : RunS} (h : RAt F rb w0 s w) (a : Int) : RAt F rb w0 s (w.setCell ⟨rb, 8, none⟩ (.int .i64 a)) ∧ (∃ r, w.cell? ⟨rb, 8, none⟩ = some (.int .i64 r)) ∧ w.frozen? ⟨rb, 8, none⟩ = false := by
  obtain ⟨⟨tv, wv, rec, laid, hp⟩, hc⟩ := h
  have hc2 := Chg.of_mv (F := fun x => x = rb) (Mv.set1 w rb 8 (.int .i64 a)) rfl
  exact ⟨⟨⟨tv, wv, a, laid, hp.fb, hp.blk.set_ 8 _, hc2.own hp.tape (own_blk_not hp.tape hp.blk (by decide)), hc2.own hp.ws (own_blk_not hp.ws hp.blk (by decide)), hp.ft, hp.fw⟩, hc.trans hc2⟩, ⟨rec, hp.blk.cell 8⟩, hp.blk.frozen 8⟩
set_option maxRecDepth 100000 in
set_option maxHeartbeats 2000000 in
theorem dcssR_any (s0 s' : RunS) (v : Int) (tag guard place old x : Int) (w : World) (h : RAt F rb w0 s0 w) (d0 : s0.Bd) (hg : (dcssP tag guard place old x).go s0 = (v, s')) (hgd : i64B guard) (hp : i64B place) (ho : i64B old) (hx : i64B x) :
    Calls Tryz.prog 197 #[.pointer (some ⟨rb, 0, none⟩), .int .i64 guard, .int .i64 place, .int .i64 old, .int .i64 x] w fun e w' => e = .returned (.int .i64 v) ∧ RAt F rb w0 s' w' := by
  unfold dcssP at hg
  have HG := Lib.hid hg
  have H0 := Lib.hid h
  clear hg h
  go_enter Tryz.func197, Tryz.ntmps197
  go_wp2_with (fail)
  with_reducible refine (dcssW7_any guard place old x _).mono ?_
  rintro e wa ⟨qv, rfl, hq, hqb⟩
  have HQ := Lib.hid (own_mono hq (Nat.zero_le _))
  have HN := Lib.hid (fun g (hg : qv.ownBlock = some g) => Nat.le_trans H0.out.2.size (hq.lt g hg).1)
  have H0a := Lib.hid (H0.out.below hqb)
  clear hq hqb H0
  obtain ⟨v1, s1, g1⟩ := go_ex (makeP (dcssW guard place old x) tag) s0
  have hg := HG.out
  clear HG
  rw [go_bind, g1] at hg
  have HG := Lib.hid hg
  clear hg
  obtain ⟨b1, d1⟩ := go_okE g1 (makeP_ok (by intro y hy; simp [dcssW] at hy; rcases hy with rfl | rfl | rfl | rfl | rfl <;> first | assumption | exact i64B_zero) (by simp [dcssW])) d0
  have G1 := Lib.hid g1
  clear g1
  go_wp2_with (fail)
  with_reducible refine (makeR_any F rb w0 s0 s1 v1 (dcssW guard place old x) tag qv _ H0a.out d0 HQ.out HN.out G1.out).mono ?_
  rintro e w1 ⟨rfl, h1⟩
  have H1 := Lib.hid h1
  clear h1 H0a HQ HN G1
  have b10 := b1.lo
  have b11 := b1.hi
  by_cases k1 : v1 ≤ 0
  · have e1 : decide (0 < v1) = false := decide_eq_false (by omega)
    have hg := HG.out
    clear HG
    rw [if_pos k1] at hg
    have HG := Lib.hid hg
    clear hg
    obtain ⟨rfl, rfl⟩ := Prod.mk.inj HG.out
    rw [e1]
    clear e1 k1
    go_wp2_with (fail)
    go_ret
    exact ⟨rfl, H1.out⟩
  · have e1 : decide (0 < v1) = true := decide_eq_true (by omega)
    have hg := HG.out
    clear HG
    rw [if_neg k1] at hg
    have HG := Lib.hid hg
    clear hg
    rw [e1]
    clear e1
    obtain ⟨hr, ⟨rc, c8⟩, f8⟩ := H1.out.setRec v1
    have H2 : Hid (RAt F rb w0 s1 (w1.setCell ⟨rb, 8, none⟩ (.int .i64 v1))) := Lib.hid hr
    clear hr
    go_wp2_with (fail)
    generalize w1.setCell ⟨rb, 8, none⟩ (.int .i64 v1) = w1b at H2 ⊢
    clear H1 c8 f8
    with_reducible refine (refOf_any 5 v1 _).mono ?_
    rintro e w2 ⟨rfl, rfl⟩
    have H1 : Hid (RAt F rb w0 s1 w1b) := H2
    clear H2
    obtain ⟨v2, s2, g2⟩ := go_ex (casP place old (wOf 5 v1)) s1
    have hg := HG.out
    clear HG
    rw [go_bind, g2] at hg
    have HG := Lib.hid hg
    clear hg
    obtain ⟨b2, d2⟩ := go_okE g2 (casP_ok hp ho (wOf_i64 _ _)) d1
    have G2 := Lib.hid g2
    clear g2
    go_wp2_with (fail)
    with_reducible refine (casR_any F rb w0 s1 s2 v2 place old (wOf 5 v1) _ H1.out d1 G2.out).mono ?_
    rintro e w2 ⟨rfl, h2⟩
    have H2 := Lib.hid h2
    clear h2 H1 G2
    cases v2 with
    | false =>
      have hg := HG.out
      clear HG
      rw [if_pos rfl] at hg
      have HG := Lib.hid hg
      clear hg
      obtain ⟨rfl, rfl⟩ := Prod.mk.inj HG.out
      go_wp2_with (fail)
      go_ret
      exact ⟨rfl, H2.out⟩
    | true =>
      have hg := HG.out
      clear HG
      rw [if_neg (fun h => Bool.false_ne_true h.symm)] at hg
      have HG := Lib.hid hg
      clear hg
      obtain ⟨v3, s3, g3⟩ := go_ex (readP guard) s2
      have hg := HG.out
      clear HG
      rw [go_bind, g3] at hg
      have HG := Lib.hid hg
      clear hg
      obtain ⟨b3, d3⟩ := go_okE g3 (readP_ok hgd) d2
      have G3 := Lib.hid g3
      clear g3
      go_wp2_with (fail)
      with_reducible refine (readR_any F rb w0 s2 s3 v3 guard _ H2.out d2 G3.out).mono ?_
      rintro e w3 ⟨rfl, h3⟩
      have H3 := Lib.hid h3
      clear h3 H2 G3
      by_cases kg : v3 = 0
      · have eg : (v3 != 0) = false := by simpa using kg
        have hg := HG.out
        clear HG
        rw [show (if v3 = 0 then (1 : Int) else 2) = 1 from if_pos kg] at hg
        have HG := Lib.hid hg
        clear hg
        clear kg
        obtain ⟨v4, s4, g4⟩ := go_ex (casP (wrap64 (v1 + 4)) 0 1) s3
        have hg := HG.out
        clear HG
        rw [go_bind, g4] at hg
        have HG := Lib.hid hg
        clear hg
        obtain ⟨b4, d4⟩ := go_okE g4 (casP_ok (wrap_bd _) i64B_zero one_i64) d3
        have G4 := Lib.hid g4
        clear g4
        go_wp2_with (fail)
        with_reducible refine (casR_any F rb w0 s3 s4 v4 (wrap64 (v1 + 4)) 0 1 _ H3.out d3 G4.out).mono ?_
        rintro e w4 ⟨rfl, h4⟩
        have H4 := Lib.hid h4
        clear h4 H3 G4
        obtain ⟨v5, s5, g5⟩ := go_ex (readP (wrap64 (v1 + 4))) s4
        have hg := HG.out
        clear HG
        rw [go_bind, g5] at hg
        have HG := Lib.hid hg
        clear hg
        obtain ⟨b5, d5⟩ := go_okE g5 (readP_ok (wrap_bd _)) d4
        have G5 := Lib.hid g5
        clear g5
        go_wp2_with (fail)
        with_reducible refine (readR_any F rb w0 s4 s5 v5 (wrap64 (v1 + 4)) _ H4.out d4 G5.out).mono ?_
        rintro e w5 ⟨rfl, h5⟩
        have H5 := Lib.hid h5
        clear h5 H4 G5
        by_cases ko : v5 = 1
        · have eo : (v5 == 1) = true := by simpa using ko
          have hg := HG.out
          clear HG
          rw [if_pos ko] at hg
          have HG := Lib.hid hg
          clear hg
          clear ko
          obtain ⟨v6, s6, g6⟩ := go_ex (casP place (wOf 5 v1) x) s5
          have hg := HG.out
          clear HG
          rw [go_bind, g6] at hg
          have HG := Lib.hid hg
          clear hg
          obtain ⟨b6, d6⟩ := go_okE g6 (casP_ok hp (wOf_i64 _ _) hx) d5
          have G6 := Lib.hid g6
          clear g6
          go_wp2_with (fail)
          with_reducible refine (casR_any F rb w0 s5 s6 v6 place (wOf 5 v1) x _ H5.out d5 G6.out).mono ?_
          rintro e w6 ⟨rfl, h6⟩
          have H6 := Lib.hid h6
          clear h6 H5 G6
          obtain ⟨rfl, rfl⟩ := Prod.mk.inj HG.out
          go_wp2_with (fail)
          go_ret
          exact ⟨rfl, H6.out⟩
        · have eo : (v5 == 1) = false := by simpa using ko
          have hg := HG.out
          clear HG
          rw [if_neg ko] at hg
          have HG := Lib.hid hg
          clear hg
          clear ko
          obtain ⟨v6, s6, g6⟩ := go_ex (casP place (wOf 5 v1) old) s5
          have hg := HG.out
          clear HG
          rw [go_bind, g6] at hg
          have HG := Lib.hid hg
          clear hg
          obtain ⟨b6, d6⟩ := go_okE g6 (casP_ok hp (wOf_i64 _ _) ho) d5
          have G6 := Lib.hid g6
          clear g6
          go_wp2_with (fail)
          with_reducible refine (casR_any F rb w0 s5 s6 v6 place (wOf 5 v1) old _ H5.out d5 G6.out).mono ?_
          rintro e w6 ⟨rfl, h6⟩
          have H6 := Lib.hid h6
          clear h6 H5 G6
          obtain ⟨rfl, rfl⟩ := Prod.mk.inj HG.out
          go_wp2_with (fail)
          go_ret
          exact ⟨rfl, H6.out⟩
      · have eg : (v3 != 0) = true := by simpa using kg
        have hg := HG.out
        clear HG
        rw [show (if v3 = 0 then (1 : Int) else 2) = 2 from if_neg kg] at hg
        have HG := Lib.hid hg
        clear hg
        clear kg
        obtain ⟨v4, s4, g4⟩ := go_ex (casP (wrap64 (v1 + 4)) 0 2) s3
        have hg := HG.out
        clear HG
        rw [go_bind, g4] at hg
        have HG := Lib.hid hg
        clear hg
        obtain ⟨b4, d4⟩ := go_okE g4 (casP_ok (wrap_bd _) i64B_zero two_i64) d3
        have G4 := Lib.hid g4
        clear g4
        go_wp2_with (fail)
        with_reducible refine (casR_any F rb w0 s3 s4 v4 (wrap64 (v1 + 4)) 0 2 _ H3.out d3 G4.out).mono ?_
        rintro e w4 ⟨rfl, h4⟩
        have H4 := Lib.hid h4
        clear h4 H3 G4
        obtain ⟨v5, s5, g5⟩ := go_ex (readP (wrap64 (v1 + 4))) s4
        have hg := HG.out
        clear HG
        rw [go_bind, g5] at hg
        have HG := Lib.hid hg
        clear hg
        obtain ⟨b5, d5⟩ := go_okE g5 (readP_ok (wrap_bd _)) d4
        have G5 := Lib.hid g5
        clear g5
        go_wp2_with (fail)
        with_reducible refine (readR_any F rb w0 s4 s5 v5 (wrap64 (v1 + 4)) _ H4.out d4 G5.out).mono ?_
        rintro e w5 ⟨rfl, h5⟩
        have H5 := Lib.hid h5
        clear h5 H4 G5
        by_cases ko : v5 = 1
        · have eo : (v5 == 1) = true := by simpa using ko
          have hg := HG.out
          clear HG
          rw [if_pos ko] at hg
          have HG := Lib.hid hg
          clear hg
          clear ko
          obtain ⟨v6, s6, g6⟩ := go_ex (casP place (wOf 5 v1) x) s5
          have hg := HG.out
          clear HG
          rw [go_bind, g6] at hg
          have HG := Lib.hid hg
          clear hg
          obtain ⟨b6, d6⟩ := go_okE g6 (casP_ok hp (wOf_i64 _ _) hx) d5
          have G6 := Lib.hid g6
          clear g6
          go_wp2_with (fail)
          with_reducible refine (casR_any F rb w0 s5 s6 v6 place (wOf 5 v1) x _ H5.out d5 G6.out).mono ?_
          rintro e w6 ⟨rfl, h6⟩
          have H6 := Lib.hid h6
          clear h6 H5 G6
          obtain ⟨rfl, rfl⟩ := Prod.mk.inj HG.out
          go_wp2_with (fail)
          go_ret
          exact ⟨rfl, H6.out⟩
        · have eo : (v5 == 1) = false := by simpa using ko
          have hg := HG.out
          clear HG
          rw [if_neg ko] at hg
          have HG := Lib.hid hg
          clear hg
          clear ko
          obtain ⟨v6, s6, g6⟩ := go_ex (casP place (wOf 5 v1) old) s5
          have hg := HG.out
          clear HG
          rw [go_bind, g6] at hg
          have HG := Lib.hid hg
          clear hg
          obtain ⟨b6, d6⟩ := go_okE g6 (casP_ok hp (wOf_i64 _ _) ho) d5
          have G6 := Lib.hid g6
          clear g6
          go_wp2_with (fail)
          with_reducible refine (casR_any F rb w0 s5 s6 v6 place (wOf 5 v1) old _ H5.out d5 G6.out).mono ?_
          rintro e w6 ⟨rfl, h6⟩
          have H6 := Lib.hid h6
          clear h6 H5 G6
          obtain ⟨rfl, rfl⟩ := Prod.mk.inj HG.out
          go_wp2_with (fail)
          go_ret
          exact ⟨rfl, H6.out⟩
def RSeek (k : Int) (v : Int × Bool) (s' : RunS) (T : List Int) (nv : Value) (wr : World) : Prop := ∃ (n : Int) (f : Nat) (s : RunS), nv = .int .i64 n ∧ i64B n ∧ (s.off = false → s.left < f) ∧ s.tape = T ∧ RAt F rb w0 s wr ∧ s.Bd ∧ (seekP k f n).go s = (v, s')
theorem seekP_off {k n : Int} {s : RunS} (h : s.off = true) : ∀ f, (seekP k f n).go s = ((0, false), s)
  | 0 => rfl
  | f + 1 => by unfold seekP; rw [go_chk, if_pos h]; rfl
theorem childP_lt (n k : Int) {s : RunS} (h : s.off = false) (ha : s.Bd) : ((childP n k).go s).2.left < s.left := readP_lt n _ h ha
set_option maxRecDepth 100000 in
set_option maxHeartbeats 2000000 in
theorem seekR_any (s0 s' : RunS) (v : Int × Bool) (f : Nat) (k : Int) (w : World) (h : RAt F rb w0 s0 w) (d0 : s0.Bd) (hg : (seekP k f 1).go s0 = (v, s')) (hk : i64B k) (hf : s0.left < f) :
    Calls Tryz.prog 199 #[.pointer (some ⟨rb, 0, none⟩), .int .i64 k] w fun e w' => e = .returned (.tuple #[.int .i64 v.1, .bool v.2]) ∧ RAt F rb w0 s' w' := by
  have HG := Lib.hid hg
  have H0 := Lib.hid h
  have HLF := Lib.hid hf
  clear hg h hf
  go_enter Tryz.func199, Tryz.ntmps199
  go_wp2_with (fail)
  go_loopw [6] (fun nv wr => RSeek F rb w0 k v s' s0.tape nv wr) (fun _ wr => leftW rb s0.tape.length wr)
  case atStart => unfold RSeek; exact ⟨1, f, s0, rfl, one_i64, fun _ => HLF.out, rfl, H0.out, d0, HG.out⟩
  case round =>
    obtain ⟨n, f1, s1, rfl, hn, hl1, ht1, h1, d1, hg1⟩ := hrel
    clear H0 HG HLF d0
    have H1 := Lib.hid h1
    have HG := Lib.hid hg1
    have HL0 := Lib.hid hl1
    have HT0 := Lib.hid ht1
    clear h1 hg1 hl1 ht1
    cases ho : s1.off with
    | true =>
      have c2 := off_cell H1.out ho
      have hg := HG.out
      clear HG
      rw [seekP_off ho] at hg
      have HG := Lib.hid hg
      clear hg
      clear ho
      obtain ⟨rfl, rfl⟩ := Prod.mk.inj HG.out
      go_wp2_with (fail)
      go_ret2
      exact ⟨rfl, H1.out⟩
    | false =>
      have c2 := off_cell H1.out ho
      have hlt := HL0.out ho
      have HO := Lib.hid ho
      obtain ⟨g, rfl⟩ : ∃ g, f1 = g + 1 := ⟨f1 - 1, by omega⟩
      unfold seekP at HG
      have hg := HG.out
      clear HG
      rw [go_chk] at hg
      have HG := Lib.hid hg
      clear hg
      have hg := HG.out
      clear HG
      rw [ho] at hg
      have HG := Lib.hid hg
      clear hg
      clear ho
      have hg := HG.out
      clear HG
      rw [if_neg Bool.false_ne_true] at hg
      have HG := Lib.hid hg
      clear hg
      obtain ⟨v2, s2, g2⟩ := go_ex (childP n k) s1
      have HL2 := Lib.hid (show s2.left < s1.left by have := childP_lt n k HO.out d1; rw [g2] at this; exact this)
      have HT2 := Lib.hid (snd_tape g2)
      have hg := HG.out
      clear HG
      rw [go_bind, g2] at hg
      have HG := Lib.hid hg
      clear hg
      obtain ⟨b2, d2⟩ := go_okE g2 (childP_ok hn) d1
      have G2 := Lib.hid g2
      clear g2
      go_wp2_with (fail)
      with_reducible refine (childR_any F rb w0 s1 s2 v2 n k _ H1.out d1 G2.out hn hk).mono ?_
      rintro e w2 ⟨rfl, h2⟩
      have H2 := Lib.hid h2
      clear h2 G2
      obtain ⟨v3, s3, g3⟩ := go_ex (peekP v2) s2
      have HL3 := Lib.hid (snd_left g3)
      have HT3 := Lib.hid (snd_tape g3)
      have hg := HG.out
      clear HG
      rw [go_bind, g3] at hg
      have HG := Lib.hid hg
      clear hg
      obtain ⟨b3, d3⟩ := go_okE g3 (peekP_ok b2) d2
      have G3 := Lib.hid g3
      clear g3
      go_wp2_with (fail)
      with_reducible refine (peekR_any F rb w0 s2 s3 v3 v2 _ H2.out d2 G3.out b2).mono ?_
      rintro e w3 ⟨rfl, h3⟩
      have H3 := Lib.hid h3
      clear h3 G3 H2
      have ha := wAt_bd v3
      go_wp2_with (fail)
      with_reducible refine (refAtw_any v3 _ b3.lo b3.hi).mono ?_
      rintro e w4 ⟨rfl, rfl⟩
      go_wp2_with (fail)
      with_reducible refine (refKind_any v3 _ b3.lo b3.hi).mono ?_
      rintro e w4 ⟨rfl, rfl⟩
      by_cases k2 : wKind v3 = 2
      · have hg := HG.out
        clear HG
        rw [if_pos k2] at hg
        have HG := Lib.hid hg
        clear hg
        have e2 : (wKind v3 == 2) = true := by simpa using k2
        clear k2
        obtain ⟨v4, s4, g4⟩ := go_ex (readP (wAt v3)) s3
        have hg := HG.out
        clear HG
        rw [go_bind, g4] at hg
        have HG := Lib.hid hg
        clear hg
        obtain ⟨b4, d4⟩ := go_okE g4 (readP_ok (wAt_i64' v3)) d3
        have G4 := Lib.hid g4
        clear g4
        go_wp2_with (fail)
        with_reducible refine (readR_any F rb w0 s3 s4 v4 (wAt v3) _ H3.out d3 G4.out).mono ?_
        rintro e w4 ⟨rfl, h4⟩
        have H4 := Lib.hid h4
        clear h4 H3 G4
        by_cases kq : v4 = k
        · have hg := HG.out
          clear HG
          rw [if_pos kq] at hg
          have HG := Lib.hid hg
          clear hg
          have eq : (v4 != k) = false := by simpa using kq
          clear kq
          obtain ⟨v5, s5, g5⟩ := go_ex (readP (wAt v3 + 1)) s4
          have hg := HG.out
          clear HG
          rw [go_bind, g5] at hg
          have HG := Lib.hid hg
          clear hg
          obtain ⟨b5, d5⟩ := go_okE g5 (readP_ok (wAt_i64 v3 (by decide) (by decide))) d4
          have G5 := Lib.hid g5
          clear g5
          go_wp2_with (fail)
          with_reducible refine (readR_any F rb w0 s4 s5 v5 (wAt v3 + 1) _ H4.out d4 G5.out).mono ?_
          rintro e w5 ⟨rfl, h5⟩
          have H5 := Lib.hid h5
          clear h5 H4 G5
          obtain ⟨rfl, rfl⟩ := Prod.mk.inj HG.out
          go_wp2_with (fail)
          go_ret2
          exact ⟨rfl, H5.out⟩
        · have hg := HG.out
          clear HG
          rw [if_neg kq] at hg
          have HG := Lib.hid hg
          clear hg
          have eq : (v4 != k) = true := by simpa using kq
          clear kq
          obtain ⟨rfl, rfl⟩ := Prod.mk.inj HG.out
          go_wp2_with (fail)
          go_ret2
          exact ⟨rfl, H4.out⟩
      · have hg := HG.out
        clear HG
        rw [if_neg k2] at hg
        have HG := Lib.hid hg
        clear hg
        have e2 : (wKind v3 == 2) = false := by simpa using k2
        by_cases k3 : wKind v3 = 3
        · have hg := HG.out
          clear HG
          rw [if_pos k3] at hg
          have HG := Lib.hid hg
          clear hg
          have e3 : (wKind v3 == 3) = true := by simpa using k3
          clear k2 k3
          go_wp2_with (fail)
          go_roundw
          case rel => unfold RSeek; exact ⟨wAt v3, g, s3, rfl, wAt_i64' v3, fun _ => by have := HL3.out; have := HL2.out; omega, by rw [HT3.out, HT2.out, HT0.out], H3.out, d3, HG.out⟩
          case measure =>
            have e4 := leftW_eq H3.out
            have e1 := leftW_eq H1.out
            rw [HT3.out, HT2.out, HT0.out] at e4
            rw [HT0.out] at e1
            have := HL3.out
            have := HL2.out
            omega
        · have hg := HG.out
          clear HG
          rw [if_neg k3] at hg
          have HG := Lib.hid hg
          clear hg
          have e3 : (wKind v3 == 3) = false := by simpa using k3
          by_cases k4 : wKind v3 = 4
          · have hg := HG.out
            clear HG
            rw [if_pos k4] at hg
            have HG := Lib.hid hg
            clear hg
            have e4 : (wKind v3 == 4) = true := by simpa using k4
            clear k2 k3 k4
            obtain ⟨v4, s4, g4⟩ := go_ex (readP (wAt v3)) s3
            have HL4 := Lib.hid (snd_left g4)
            have HT4 := Lib.hid (snd_tape g4)
            have hg := HG.out
            clear HG
            rw [go_bind, g4] at hg
            have HG := Lib.hid hg
            clear hg
            obtain ⟨b4, d4⟩ := go_okE g4 (readP_ok (wAt_i64' v3)) d3
            have G4 := Lib.hid g4
            clear g4
            go_wp2_with (fail)
            with_reducible refine (readR_any F rb w0 s3 s4 v4 (wAt v3) _ H3.out d3 G4.out).mono ?_
            rintro e w4 ⟨rfl, h4⟩
            have H4 := Lib.hid h4
            clear h4 H3 G4
            go_wp2_with (fail)
            with_reducible refine (refAtw_any v4 _ b4.lo b4.hi).mono ?_
            rintro e w5 ⟨rfl, rfl⟩
            go_wp2_with (fail)
            go_roundw
            case rel => unfold RSeek; exact ⟨wAt v4, g, s4, rfl, wAt_i64' v4, fun _ => by have := HL4.out; have := HL3.out; have := HL2.out; omega, by rw [HT4.out, HT3.out, HT2.out, HT0.out], H4.out, d4, HG.out⟩
            case measure =>
              have e4 := leftW_eq H4.out
              have e1 := leftW_eq H1.out
              rw [HT4.out, HT3.out, HT2.out, HT0.out] at e4
              rw [HT0.out] at e1
              have := HL4.out
              have := HL3.out
              have := HL2.out
              omega
          · have hg := HG.out
            clear HG
            rw [if_neg k4] at hg
            have HG := Lib.hid hg
            clear hg
            have e4 : (wKind v3 == 4) = false := by simpa using k4
            clear k2 k3 k4
            obtain ⟨rfl, rfl⟩ := Prod.mk.inj HG.out
            go_wp2_with (fail)
            go_ret2
            exact ⟨rfl, H3.out⟩
end
end Go.Proofs.YtblajeildolloaaGreat

/- Wide: the strictly ascending keys of raw numbers. -/
namespace Go.Proofs.YtblajeildolloaaGreat
set_option linter.unusedVariables false
set_option linter.unusedSimpArgs false
open Go.RowKit

def keysP (L : List (Int × Int)) : List Int := L.map (·.1)
theorem keysP_len (L : List (Int × Int)) : (keysP L).length = L.length := by simp [keysP]
theorem keysP_at (L : List (Int × Int)) (i : Nat) (h : i < L.length) : keyAt (keysP L) i = pkey L i := by
  unfold keyAt pkey keysP
  rw [List.getD_eq_getElem?_getD, List.getD_eq_getElem?_getD]
  simp [h]
def putR : List (Int × Int) → Int → Int → List (Int × Int)
  | [], k, v => [(k, v)]
  | p :: L, k, v => if p.1 < k then p :: putR L k v else if p.1 = k then (k, v) :: L else (k, v) :: p :: L
theorem putP_eq : ∀ (L : List (Int × Int)) (k v : Int), putP L k v = putR L k v
  | [], k, v => rfl
  | p :: L, k, v => by
    have ih := putP_eq L k v
    unfold putP at ih ⊢
    by_cases c : p.1 < k
    · have ep : placeP (p :: L) k = placeP L k + 1 := by simp [placeP, c]
      have er : putR (p :: L) k v = p :: putR L k v := by simp [putR, c]
      have e : pkey (p :: L) (placeP L k + 1) = pkey L (placeP L k) := rfl
      simp only [ep, er, e]
      rw [← ih]
      by_cases d : placeP L k < L.length ∧ pkey L (placeP L k) = k
      · rw [if_pos d, if_pos ⟨by simp only [List.length_cons]; omega, d.2⟩]; simp
      · rw [if_neg d, if_neg fun h => d ⟨by have := h.1; simp only [List.length_cons] at this; omega, h.2⟩]; simp
    · have ep : placeP (p :: L) k = 0 := by simp [placeP, c]
      have e : pkey (p :: L) 0 = p.1 := rfl
      simp only [ep, e]
      by_cases d : p.1 = k
      · have er : putR (p :: L) k v = (k, v) :: L := by simp only [putR]; rw [if_neg c, if_pos d]
        rw [er, if_pos ⟨by simp, d⟩]; simp
      · have er : putR (p :: L) k v = (k, v) :: p :: L := by simp only [putR]; rw [if_neg c, if_neg d]
        rw [er, if_neg fun h => d h.2]; simp
theorem putR_mem : ∀ (L : List (Int × Int)) (k v x : Int), x ∈ keysP (putR L k v) → x = k ∨ x ∈ keysP L
  | [], k, v, x, h => by simp [putR, keysP] at h; exact .inl h
  | p :: L, k, v, x, h => by
    simp only [putR] at h
    split at h
    · simp only [keysP, List.map_cons, List.mem_cons] at h ⊢
      rcases h with h | h
      · exact .inr (.inl h)
      · rcases putR_mem L k v x h with h | h
        · exact .inl h
        · exact .inr (.inr h)
    · split at h
      · simp only [keysP, List.map_cons, List.mem_cons] at h ⊢
        rcases h with h | h
        · exact .inl h
        · exact .inr (.inr h)
      · simp only [keysP, List.map_cons, List.mem_cons] at h ⊢
        exact h
theorem putR_asc : ∀ (L : List (Int × Int)) (k v : Int), (keysP L).Pairwise (· < ·) → (keysP (putR L k v)).Pairwise (· < ·)
  | [], k, v, _ => by simp [putR, keysP]
  | p :: L, k, v, h => by
    have h' : (∀ x ∈ keysP L, p.1 < x) ∧ (keysP L).Pairwise (· < ·) := List.pairwise_cons.1 h
    simp only [putR]
    split
    · rename_i c
      refine List.pairwise_cons.2 ⟨fun x hx => ?_, putR_asc L k v h'.2⟩
      rcases putR_mem L k v x hx with e | e
      · subst e; exact c
      · exact h'.1 x e
    · split
      · rename_i c d
        exact List.pairwise_cons.2 ⟨fun x hx => by have := h'.1 x hx; simp only; omega, h'.2⟩
      · rename_i c d
        refine List.pairwise_cons.2 ⟨fun x hx => ?_, h⟩
        rcases List.mem_cons.1 hx with e | e
        · have e2 : x = p.1 := e
          simp only; omega
        · have := h'.1 x e; simp only; omega
theorem putR_len : ∀ (L : List (Int × Int)) (k v : Int), (putR L k v).length ≤ L.length + 1
  | [], k, v => by simp [putR]
  | p :: L, k, v => by
    have := putR_len L k v
    simp only [putR]
    split
    · simp only [List.length_cons]; omega
    · split <;> simp
def wideTo (l : List Int) : Nat → List (Int × Int)
  | 0 => []
  | k + 1 => putP (wideTo l k) (keyAt l k) 0
def wideL (l : List Int) : List Int := keysP (wideTo l (min l.length 80))
theorem wideTo_len (l : List Int) : ∀ k, (wideTo l k).length ≤ k
  | 0 => Nat.le_refl _
  | k + 1 => by
    have := wideTo_len l k
    rw [wideTo, putP_eq]
    have := putR_len (wideTo l k) (keyAt l k) 0
    omega
theorem wideTo_asc (l : List Int) : ∀ k, (keysP (wideTo l k)).Pairwise (· < ·)
  | 0 => by simp [wideTo, keysP]
  | k + 1 => by rw [wideTo, putP_eq]; exact putR_asc _ _ _ (wideTo_asc l k)
theorem wideTo_mem (l : List Int) : ∀ k x, x ∈ keysP (wideTo l k) → ∃ j, j < k ∧ x = keyAt l j
  | 0, x, h => by simp [wideTo, keysP] at h
  | k + 1, x, h => by
    rw [wideTo, putP_eq] at h
    rcases putR_mem _ _ _ _ h with e | e
    · exact ⟨k, by omega, e⟩
    · obtain ⟨j, a, b⟩ := wideTo_mem l k x e
      exact ⟨j, by omega, b⟩
theorem keyAt_mem' {p : List Int} {t : Nat} (h : t < p.length) : keyAt p t ∈ p := by
  simp [keyAt, List.getD_eq_getElem?_getD, h]
theorem wideL_len (l : List Int) : (wideL l).length ≤ 80 := by
  unfold wideL
  have := wideTo_len l (min l.length 80)
  rw [keysP_len]; omega
theorem wideL_right (l : List Int) : rightB (wideL l) = true := by
  refine rightB_of (by have := wideL_len l; omega) (fun i a b => ?_)
  have h := wideTo_asc l (min l.length 80)
  have := List.pairwise_iff_getElem.1 h (i - 1) i (by show i - 1 < (wideL l).length; omega) b (by omega)
  unfold keyAt
  rw [List.getD_eq_getElem?_getD, List.getD_eq_getElem?_getD, List.getElem?_eq_getElem (by omega), List.getElem?_eq_getElem b]
  exact this
theorem wideL_bd {l : List Int} (hw : ∀ i, i < l.length → -9223372036854775808 ≤ keyAt l i ∧ keyAt l i ≤ 9223372036854775807) (i : Nat) (h : i < (wideL l).length) : -9223372036854775808 ≤ keyAt (wideL l) i ∧ keyAt (wideL l) i ≤ 9223372036854775807 := by
  obtain ⟨j, a, b⟩ := wideTo_mem l _ _ (keyAt_mem' h)
  have e : keyAt (wideL l) i = keyAt l j := b
  rw [e]
  exact hw j (by omega)
theorem take_succ_key {p : List Int} {t : Nat} (h : t < p.length) : p.take (t + 1) = p.take t ++ [keyAt p t] := by
  rw [List.take_add_one, List.getElem?_eq_getElem h]
  simp [keyAt, List.getD_eq_getElem?_getD, h]

def WideRel (l : List Int) (w : World) (v i : Value) (wr : World) : Prop := ∃ (k : Nat) (A : Option Addr) (c : Nat), k ≤ l.length ∧ k ≤ 80 ∧ v = .slice A (wideTo l k).length c ∧ i = .int .i64 k ∧ (wideTo l k).length ≤ c ∧ PairsAt wr wr.heap.size A (wideTo l k) ∧ Below w.heap.size w wr
def OutRel (L : List (Int × Int)) (V : World) (v i : Value) (wr : World) : Prop := ∃ k : Nat, k ≤ L.length ∧ i = .int .i64 k ∧ wr.ownsRow V.heap.size 2 1 v k (((keysP L).take k).map (Value.int .i64)) ∧ Below V.heap.size V wr

set_option maxHeartbeats 4000000 in
set_option maxRecDepth 100000 in
theorem wide_any (A : Option Addr) (c : Nat) (l : List Int) (w : World) (hq : IntsAt w w.heap.size A l) (hl : l.length ≤ 140737488351232) (hw : ∀ i, i < l.length → -9223372036854775808 ≤ keyAt l i ∧ keyAt l i ≤ 9223372036854775807) :
    Calls Tryz.prog 21 #[.slice A l.length c] w (SomeInts (wideL l) w) := by
  obtain ⟨i0, hi0, hz0, hz1, hz2⟩ := info_parts info_int64
  have HQ := Lib.hid hq
  have HW := Lib.hid hw
  clear hq hw
  go_enter Tryz.func21, Tryz.ntmps21
  go_wp2
  go_loopw [3, 4] (fun v i wr => WideRel l w v i wr) (fun _ i _ => l.length - (intOf i).toNat)
  case atStart => unfold WideRel; exact ⟨0, none, 0, by omega, by omega, rfl, rfl, Nat.le_refl _, Reads.none_, Below.refl _ _⟩
  case round =>
    obtain ⟨k, A1, c1, k1, k2, rfl, rfl, hc1, hp, hB⟩ := hrel
    have hlen := wideTo_len l k
    by_cases hlt : k < l.length ∧ k < 80
    · obtain ⟨hlt1, hlt2⟩ := hlt
      obtain ⟨ad, rfl, hbl, hc⟩ := (HQ.out.below hB).cells (by omega)
      have hcell := hc k hlt1
      have e := Lib.hid (show wideTo l (k + 1) = putP (wideTo l k) (keyAt l k) 0 from rfl)
      clear hc
      go_wp2_with (fail)
      refine (put_any A1 c1 (wideTo l k) (keyAt l k) 0 wr hp (by omega) hc1).mono ?_
      rintro x V2 ⟨A2, c2, rfl, hc2, hp2, hb⟩
      have hB2 := below_called hB hb
      clear hp hb hcell
      rw [← e.out] at hc2 hp2 ⊢
      go_wp2_with (fail)
      go_roundw
      case rel => unfold WideRel; exact ⟨k + 1, A2, c2, by omega, by omega, rfl, by go_num, hc2, hp2, hB2⟩
      case measure => simp [intOf]; omega
    · have hk : Hid (wideL l = keysP (wideTo l k)) := Lib.hid (by unfold wideL; congr 2; omega)
      have hk5 : (wideTo l k).length ≤ 80 := by omega
      by_cases hlt1 : k < l.length
      · have hlt3 : ¬ (k : Int) < 80 := by omega
        clear hlt
        obtain ⟨L, hL⟩ : ∃ L, wideTo l k = L := ⟨_, rfl⟩
        rw [hL] at hp hc1 hk hk5 ⊢
        clear hlen hL
        have HP := Lib.hid hp
        clear hp
        obtain ⟨V, rfl⟩ : ∃ V, V = wr := ⟨_, rfl⟩
        go_wp2_with (fail)
        go_loopw [5, 6] (fun v i wz => OutRel L V v i wz) (fun _ i _ => L.length - (intOf i).toNat)
        case atStart => unfold OutRel; exact ⟨0, by omega, rfl, World.ownsRow_nil _ _ _ _, Below.refl _ _⟩
        case round =>
          obtain ⟨j, j1, rfl, hown, hBj⟩ := hrel
          by_cases hj : j < L.length
          · obtain ⟨ad, rfl, hbl, hc⟩ := PairsAt.key (Reads.below HP.out hBj) (by omega)
            have hcell := hc j hj
            have ej := Lib.hid (take_succ_key (p := keysP L) (t := j) (by rw [keysP_len]; exact hj))
            have kj := keysP_at L j hj
            clear hc
            go_wp2_with (at_builtin; refine wpList_append_own _ rfl _ _ 22 rfl V.heap.size 2 i0 (.int .i64 0) 1 8 Tryz.underlying22 hi0 hz0 hz1 hz2 rfl (by decide) _ _ _ rfl (hown.alloc _) ⟨wr.heap.size, 0, none⟩ 1 1 [.int .i64 (pkey L j)] rfl rfl (cell_one_new _ _ _) (by simp [Value.oneCell']) (by simp only [maxLen]; omega) (by omega) (by have := hBj.size; simp; omega) ?_; intro v' w1 hown' hgrow _; have hB1 : Below V.heap.size V w1 := (hBj.alloc hBj.size _).grown hgrow (by have := hBj.size; simp; omega) (fun g hg => (hown.lt g hg).1))
            go_roundw
            case rel => unfold OutRel; exact ⟨j + 1, by omega, by go_num, by rw [ej.out, kj]; simpa using hown', hB1⟩
            case measure => simp [intOf]; omega
          · have e : j = L.length := by omega
            subst e
            rw [List.take_of_length_le (by rw [keysP_len]; exact Nat.le_refl _)] at hown
            have hBB := below_called hB hBj
            go_wp2_with (fail)
            go_ret
            rw [hk.out]
            exact SomeInts.of_own hown hBB
      · clear hlt
        obtain ⟨L, hL⟩ : ∃ L, wideTo l k = L := ⟨_, rfl⟩
        rw [hL] at hp hc1 hk hk5 ⊢
        clear hlen hL
        have HP := Lib.hid hp
        clear hp
        obtain ⟨V, rfl⟩ : ∃ V, V = wr := ⟨_, rfl⟩
        go_wp2_with (fail)
        go_loopw [5, 6] (fun v i wz => OutRel L V v i wz) (fun _ i _ => L.length - (intOf i).toNat)
        case atStart => unfold OutRel; exact ⟨0, by omega, rfl, World.ownsRow_nil _ _ _ _, Below.refl _ _⟩
        case round =>
          obtain ⟨j, j1, rfl, hown, hBj⟩ := hrel
          by_cases hj : j < L.length
          · obtain ⟨ad, rfl, hbl, hc⟩ := PairsAt.key (Reads.below HP.out hBj) (by omega)
            have hcell := hc j hj
            have ej := Lib.hid (take_succ_key (p := keysP L) (t := j) (by rw [keysP_len]; exact hj))
            have kj := keysP_at L j hj
            clear hc
            go_wp2_with (at_builtin; refine wpList_append_own _ rfl _ _ 22 rfl V.heap.size 2 i0 (.int .i64 0) 1 8 Tryz.underlying22 hi0 hz0 hz1 hz2 rfl (by decide) _ _ _ rfl (hown.alloc _) ⟨wr.heap.size, 0, none⟩ 1 1 [.int .i64 (pkey L j)] rfl rfl (cell_one_new _ _ _) (by simp [Value.oneCell']) (by simp only [maxLen]; omega) (by omega) (by have := hBj.size; simp; omega) ?_; intro v' w1 hown' hgrow _; have hB1 : Below V.heap.size V w1 := (hBj.alloc hBj.size _).grown hgrow (by have := hBj.size; simp; omega) (fun g hg => (hown.lt g hg).1))
            go_roundw
            case rel => unfold OutRel; exact ⟨j + 1, by omega, by go_num, by rw [ej.out, kj]; simpa using hown', hB1⟩
            case measure => simp [intOf]; omega
          · have e : j = L.length := by omega
            subst e
            rw [List.take_of_length_le (by rw [keysP_len]; exact Nat.le_refl _)] at hown
            have hBB := below_called hB hBj
            go_wp2_with (fail)
            go_ret
            rw [hk.out]
            exact SomeInts.of_own hown hBB
end Go.Proofs.YtblajeildolloaaGreat

/- The walk of ordinatehand.Cut. -/
namespace Go.Proofs.YtblajeildolloaaGreat
set_option linter.unusedVariables false
set_option linter.unusedSimpArgs false
open Go.RowKit
theorem tmod_emod (n k : Int) (hk : 0 < k) : (if n.tmod k < 0 then n.tmod k + k else n.tmod k) = n % k := by
  have h0 := Int.emod_nonneg n (show k ≠ 0 by omega)
  have h1 := Int.emod_lt_of_pos n hk
  rw [Int.tmod_eq_emod]
  split <;> split <;> omega
theorem tmod_bd (n k : Int) (hk : 0 < k) : -k < n.tmod k ∧ n.tmod k < k := by
  have h0 := Int.emod_nonneg n (show k ≠ 0 by omega)
  have h1 := Int.emod_lt_of_pos n hk
  rw [Int.tmod_eq_emod]
  split <;> omega
set_option maxHeartbeats 400000 in
theorem cut_any (n k : Int) (w : World) (h0 : -9223372036854775808 ≤ n) (h1 : n ≤ 9223372036854775807) (hk : 0 < k) (k1 : k ≤ 9223372036854775807) :
    Calls Tryz.prog 22 #[.int .i64 n, .int .i64 k] w fun e w' => e = .returned (.int .i64 (n % k)) ∧ w = w' := by
  obtain ⟨b0, b1⟩ := tmod_bd n k hk
  have H := Lib.hid (tmod_emod n k hk)
  by_cases c : n.tmod k < 0
  · rw [if_pos c] at H
    go_enter Tryz.func22, Tryz.ntmps22
    go_wp2
    go_ret
    exact ⟨ret_int H.out, rfl⟩
  · rw [if_neg c] at H
    go_enter Tryz.func22, Tryz.ntmps22
    go_wp2
    go_ret
    exact ⟨ret_int H.out, rfl⟩
theorem cut_bd (n k : Int) (hk : 0 < k) : 0 ≤ n % k ∧ n % k < k := ⟨Int.emod_nonneg n (by omega), Int.emod_lt_of_pos n hk⟩
end Go.Proofs.YtblajeildolloaaGreat

/- Words for the rows of laws that take slices of whole numbers. -/
namespace Go.Proofs.YtblajeildolloaaGreat
set_option linter.unusedVariables false
set_option linter.unusedSimpArgs false
open Go.RowKit Go.ChangeShapes Go.WideShapes

def IsRow (k : IntKind) (w : World) (a : Option Addr) (len cap : Nat) (zs : List Int) : Prop :=
  (a = none ∧ len = 0 ∧ cap = 0 ∧ zs = []) ∨
  ∃ x, a = some x ∧ len ≤ cap ∧ cap ≤ maxLen ∧ zs.length = cap ∧ (∀ i, i < zs.length → w.cell? (x.add i) = some (.int k (zs.getD i 0))) ∧ ∀ n ∈ zs, (Lit.int k n).wf = true
/-- A row's slice of whole numbers is no longer than its weight allows (the print's word, turned). -/
theorem row_sized {H : Type} {enc : TypeId × Value → H} {P : Program} {W : World} {base : Nat} {spare : Nat → Bool} {held : Bool} {t e : TypeId} {k : IntKind} {a : Option Addr} {len cap : Nat} {d : DataW H} {ps : List MemPlace} {ts : List TypeId} {ds : List (DataW H)} {j : Nat}
    (hsz : (DataW.weightsEach P ts ds).all (· ≤ reachBytes) = true) (ht : ts[j]? = some t) (hd : ds[j]? = some d) (hu : P.underlying t = some (.slice e)) (he : P.underlying e = some (.int k)) (hc : P.cellsOf e = 1) {B : Nat} (hB : P.bytesOf e = B)
    (h : DataW.Trod enc P W base spare held t (.slice a len cap) d ps) : len * B ≤ 140737488351232 := by
  obtain ⟨fuel, hf⟩ := h
  rcases open_ints hu he hc hf with ⟨hcs, _⟩ | ⟨x, l, c, zs, hcs, _, hl, _, hz, hx, _, _⟩
  · simp [Value.cells] at hcs
    obtain ⟨rfl, rfl, rfl⟩ := hcs
    simp
  · simp [Value.cells] at hcs
    obtain ⟨rfl, rfl, rfl⟩ := hcs
    obtain ⟨hx, _⟩ := Prod.mk.inj hx
    subst hx
    have z := sized_slice hsz ht hd hu
    rw [hB] at z
    have hl2 : len ≤ zs.length := by
      rw [hz]
      split
      · exact hl
      · exact Nat.le_refl _
    have h1 : (lits (H := H) k (zs.take len)).length + (lits (H := H) k (zs.drop len)).length = zs.length := by
      simp [lits]
      omega
    rw [h1] at z
    exact Nat.le_trans (Nat.mul_le_mul_right _ hl2) z
/-- What a row's slice reads as. -/
theorem row_ints {w : World} {a : Option Addr} {len cap : Nat} {zs : List Int} (h : IsRow .i64 w a len cap zs) :
    ∃ q : List Int, len = q.length ∧ q.length ≤ cap ∧ IntsAt w w.heap.size a q ∧ ∀ i, i < q.length → -9223372036854775808 ≤ keyAt q i ∧ keyAt q i ≤ 9223372036854775807 := by
  rcases h with ⟨rfl, rfl, rfl, rfl⟩ | ⟨x, rfl, hl, _, hz, hcell, hw⟩
  · exact ⟨[], rfl, Nat.le_refl _, Reads.none_, fun i h => absurd h (by simp)⟩
  · have hlen : (zs.take len).length = len := by rw [List.length_take]; omega
    have key : ∀ i, i < len → keyAt (zs.take len) i = zs.getD i 0 := fun i hi => by
      unfold keyAt
      rw [List.getD_eq_getElem?_getD, List.getD_eq_getElem?_getD, List.getElem?_take, if_pos hi]
    refine ⟨zs.take len, hlen.symm, by rw [hlen]; exact hl, ⟨by simp, fun hn => ⟨x, rfl, ?_, fun j u hu => ?_⟩⟩, fun i hi => ?_⟩
    · have := World.block_lt_of_cell? w _ (hcell 0 (by omega))
      rwa [block_of_add] at this
    · have hj : j < len := by
        rcases Nat.lt_or_ge j len with g | g
        · exact g
        · rw [List.getElem?_eq_none (by simp; omega)] at hu; cases hu
      rw [hcell j (by omega)]
      rw [List.getElem?_map, List.getElem?_take, if_pos hj, List.getElem?_eq_getElem (by omega)] at hu
      rw [List.getD_eq_getElem?_getD, List.getElem?_eq_getElem (by omega)]
      exact hu
    · have hi' : i < len := by omega
      rw [key i hi', List.getD_eq_getElem?_getD, List.getElem?_eq_getElem (by omega)]
      exact Go.bounds_i64 (hw _ (List.getElem_mem _))
end Go.Proofs.YtblajeildolloaaGreat

namespace Go.Proofs.YtblajeildolloaaGreat
set_option linter.unusedVariables false
set_option linter.unusedSimpArgs false
open Go.RowKit
/- A question whose slots are turned: as numbers. No program's text. -/

def bdI (x : Int) : Prop := -9223372036854775808 ≤ x ∧ x ≤ 9223372036854775807
def PB (l : List (Int × Int)) : Prop := ∀ p ∈ l, bdI p.1 ∧ bdI p.2
theorem PB.at_ {l : List (Int × Int)} (h : PB l) (i : Nat) : bdI (l.getD i (0, 0)).1 ∧ bdI (l.getD i (0, 0)).2 := by
  by_cases hi : i < l.length
  · have e : l.getD i (0, 0) = l[i] := by simp [List.getD, hi]
    rw [e]
    exact h _ (List.getElem_mem hi)
  · have e : l.getD i (0, 0) = (0, 0) := by simp [List.getD, List.getElem?_eq_none (by omega : l.length ≤ i)]
    rw [e]
    unfold bdI; decide
theorem PB.key {l : List (Int × Int)} (h : PB l) (i : Nat) : bdI (pkey l i) := (h.at_ i).1
theorem PB.val {l : List (Int × Int)} (h : PB l) (i : Nat) : bdI (pval l i) := (h.at_ i).2
theorem keysTo_bd {l : List (Int × Int)} (h : PB l) : ∀ i, ∀ x ∈ keysTo l i, bdI x
  | 0, x, hx => by cases hx
  | 1, x, hx => by cases hx
  | i + 2, x, hx => by
    unfold keysTo at hx
    rcases List.mem_append.1 hx with hx | hx
    · exact keysTo_bd h (i + 1) x hx
    · rw [List.mem_singleton.1 hx]; exact h.key _
theorem layF_word : ∀ f C l, 0 ≤ (layF f C l).2 ∧ (layF f C l).2 ≤ 524293
  | 0, C, l => by unfold layF; omega
  | f + 1, C, l => by
    unfold layF
    split
    · exact wOf_bd _ _
    · split <;> exact wOf_bd _ _
theorem layF_bd : ∀ (f : Nat) (C : List Int) (l : List (Int × Int)), (∀ x ∈ C, bdI x) → PB l → l.length ≤ 16384 → ∀ x ∈ (layF f C l).1, bdI x
  | 0, C, l, hC, _, _ => hC
  | f + 1, C, l, hC, hl, hn => by
    unfold layF
    split
    · intro x hx
      rcases List.mem_append.1 hx with hx | hx
      · exact hC x hx
      · have : x = 0 := by simpa using hx
        rw [this]; unfold bdI; decide
    · split
      · intro x hx
        rcases List.mem_append.1 hx with hx | hx
        · exact hC x hx
        · rcases List.mem_cons.1 hx with rfl | hx
          · exact hl.key 0
          · have : x = _ := List.mem_singleton.1 hx
            rw [this]; exact hl.val 0
      · rename_i c0 c1
        have hd := degreeI_bd (n := l.length) (by omega) (by omega)
        have key : ∀ i, (∀ x ∈ (layTo (layF f) C l i).1, bdI x) ∧ ∀ x ∈ (layTo (layF f) C l i).2, bdI x := by
          intro i
          induction i with
          | zero => exact ⟨hC, fun x hx => by cases hx⟩
          | succ i ih =>
            refine ⟨layF_bd f _ _ ih.1 (fun p hp => hl p (List.mem_of_mem_drop (List.mem_of_mem_take hp))) (by simp; omega), fun x hx => ?_⟩
            rcases List.mem_append.1 hx with hx | hx
            · exact ih.2 x hx
            · have e : x = _ := List.mem_singleton.1 hx
              have := layF_word f (layTo (layF f) C l i).1 ((l.drop (fromI l.length i).toNat).take (sizeI l.length i).toNat)
              rw [e]; unfold bdI; omega
        intro x hx
        rcases List.mem_append.1 hx with hx | hx
        · exact (key _).1 x hx
        · unfold innerW at hx
          rcases List.mem_append.1 hx with hx | hx
          · rcases List.mem_append.1 hx with hx | hx
            · rw [layTo_words] at hx
              simp only [List.mem_cons, List.not_mem_nil, or_false] at hx
              unfold bdI
              omega
            · exact keysTo_bd hl _ x hx
          · exact (key _).2 x hx
theorem layF_pre : ∀ (f : Nat) (C : List Int) (l : List (Int × Int)), ∃ X, (layF f C l).1 = C ++ X
  | 0, C, l => ⟨[], by simp [layF]⟩
  | f + 1, C, l => by
    unfold layF
    split
    · exact ⟨_, rfl⟩
    · split
      · exact ⟨_, rfl⟩
      · have key : ∀ i, ∃ X, (layTo (layF f) C l i).1 = C ++ X := by
          intro i
          induction i with
          | zero => exact ⟨[], by simp [layTo]⟩
          | succ i ih =>
            obtain ⟨X, hX⟩ := ih
            obtain ⟨Y, hY⟩ := layF_pre f (layTo (layF f) C l i).1 ((l.drop (fromI l.length i).toNat).take (sizeI l.length i).toNat)
            exact ⟨X ++ Y, by unfold layTo; rw [hY, hX, List.append_assoc]⟩
        obtain ⟨X, hX⟩ := key (degreeI l.length).toNat
        exact ⟨X ++ _, by rw [hX, List.append_assoc]⟩
theorem rdC_pre {C X : List Int} {a : Nat} (h1 : 1 ≤ a) (h2 : a ≤ C.length) : rdC (C ++ X) a = rdC C a := by
  rw [rdC_in h1 h2, rdC_in h1 (by simp; omega)]
  unfold keyAt
  simp [List.getD, List.getElem?_append_left (by omega : a - 1 < C.length)]
theorem rdC_wr {C : List Int} {a : Nat} {x : Int} (h1 : 1 ≤ a) (h2 : a ≤ C.length) : rdC (wrC C a x) a = x := by
  rw [rdC_in h1 (by rw [wrC_len]; exact h2)]
  unfold wrC
  rw [if_pos (by omega)]
  unfold keyAt
  rw [Int.toNat_natCast, List.getD, List.getElem?_set_self (by omega)]
  rfl
theorem rdC_wr_ne {C : List Int} {a b : Nat} {x : Int} (ha : 1 ≤ a) (h1 : 1 ≤ b) (h2 : b ≤ C.length) (hne : a ≠ b) : rdC (wrC C a x) b = rdC C b := by
  rw [rdC_in h1 (by rw [wrC_len]; exact h2), rdC_in h1 h2]
  unfold wrC
  split
  · unfold keyAt
    simp [List.getD]
    rw [List.getElem?_set_ne (by omega)]
  · rfl
/-- A memory whose record at Base is Begin's, with so many cells. -/
structure Good (C : List Int) : Prop where
  deg : rdC C 1 = 1
  six : 7 ≤ C.length
  bd : ∀ x ∈ C, -9223372036854775808 ≤ x ∧ x ≤ 9223372036854775807
/-- An Empty of its own is laid behind it, and stands in Root. -/
def turnC (C : List Int) : List Int := wrC (C ++ [0]) 6 (wOf 1 ((C.length : Int) + 1))
theorem turnC_len (C : List Int) : (turnC C).length = C.length + 1 := by unfold turnC; rw [wrC_len]; simp
theorem Good.wr {C : List Int} (h : Good C) {x : Int} (hx : bdI x) : Good (wrC C 6 x) :=
  ⟨(rdC_wr_ne (a := 6) (b := 1) (by omega) (by omega) (by have := h.six; omega) (by omega)).trans h.deg, by rw [wrC_len]; exact h.six, wrC_bd h.bd hx.1 hx.2⟩
theorem Good.app {C X : List Int} (h : Good C) (hX : ∀ x ∈ X, bdI x) : Good (C ++ X) :=
  ⟨(rdC_pre (a := 1) (by omega) (by have := h.six; omega)).trans h.deg, by have := h.six; simp; omega, fun x hx => by
    rcases List.mem_append.1 hx with hx | hx
    · exact h.bd x hx
    · exact hX x hx⟩
theorem Good.turn {C : List Int} (h : Good C) : Good (turnC C) := by
  have := wOf_bd 1 ((C.length : Int) + 1)
  exact (h.app (X := [0]) (by simp [bdI])).wr ⟨by omega, by omega⟩
theorem turnC_six {C : List Int} (h : Good C) : rdC (turnC C) 6 = wOf 1 ((C.length : Int) + 1) := rdC_wr (a := 6) (by omega) (by have := h.six; simp; omega)
theorem kind_empty {a : Int} (h1 : 1 ≤ a) (h2 : a ≤ 65536) : wOf 1 a = a * 8 + 1 ∧ wKind (wOf 1 a) = 1 := by
  have e : wOf 1 a = a * 8 + 1 := if_pos (mayB_mk (by omega) (by omega) h1 h2)
  refine ⟨e, ?_⟩
  rw [e]
  unfold wKind wB
  have h3 : (a * 8 + 1) % 8 = 1 := by omega
  have h4 : (a * 8 + 1) / 8 = a := by omega
  rw [h3, h4, mayB_mk (by omega) (by omega) h1 h2, decide_eq_true (by omega : 0 ≤ a * 8 + 1)]
  rfl
/- A question whose slots are turned: the machine's steps. No program's text. -/

def rsA (k : Int) : RS := ⟨6, 1, k, 1, 1, 0, 0⟩
def wsA (lo hi : Int) (back : Bool) (most : Int) (values : Bool) : WS := ⟨1, lo, hi, back, values, most, 1, rsA (if back = true then hi else lo), some (PS.init 6), [(1, 1, 0)], 0, 0, [], []⟩
def wsB (lo hi : Int) (back : Bool) (most : Int) (values : Bool) (x : Int) : WS := ⟨6, lo, hi, back, values, most, 1, rsA (if back = true then hi else lo), some ⟨3, 6, 0, x⟩, [], wAt x, 0, [], [(6, x)]⟩
theorem slot6 : childAtI 1 1 0 = 6 := by decide
theorem route_a {R : Int → Int} (h : R 1 = 1) (k : Int) : (RS.init 1 k).step R = rsA k := by
  rw [RS.step0 rfl]
  show (if R 1 < 2 then _ else _) = _
  rw [if_pos (by rw [h]; decide)]
  show RS.mk 6 1 k (R 1) 1 0 0 = _
  rw [h]; rfl
theorem peek_b {R : Int → Int} {x : Int} (h : R 6 = x) (hk : wKind x = 1) : (PS.init 6).step R = ⟨3, 6, 0, x⟩ := by
  rw [PS.step0 rfl]
  show (if wKind (R 6) = 5 then _ else _) = _
  rw [h, if_neg (by omega)]
  show PS.mk 3 6 0 (R 6) = _
  rw [h]
theorem ws_a {R : Int → Int} (h : R 1 = 1) {lo hi most : Int} {back values : Bool} : (WS.init lo hi back most values).step R = wsA lo hi back most values := by
  have e : (WS.init lo hi back most values).route.step R = rsA (if back = true then hi else lo) := route_a h _
  rw [WS.step0e rfl (by rw [e]; rfl), e]
  rfl
theorem ws_b {R : Int → Int} {x : Int} (h : R 6 = x) (hk : wKind x = 1) {lo hi most : Int} {back values : Bool} : (wsA lo hi back most values).step R = wsB lo hi back most values x := by
  have e := peek_b h hk
  rw [WS.step1e (p := PS.init 6) rfl rfl (by rw [e]), e]
  unfold WS.meet
  rw [if_neg (by show ¬ wKind x = 2; omega), if_neg (by show ¬ wKind x = 3; omega), if_neg (by show ¬ wKind x = 4; omega)]
  cases back <;> rfl
theorem way_form (o : Op) : ∃ lo hi back most values, o.way = WS.init lo hi back most values := by
  unfold Op.way
  repeat' split
  all_goals exact ⟨_, _, _, _, _, rfl⟩
/-- Where the question stands; how many accesses it has yet. -/
inductive Ph (o : Op) (R : Int → Int) : QP → Nat → Prop
  | way (left : Nat) (h : 1 ≤ left) : Ph o R (.walk left o.way) (3 * left)
  | walk (left : Nat) (h : 1 ≤ left) (lo hi : Int) (back : Bool) (most : Int) (values : Bool) : Ph o R (.walk left (wsA lo hi back most values)) (3 * (left - 1) + 2)
  | look (left : Nat) (h : 1 ≤ left) (lo hi : Int) (back : Bool) (most : Int) (values : Bool) (x : Int) (hx : R 6 ≠ x) : Ph o R (.look left (wsB lo hi back most values x) (AS.init [(6, x)])) (3 * (left - 1) + 1)
theorem Ph.few {o : Op} {R : Int → Int} {q : QP} {n : Nat} (h : Ph o R q n) (h1 : R 1 = 1) (hk : n % 3 ≠ 0 → wKind (R 6) = 1) : q.Few R := by
  cases h with
  | way left h =>
    obtain ⟨lo, hi, back, most, values, e⟩ := way_form o
    have a := ws_a (R := R) h1 (lo := lo) (hi := hi) (back := back) (most := most) (values := values)
    refine ⟨?_, ?_, ?_, ?_, ?_⟩ <;> rw [e]
    · simp [WS.init]
    · simp [WS.init]
    · simp [WS.init]
    · rw [a]; simp [wsA]
    · rw [a]; simp [wsA]
  | walk left h lo hi back most values =>
    have a := ws_b (R := R) rfl (hk (by omega)) (lo := lo) (hi := hi) (back := back) (most := most) (values := values)
    refine ⟨?_, ?_, ?_, ?_, ?_⟩
    · simp [wsA]
    · simp [wsA]
    · simp [wsA]
    · rw [a]; simp [wsB]
    · rw [a]; simp [wsB]
  | look left h lo hi back most values x hx => simp [QP.Few, wsB]
theorem cast_pred {left : Nat} (h : 1 ≤ left) : ((left : Int) - 1) = ((left - 1 : Nat) : Int) := by omega
/-- One access: one less; none left: the end. R' is the memory behind it. -/
theorem Ph.step {o : Op} {b0 : Int} {R R' : Int → Int} {q : QP} {n : Nat} (h : Ph o R q n) (h1 : R 1 = 1) (hk : n % 3 ≠ 0 → wKind (R 6) = 1) (hR : n % 3 = 2 → R' 6 ≠ R 6) : (1 < n ∧ (q.step o b0 R).next ≠ 3 ∧ Ph o R' (q.step o b0 R) (n - 1)) ∨ (n = 1 ∧ q.step o b0 R = .done 0 (Res.err 9)) := by
  cases h with
  | way left h =>
    obtain ⟨lo, hi, back, most, values, e⟩ := way_form o
    refine .inl ⟨by omega, ?_⟩
    rw [QP.step_walk, e, ws_a h1, if_neg (show ¬ (wsA lo hi back most values).next = 6 from (by decide : ¬ (1 : Int) = 6))]
    refine ⟨(by decide : (1 : Int) ≠ 3), ?_⟩
    have := Ph.walk (o := o) (R := R') left h lo hi back most values
    rw [show 3 * left - 1 = 3 * (left - 1) + 2 by omega]
    exact this
  | walk left h lo hi back most values =>
    refine .inl ⟨by omega, ?_⟩
    rw [QP.step_walk, ws_b rfl (hk (by omega)), if_pos (show (wsB lo hi back most values (R 6)).next = 6 from rfl), if_neg (show ¬ (AS.init (wsB lo hi back most values (R 6)).spots).done = true from Bool.false_ne_true)]
    refine ⟨(by decide : (2 : Int) ≠ 3), ?_⟩
    exact Ph.look left h lo hi back most values _ (hR (by omega))
  | look left h lo hi back most values x hx =>
    have e := peek_b (R := R) rfl (hk (by omega))
    have ea : (AS.init [(6, x)]).step R = ⟨[(6, x)], some ⟨3, 6, 0, R 6⟩, false, true⟩ := by
      rw [AS.step_no (s := AS.init [(6, x)]) (p := PS.init 6) (x := (6, x)) (l := []) rfl rfl rfl (by rw [e]) (by rw [e]; exact hx), e]
      rfl
    rw [QP.step_look, ea, if_pos (show (AS.mk [(6, x)] (some ⟨3, 6, 0, R 6⟩) false true).done = true from rfl)]
    unfold QP.looked
    rw [if_neg (show ¬ (AS.mk [(6, x)] (some ⟨3, 6, 0, R 6⟩) false true).same = true from Bool.false_ne_true)]
    by_cases h0 : left = 1
    · subst h0
      refine .inr ⟨rfl, ?_⟩
      rw [if_pos (by decide)]
      rfl
    · refine .inl ⟨by omega, ?_⟩
      rw [if_neg (by omega), cast_pred h]
      refine ⟨(by decide : (1 : Int) ≠ 3), ?_⟩
      have := Ph.way (o := o) (R := R') (left - 1) (by omega)
      rw [show 3 * (left - 1) + 1 - 1 = 3 * (left - 1) by omega]
      exact this
def ssA (k : Int) : SS := ⟨1, k, 1, rsA k, some (PS.init 6), 0, 0, false⟩
theorem seek_a {o : Op} {b0 : Int} {R : Int → Int} (h : R 1 = 1) (k : Int) : (QP.seek (SS.init k)).step o b0 R = .seek (ssA k) := by
  have e : (SS.init k).route.step R = rsA k := route_a h k
  rw [QP.step_seek, SS.step0e rfl (by rw [e]; rfl), e]
  rfl
theorem seek_b {o : Op} {b0 : Int} {R : Int → Int} (hk : wKind (R 6) = 1) (k : Int) : (QP.seek (ssA k)).step o b0 R = .done b0 Res.none := by
  have e := peek_b (R := R) rfl hk
  have em : (ssA k).step R = ⟨5, k, 1, rsA k, some ⟨3, 6, 0, R 6⟩, wAt (R 6), 0, false⟩ := by
    rw [SS.step1e (p := PS.init 6) rfl rfl (by rw [e]), e]
    unfold SS.meet
    rw [if_neg (by show ¬ wKind (R 6) = 2; omega), if_neg (by show ¬ wKind (R 6) = 3; omega), if_neg (by show ¬ wKind (R 6) = 4; omega)]
    rfl
  rw [QP.step_seek, em]
  rfl
theorem Ph.going {o : Op} {R : Int → Int} {q : QP} {n : Nat} (h : Ph o R q n) : q.next ≠ 3 ∧ 1 ≤ n := by
  cases h with
  | way left h => exact ⟨(by decide : (1 : Int) ≠ 3), by omega⟩
  | walk left h lo hi back most values => exact ⟨(by decide : (1 : Int) ≠ 3), by omega⟩
  | look left h lo hi back most values x hx => exact ⟨(by decide : (2 : Int) ≠ 3), by omega⟩
/-- The question on its way to its end. -/
inductive Pl (o : Op) (b0 : Int) (R : Int → Int) : Bool → QP → Nat → Prop
  | ph (q : QP) (N : Nat) (h : Ph o R q N) : Pl o b0 R false q N
  | s0 : Pl o b0 R true (.seek (SS.init o.key)) 3
  | s1 : Pl o b0 R true (.seek (ssA o.key)) 1
def finQ (b0 : Int) (lk : Bool) : QP := if lk = true then .done b0 Res.none else .done 0 (Res.err 9)
theorem Pl.going {o : Op} {b0 : Int} {R : Int → Int} {lk : Bool} {q : QP} {n : Nat} (h : Pl o b0 R lk q n) : q.next ≠ 3 ∧ 1 ≤ n := by
  cases h with
  | ph q N h => exact h.going
  | s0 => exact ⟨(by decide : (0 : Int) ≠ 3), by decide⟩
  | s1 => exact ⟨(by decide : (0 : Int) ≠ 3), by decide⟩
theorem Pl.few {o : Op} {b0 : Int} {R : Int → Int} {lk : Bool} {q : QP} {n : Nat} (h : Pl o b0 R lk q n) (h1 : R 1 = 1) (hk : n % 3 ≠ 0 → wKind (R 6) = 1) : q.Few R := by
  cases h with
  | ph q N h => exact h.few h1 hk
  | s0 => exact trivial
  | s1 => exact trivial
theorem Pl.step {o : Op} {b0 : Int} {R R' : Int → Int} {lk : Bool} {q : QP} {n : Nat} (h : Pl o b0 R lk q n) (h1 : R 1 = 1) (hk : n % 3 ≠ 0 → wKind (R 6) = 1) (hR : n % 3 = 2 → R' 6 ≠ R 6) : (∃ m, 1 < n ∧ (q.step o b0 R).next ≠ 3 ∧ Pl o b0 R' lk (q.step o b0 R) m ∧ m < n ∧ (lk = false → m + 1 = n)) ∨ (n = 1 ∧ q.step o b0 R = finQ b0 lk) := by
  cases h with
  | ph q N h =>
    rcases h.step (b0 := b0) h1 hk hR with ⟨a, b, c⟩ | ⟨a, b⟩
    · exact .inl ⟨_, a, b, .ph _ _ c, by omega, fun _ => by omega⟩
    · exact .inr ⟨a, b⟩
  | s0 =>
    rw [seek_a h1]
    exact .inl ⟨1, by decide, (by decide : (0 : Int) ≠ 3), .s1, by decide, fun e => by cases e⟩
  | s1 =>
    rw [seek_b (hk (by decide))]
    exact .inr ⟨rfl, rfl⟩
theorem Pl.init {o : Op} {b0 : Nat} {R : Int → Int} (h1 : 1 ≤ b0) (h2 : b0 ≤ 64) (k4 : 4 ≤ o.kind) (k10 : o.kind ≤ 10) : Pl o b0 R (decide (o.kind = 4)) (QP.init o b0) (if o.kind = 4 then 3 else 3 * b0) := by
  unfold QP.init
  rw [if_neg (by omega), if_neg (by omega)]
  by_cases k : o.kind = 4
  · rw [if_pos k, if_pos k, decide_eq_true k]
    exact .s0
  · rw [if_neg k, if_neg k, decide_eq_false k]
    exact .ph _ _ (Ph.way b0 h1)
/- ordinateref1.Put: its list is new. Printed from XPairs. -/

def SomePairsO (L : List (Int × Int)) (w : World) (e : Ending) (w' : World) : Prop := ∃ A c, e = .returned (.slice A L.length c) ∧ L.length ≤ c ∧ PairsAt w' w'.heap.size A L ∧ Below w.heap.size w w' ∧ ∀ ad, A = some ad → w.heap.size ≤ ad.block
theorem SomePairsO.of_own {L : List (Int × Int)} {w w' : World} {et : TypeId} {v : Value} {n : Nat} (h : w'.ownsRow w.heap.size et 2 v n (cellsP L)) (hb : Below w.heap.size w w') : SomePairsO L w (.returned v) w' := by
  have hn : n = L.length := by have := h.1; rw [cellsP_len] at this; omega
  subst hn
  rcases h.2 with ⟨rfl, h0⟩ | ⟨g, cap, cur, rfl, hg, _, hle, _⟩
  · have : L = [] := List.eq_nil_of_length_eq_zero h0
    subst this
    exact ⟨none, 0, rfl, Nat.le_refl _, Reads.none_, hb, fun ad h => by cases h⟩
  · exact ⟨_, cap, rfl, hle, Reads.of_own h, hb, fun ad e => by injection e with e; subst e; exact hg⟩
section
attribute [local go_sem] run_storeCells_nil Sem.run_pure Array.toList_empty
set_option maxHeartbeats 4000000 in
set_option maxRecDepth 100000 in
theorem putO_any (A : Option Addr) (c : Nat) (L : List (Int × Int)) (k v : Int) (w : World) (hq : PairsAt w w.heap.size A L) (hl : L.length ≤ 80) (hc : L.length ≤ c) :
    Calls Tryz.prog 87 #[.slice A L.length c, .int .i64 k, .int .i64 v] w (SomePairsO (putP L k v) w) := by
  obtain ⟨i0, hi0, hz0, hz1, hz2⟩ := info_parts info_pair
  have hn := placeP_le L k
  have e1 : ((placeP L k : Int) + 1).toNat = placeP L k + 1 := by omega
  rcases A with _ | ad
  · have hL : L = [] := by
      rcases Nat.eq_zero_or_pos L.length with g | g
      · exact List.eq_nil_of_length_eq_zero g
      · obtain ⟨ad, h, _⟩ := hq.2 g
        cases h
    subst hL
    have ep : placeP [] k = 0 := rfl
    have HE := Lib.hid (show putP [] k v = [(k, v)] from rfl)
    clear e1
    go_enter Tryz.func87, Tryz.ntmps87
    go_wp2_with (fail)
    refine (place_any none c [] k w hq hl).mono ?_
    rintro e V1 ⟨rfl, hd⟩
    have hge := (drawn_facts hd).2
    have hB1 := (drawn_facts hd).1
    clear hq hd
    rw [ep]
    have hc0 : 0 ≤ c := hc
    go_wp2_with (first | (at_builtin; refine wpList_append_any _ rfl _ _ 40 rfl w.heap.size 52 i0 (.agg #[.int .i64 0, .int .i64 0]) 2 16 Tryz.underlying40 hi0 hz0 hz1 hz2 rfl (by decide) _ 0 [] rfl (World.ownsRow_lit V1 #[] 0 (by omega) (by simp [maxLen]) rfl) w.heap.size none 0 _ [] rfl Reads.none_ (by simp) (by simp only [maxLen]; omega) (by omega) (by simp; omega) ?_; intro v1 W1 hown1 hg1 hb1; clear hb1; simp only [Nat.zero_add, List.nil_append] at hown1; have hB2 : Below w.heap.size w W1 := (hB1.alloc (by omega) _).grown hg1 (by simp; omega) (fun g hg => by injection hg with hg; subst hg; exact hge); clear hg1; have hz1' := hB2.size) | (at_builtin; refine wpList_append_any _ rfl _ _ 40 rfl w.heap.size 52 i0 (.agg #[.int .i64 0, .int .i64 0]) 2 16 Tryz.underlying40 hi0 hz0 hz1 hz2 rfl (by decide) v1 0 [] rfl (hown1.alloc _) (W1.heap.size + 1) (some ⟨W1.heap.size, 0, none⟩) 1 1 [.int .i64 k, .int .i64 v] rfl (reads_pair _ _ _ _) (by simp [Value.oneCell']) (by simp only [maxLen]; omega) (by omega) (by simp; omega) ?_; intro v2 W2 hown2 hg2 hb2; clear hb2; simp only [Nat.zero_add, List.nil_append] at hown2; have hB3 : Below w.heap.size w W2 := (hB2.alloc hz1' _).grown hg2 (by simp; omega) (fun g hg => (hown1.lt g hg).1); clear hg2; have hz2' := hB3.size) | (at_builtin; refine wpList_append_any _ rfl _ _ 40 rfl w.heap.size 52 i0 (.agg #[.int .i64 0, .int .i64 0]) 2 16 Tryz.underlying40 hi0 hz0 hz1 hz2 rfl (by decide) v2 1 [.int .i64 k, .int .i64 v] rfl hown2 w.heap.size none 0 _ [] rfl Reads.none_ (by simp) (by simp only [maxLen]; omega) (by omega) (by omega) ?_; intro v3 W3 hown3 hg3 hb3; clear hb3; have hB4 : Below w.heap.size w W3 := hB3.grown hg3 (by omega) (fun g hg => (hown2.lt g hg).1); clear hg3))
    all_goals go_ret
    all_goals exact SomePairsO.of_own (L := putP [] k v) (by rw [HE.out]; exact hown3) hB4
  go_enter Tryz.func87, Tryz.ntmps87
  go_wp2_with (fail)
  refine (place_any (some ad) c L k w hq hl).mono ?_
  rintro e V1 ⟨rfl, hd⟩
  have hge := (drawn_facts hd).2
  have hB1 := (drawn_facts hd).1
  have HQ := Lib.hid hq
  clear hq hd
  by_cases hlt : placeP L k < L.length
  · by_cases hk : pkey L (placeP L k) = k
    · have E := Lib.hid (put_cells (L := L) (k := k) (v := v) (n := placeP L k + 1) (if_pos ⟨hlt, hk⟩))
      have hk' : (pkey L (placeP L k) == k) = true := by simpa using hk
      by_cases hcn : c = placeP L k + 1
      · go_wp2_with (first | (at_builtin; refine wpList_append_any _ rfl _ _ 40 rfl w.heap.size 52 i0 (.agg #[.int .i64 0, .int .i64 0]) 2 16 Tryz.underlying40 hi0 hz0 hz1 hz2 rfl (by decide) _ 0 [] rfl (World.ownsRow_lit V1 #[] 0 (by omega) (by simp [maxLen]) rfl) w.heap.size _ _ _ (cellsP (L.take (placeP L k))) rfl ((PairsAt.take (Reads.below HQ.out hB1) hn).alloc (by omega) _) cellsP_one (by simp only [maxLen]; omega) (by omega) (by simp; omega) ?_; intro v1 W1 hown1 hg1 hb1; clear hb1; simp only [Nat.zero_add, List.nil_append] at hown1; have hB2 : Below w.heap.size w W1 := (hB1.alloc (by omega) _).grown hg1 (by simp; omega) (fun g hg => by injection hg with hg; subst hg; exact hge); clear hg1; have hz1' := hB2.size) | (at_builtin; refine wpList_append_any _ rfl _ _ 40 rfl w.heap.size 52 i0 (.agg #[.int .i64 0, .int .i64 0]) 2 16 Tryz.underlying40 hi0 hz0 hz1 hz2 rfl (by decide) v1 (placeP L k) (cellsP (L.take (placeP L k))) rfl (hown1.alloc _) (W1.heap.size + 1) (some ⟨W1.heap.size, 0, none⟩) 1 1 [.int .i64 k, .int .i64 v] rfl (reads_pair _ _ _ _) (by simp [Value.oneCell']) (by simp only [maxLen]; omega) (by omega) (by simp; omega) ?_; intro v2 W2 hown2 hg2 hb2; clear hb2; have hB3 : Below w.heap.size w W2 := (hB2.alloc hz1' _).grown hg2 (by simp; omega) (fun g hg => (hown1.lt g hg).1); clear hg2; have hz2' := hB3.size; have hcell := PairsAt.keyAt (Reads.below HQ.out hB3) hlt) | (at_builtin; have HR3 : Reads W2 w.heap.size 2 (some ad) (L.length - (placeP L k + 1)) (cellsP (L.drop (placeP L k + 1))) := PairsAt.cut0 (Reads.below HQ.out hB3) (by omega) (by omega); refine wpList_append_any _ rfl _ _ 40 rfl w.heap.size 52 i0 (.agg #[.int .i64 0, .int .i64 0]) 2 16 Tryz.underlying40 hi0 hz0 hz1 hz2 rfl (by decide) v2 (placeP L k + 1) (cellsP (L.take (placeP L k)) ++ [.int .i64 k, .int .i64 v]) rfl hown2 w.heap.size (some ad) (L.length - (placeP L k + 1)) _ (cellsP (L.drop (placeP L k + 1))) rfl HR3 cellsP_one (by simp only [maxLen]; omega) (by omega) (by omega) ?_; intro v3 W3 hown3 hg3 hb3; clear hb3; have hB4 : Below w.heap.size w W3 := hB3.grown hg3 (by omega) (fun g hg => (hown2.lt g hg).1); clear hg3))
        go_ret
        rw [E.out] at hown3
        exact SomePairsO.of_own hown3 hB4
      · go_wp2_with (first | (at_builtin; refine wpList_append_any _ rfl _ _ 40 rfl w.heap.size 52 i0 (.agg #[.int .i64 0, .int .i64 0]) 2 16 Tryz.underlying40 hi0 hz0 hz1 hz2 rfl (by decide) _ 0 [] rfl (World.ownsRow_lit V1 #[] 0 (by omega) (by simp [maxLen]) rfl) w.heap.size _ _ _ (cellsP (L.take (placeP L k))) rfl ((PairsAt.take (Reads.below HQ.out hB1) hn).alloc (by omega) _) cellsP_one (by simp only [maxLen]; omega) (by omega) (by simp; omega) ?_; intro v1 W1 hown1 hg1 hb1; clear hb1; simp only [Nat.zero_add, List.nil_append] at hown1; have hB2 : Below w.heap.size w W1 := (hB1.alloc (by omega) _).grown hg1 (by simp; omega) (fun g hg => by injection hg with hg; subst hg; exact hge); clear hg1; have hz1' := hB2.size) | (at_builtin; refine wpList_append_any _ rfl _ _ 40 rfl w.heap.size 52 i0 (.agg #[.int .i64 0, .int .i64 0]) 2 16 Tryz.underlying40 hi0 hz0 hz1 hz2 rfl (by decide) v1 (placeP L k) (cellsP (L.take (placeP L k))) rfl (hown1.alloc _) (W1.heap.size + 1) (some ⟨W1.heap.size, 0, none⟩) 1 1 [.int .i64 k, .int .i64 v] rfl (reads_pair _ _ _ _) (by simp [Value.oneCell']) (by simp only [maxLen]; omega) (by omega) (by simp; omega) ?_; intro v2 W2 hown2 hg2 hb2; clear hb2; have hB3 : Below w.heap.size w W2 := (hB2.alloc hz1' _).grown hg2 (by simp; omega) (fun g hg => (hown1.lt g hg).1); clear hg2; have hz2' := hB3.size; have hcell := PairsAt.keyAt (Reads.below HQ.out hB3) hlt) | (at_builtin; have HR3 : Reads W2 w.heap.size 2 (some (ad.add ((placeP L k + 1) * 2))) (L.length - (placeP L k + 1)) (cellsP (L.drop (placeP L k + 1))) := PairsAt.cut (Reads.below HQ.out hB3) (by omega); refine wpList_append_any _ rfl _ _ 40 rfl w.heap.size 52 i0 (.agg #[.int .i64 0, .int .i64 0]) 2 16 Tryz.underlying40 hi0 hz0 hz1 hz2 rfl (by decide) v2 (placeP L k + 1) (cellsP (L.take (placeP L k)) ++ [.int .i64 k, .int .i64 v]) rfl hown2 w.heap.size (some (ad.add ((placeP L k + 1) * 2))) (L.length - (placeP L k + 1)) _ (cellsP (L.drop (placeP L k + 1))) rfl HR3 cellsP_one (by simp only [maxLen]; omega) (by omega) (by omega) ?_; intro v3 W3 hown3 hg3 hb3; clear hb3; have hB4 : Below w.heap.size w W3 := hB3.grown hg3 (by omega) (fun g hg => (hown2.lt g hg).1); clear hg3))
        go_ret
        rw [E.out] at hown3
        exact SomePairsO.of_own hown3 hB4
    · have E := Lib.hid (put_cells (L := L) (k := k) (v := v) (n := placeP L k) (if_neg fun h => hk h.2))
      have hk' : (pkey L (placeP L k) == k) = false := by simpa using hk
      have hcn : ¬ c = placeP L k := by omega
      · go_wp2_with (first | (at_builtin; refine wpList_append_any _ rfl _ _ 40 rfl w.heap.size 52 i0 (.agg #[.int .i64 0, .int .i64 0]) 2 16 Tryz.underlying40 hi0 hz0 hz1 hz2 rfl (by decide) _ 0 [] rfl (World.ownsRow_lit V1 #[] 0 (by omega) (by simp [maxLen]) rfl) w.heap.size _ _ _ (cellsP (L.take (placeP L k))) rfl ((PairsAt.take (Reads.below HQ.out hB1) hn).alloc (by omega) _) cellsP_one (by simp only [maxLen]; omega) (by omega) (by simp; omega) ?_; intro v1 W1 hown1 hg1 hb1; clear hb1; simp only [Nat.zero_add, List.nil_append] at hown1; have hB2 : Below w.heap.size w W1 := (hB1.alloc (by omega) _).grown hg1 (by simp; omega) (fun g hg => by injection hg with hg; subst hg; exact hge); clear hg1; have hz1' := hB2.size) | (at_builtin; refine wpList_append_any _ rfl _ _ 40 rfl w.heap.size 52 i0 (.agg #[.int .i64 0, .int .i64 0]) 2 16 Tryz.underlying40 hi0 hz0 hz1 hz2 rfl (by decide) v1 (placeP L k) (cellsP (L.take (placeP L k))) rfl (hown1.alloc _) (W1.heap.size + 1) (some ⟨W1.heap.size, 0, none⟩) 1 1 [.int .i64 k, .int .i64 v] rfl (reads_pair _ _ _ _) (by simp [Value.oneCell']) (by simp only [maxLen]; omega) (by omega) (by simp; omega) ?_; intro v2 W2 hown2 hg2 hb2; clear hb2; have hB3 : Below w.heap.size w W2 := (hB2.alloc hz1' _).grown hg2 (by simp; omega) (fun g hg => (hown1.lt g hg).1); clear hg2; have hz2' := hB3.size; have hcell := PairsAt.keyAt (Reads.below HQ.out hB3) hlt) | (at_builtin; have HR3 : Reads W2 w.heap.size 2 (some (ad.add ((placeP L k) * 2))) (L.length - (placeP L k)) (cellsP (L.drop (placeP L k))) := PairsAt.cut (Reads.below HQ.out hB3) (by omega); refine wpList_append_any _ rfl _ _ 40 rfl w.heap.size 52 i0 (.agg #[.int .i64 0, .int .i64 0]) 2 16 Tryz.underlying40 hi0 hz0 hz1 hz2 rfl (by decide) v2 (placeP L k + 1) (cellsP (L.take (placeP L k)) ++ [.int .i64 k, .int .i64 v]) rfl hown2 w.heap.size (some (ad.add ((placeP L k) * 2))) (L.length - (placeP L k)) _ (cellsP (L.drop (placeP L k))) rfl HR3 cellsP_one (by simp only [maxLen]; omega) (by omega) (by omega) ?_; intro v3 W3 hown3 hg3 hb3; clear hb3; have hB4 : Below w.heap.size w W3 := hB3.grown hg3 (by omega) (fun g hg => (hown2.lt g hg).1); clear hg3))
        go_ret
        rw [E.out] at hown3
        exact SomePairsO.of_own hown3 hB4
  · have E := Lib.hid (put_cells (L := L) (k := k) (v := v) (n := placeP L k) (if_neg fun h => hlt h.1))
    by_cases hcn : c = placeP L k
    · go_wp2_with (first | (at_builtin; refine wpList_append_any _ rfl _ _ 40 rfl w.heap.size 52 i0 (.agg #[.int .i64 0, .int .i64 0]) 2 16 Tryz.underlying40 hi0 hz0 hz1 hz2 rfl (by decide) _ 0 [] rfl (World.ownsRow_lit V1 #[] 0 (by omega) (by simp [maxLen]) rfl) w.heap.size _ _ _ (cellsP (L.take (placeP L k))) rfl ((PairsAt.take (Reads.below HQ.out hB1) hn).alloc (by omega) _) cellsP_one (by simp only [maxLen]; omega) (by omega) (by simp; omega) ?_; intro v1 W1 hown1 hg1 hb1; clear hb1; simp only [Nat.zero_add, List.nil_append] at hown1; have hB2 : Below w.heap.size w W1 := (hB1.alloc (by omega) _).grown hg1 (by simp; omega) (fun g hg => by injection hg with hg; subst hg; exact hge); clear hg1; have hz1' := hB2.size) | (at_builtin; refine wpList_append_any _ rfl _ _ 40 rfl w.heap.size 52 i0 (.agg #[.int .i64 0, .int .i64 0]) 2 16 Tryz.underlying40 hi0 hz0 hz1 hz2 rfl (by decide) v1 (placeP L k) (cellsP (L.take (placeP L k))) rfl (hown1.alloc _) (W1.heap.size + 1) (some ⟨W1.heap.size, 0, none⟩) 1 1 [.int .i64 k, .int .i64 v] rfl (reads_pair _ _ _ _) (by simp [Value.oneCell']) (by simp only [maxLen]; omega) (by omega) (by simp; omega) ?_; intro v2 W2 hown2 hg2 hb2; clear hb2; have hB3 : Below w.heap.size w W2 := (hB2.alloc hz1' _).grown hg2 (by simp; omega) (fun g hg => (hown1.lt g hg).1); clear hg2; have hz2' := hB3.size) | (at_builtin; have HR3 : Reads W2 w.heap.size 2 (some ad) (L.length - (placeP L k)) (cellsP (L.drop (placeP L k))) := PairsAt.cut0 (Reads.below HQ.out hB3) (by omega) (by omega); refine wpList_append_any _ rfl _ _ 40 rfl w.heap.size 52 i0 (.agg #[.int .i64 0, .int .i64 0]) 2 16 Tryz.underlying40 hi0 hz0 hz1 hz2 rfl (by decide) v2 (placeP L k + 1) (cellsP (L.take (placeP L k)) ++ [.int .i64 k, .int .i64 v]) rfl hown2 w.heap.size (some ad) (L.length - (placeP L k)) _ (cellsP (L.drop (placeP L k))) rfl HR3 cellsP_one (by simp only [maxLen]; omega) (by omega) (by omega) ?_; intro v3 W3 hown3 hg3 hb3; clear hb3; have hB4 : Below w.heap.size w W3 := hB3.grown hg3 (by omega) (fun g hg => (hown2.lt g hg).1); clear hg3))
      go_ret
      rw [E.out] at hown3
      exact SomePairsO.of_own hown3 hB4
    · go_wp2_with (first | (at_builtin; refine wpList_append_any _ rfl _ _ 40 rfl w.heap.size 52 i0 (.agg #[.int .i64 0, .int .i64 0]) 2 16 Tryz.underlying40 hi0 hz0 hz1 hz2 rfl (by decide) _ 0 [] rfl (World.ownsRow_lit V1 #[] 0 (by omega) (by simp [maxLen]) rfl) w.heap.size _ _ _ (cellsP (L.take (placeP L k))) rfl ((PairsAt.take (Reads.below HQ.out hB1) hn).alloc (by omega) _) cellsP_one (by simp only [maxLen]; omega) (by omega) (by simp; omega) ?_; intro v1 W1 hown1 hg1 hb1; clear hb1; simp only [Nat.zero_add, List.nil_append] at hown1; have hB2 : Below w.heap.size w W1 := (hB1.alloc (by omega) _).grown hg1 (by simp; omega) (fun g hg => by injection hg with hg; subst hg; exact hge); clear hg1; have hz1' := hB2.size) | (at_builtin; refine wpList_append_any _ rfl _ _ 40 rfl w.heap.size 52 i0 (.agg #[.int .i64 0, .int .i64 0]) 2 16 Tryz.underlying40 hi0 hz0 hz1 hz2 rfl (by decide) v1 (placeP L k) (cellsP (L.take (placeP L k))) rfl (hown1.alloc _) (W1.heap.size + 1) (some ⟨W1.heap.size, 0, none⟩) 1 1 [.int .i64 k, .int .i64 v] rfl (reads_pair _ _ _ _) (by simp [Value.oneCell']) (by simp only [maxLen]; omega) (by omega) (by simp; omega) ?_; intro v2 W2 hown2 hg2 hb2; clear hb2; have hB3 : Below w.heap.size w W2 := (hB2.alloc hz1' _).grown hg2 (by simp; omega) (fun g hg => (hown1.lt g hg).1); clear hg2; have hz2' := hB3.size) | (at_builtin; have HR3 : Reads W2 w.heap.size 2 (some (ad.add ((placeP L k) * 2))) (L.length - (placeP L k)) (cellsP (L.drop (placeP L k))) := PairsAt.cut (Reads.below HQ.out hB3) (by omega); refine wpList_append_any _ rfl _ _ 40 rfl w.heap.size 52 i0 (.agg #[.int .i64 0, .int .i64 0]) 2 16 Tryz.underlying40 hi0 hz0 hz1 hz2 rfl (by decide) v2 (placeP L k + 1) (cellsP (L.take (placeP L k)) ++ [.int .i64 k, .int .i64 v]) rfl hown2 w.heap.size (some (ad.add ((placeP L k) * 2))) (L.length - (placeP L k)) _ (cellsP (L.drop (placeP L k))) rfl HR3 cellsP_one (by simp only [maxLen]; omega) (by omega) (by omega) ?_; intro v3 W3 hown3 hg3 hb3; clear hb3; have hB4 : Below w.heap.size w W3 := hB3.grown hg3 (by omega) (fun g hg => (hown2.lt g hg).1); clear hg3))
      go_ret
      rw [E.out] at hown3
      exact SomePairsO.of_own hown3 hB4
end
/- ordinatehand.Pairs: ascending pairs of raw numbers, in a row of its own. -/

theorem putR_pair : ∀ (L : List (Int × Int)) (k v : Int) (x : Int × Int), x ∈ putR L k v → x = (k, v) ∨ x ∈ L
  | [], k, v, x, h => by simp [putR] at h; exact .inl h
  | p :: L, k, v, x, h => by
    simp only [putR] at h
    split at h
    · rcases List.mem_cons.1 h with h | h
      · exact .inr (by simp [h])
      · rcases putR_pair L k v x h with h | h
        · exact .inl h
        · exact .inr (List.mem_cons_of_mem _ h)
    · split at h
      · rcases List.mem_cons.1 h with h | h
        · exact .inl h
        · exact .inr (List.mem_cons_of_mem _ h)
      · rcases List.mem_cons.1 h with h | h
        · exact .inl h
        · exact .inr h
def hpTo (l : List Int) : Nat → List (Int × Int)
  | 0 => []
  | k + 1 => putP (hpTo l k) (keyAt l k % 97 - 40) k
def hpL (l : List Int) : List (Int × Int) := hpTo l (min l.length 60)
theorem hpTo_len (l : List Int) : ∀ k, (hpTo l k).length ≤ k
  | 0 => Nat.le_refl _
  | k + 1 => by
    have := hpTo_len l k
    rw [hpTo, putP_eq]
    have := putR_len (hpTo l k) (keyAt l k % 97 - 40) k
    omega
theorem hpTo_asc (l : List Int) : ∀ k, (keysP (hpTo l k)).Pairwise (· < ·)
  | 0 => by simp [hpTo, keysP]
  | k + 1 => by rw [hpTo, putP_eq]; exact putR_asc _ _ _ (hpTo_asc l k)
theorem hpTo_bd (l : List Int) : ∀ k, k ≤ 60 → PB (hpTo l k)
  | 0, _ => fun p hp => by cases hp
  | k + 1, h => fun p hp => by
    rw [hpTo, putP_eq] at hp
    rcases putR_pair _ _ _ _ hp with rfl | hp
    · have := Int.emod_nonneg (keyAt l k) (show (97 : Int) ≠ 0 by decide)
      have := Int.emod_lt_of_pos (keyAt l k) (show (0 : Int) < 97 by decide)
      unfold bdI
      simp only
      omega
    · exact hpTo_bd l k (by omega) p hp
theorem hpL_len (l : List Int) : (hpL l).length ≤ 60 := by
  have := hpTo_len l (min l.length 60); unfold hpL; omega
theorem hpL_bd (l : List Int) : PB (hpL l) := hpTo_bd l _ (by omega)
theorem hpL_asc (l : List Int) : AscP (hpL l) := fun i hi => by
  have h := hpTo_asc l (min l.length 60)
  have := List.pairwise_iff_getElem.1 h i (i + 1) (by rw [keysP_len]; show i < (hpL l).length; omega) (by rw [keysP_len]; exact hi) (by omega)
  rw [← keysP_at (hpL l) i (by omega), ← keysP_at (hpL l) (i + 1) hi]
  unfold keyAt
  rw [List.getD_eq_getElem?_getD, List.getD_eq_getElem?_getD, List.getElem?_eq_getElem (by rw [keysP_len]; omega), List.getElem?_eq_getElem (by rw [keysP_len]; exact hi)]
  exact this
def HpRel (l : List Int) (w : World) (v i : Value) (wr : World) : Prop := ∃ (k : Nat) (A : Option Addr) (c : Nat), k ≤ l.length ∧ k ≤ 60 ∧ v = .slice A (hpTo l k).length c ∧ i = .int .i64 k ∧ (hpTo l k).length ≤ c ∧ PairsAt wr wr.heap.size A (hpTo l k) ∧ Below w.heap.size w wr ∧ ∀ ad, A = some ad → w.heap.size ≤ ad.block
set_option maxHeartbeats 4000000 in
set_option maxRecDepth 100000 in
theorem handP_any (A : Option Addr) (c N : Nat) (l : List Int) (w : World) (hN : N = l.length) (hq : IntsAt w w.heap.size A l) (hl : l.length ≤ 140737488351232) (hw : ∀ i, i < l.length → -9223372036854775808 ≤ keyAt l i ∧ keyAt l i ≤ 9223372036854775807) :
    Calls Tryz.prog 170 #[.slice A N c] w (SomePairsO (hpL l) w) := by
  subst hN
  have HQ := Lib.hid hq
  have HW := Lib.hid hw
  clear hq hw
  go_enter Tryz.func170, Tryz.ntmps170
  go_wp2_with (fail)
  go_loopw [3, 4] (fun v i wr => HpRel l w v i wr) (fun _ i _ => l.length - (intOf i).toNat)
  case atStart => unfold HpRel; exact ⟨0, none, 0, by omega, by omega, rfl, rfl, Nat.le_refl _, Reads.none_, Below.refl _ _, fun ad h => by cases h⟩
  case round =>
    obtain ⟨k, A1, c1, k1, k2, rfl, rfl, hc1, hp, hB, hf⟩ := hrel
    have hlen := hpTo_len l k
    have HP := Lib.hid hp
    have HF := Lib.hid hf
    clear hp hf
    by_cases hlt : k < l.length ∧ k < 60
    · obtain ⟨hlt1, hlt2⟩ := hlt
      obtain ⟨ad, rfl, hbl, hc⟩ := (HQ.out.below hB).cells (by omega)
      have hcell := hc k hlt1
      have HWk := Lib.hid (HW.out k hlt1)
      have e := Lib.hid (show hpTo l (k + 1) = putP (hpTo l k) (keyAt l k % 97 - 40) k from rfl)
      have HL := Lib.hid hlen
      clear hc hlen
      generalize keyAt l k = x at hcell HWk e
      go_wp2_with (fail)
      with_reducible refine (cut_any x 97 _ HWk.out.1 HWk.out.2 (by decide) (by decide)).mono ?_
      rintro e w1 ⟨rfl, rfl⟩
      have hx := cut_bd x 97 (by decide)
      generalize x % 97 = y at e hx ⊢
      go_wp2_with (fail)
      with_reducible refine (putO_any A1 c1 (hpTo l k) (y - 40) k _ HP.out (by have := HL.out; omega) hc1).mono ?_
      rintro e V2 ⟨A2, c2, rfl, hc2, hp2, hb, hf2⟩
      rw [← e.out] at hc2 hp2 ⊢
      have hB2 := hB.trans (hb.mono hB.size)
      have HP2 := Lib.hid hp2
      have hz := hB.size
      have HF2 : Hid (∀ ad, A2 = some ad → w.heap.size ≤ ad.block) := Lib.hid (fun a ha => Nat.le_trans hz (hf2 a ha))
      clear hp2 hf2 hb hcell hB hz
      go_wp2_with (fail)
      go_roundw
      case rel => unfold HpRel; exact ⟨k + 1, A2, c2, by omega, by omega, rfl, by go_num, hc2, HP2.out, hB2, HF2.out⟩
      case measure => simp [intOf]; omega
    · have hk : hpL l = hpTo l k := by unfold hpL; congr 1; omega
      have HK := Lib.hid hk
      have HB := Lib.hid hB
      clear hk hB hlen
      by_cases hlt1 : k < l.length
      · have hlt3 : ¬ (k : Int) < 60 := by omega
        clear hlt
        go_wp2_with (fail)
        go_ret
        unfold SomePairsO
        rw [HK.out]
        exact ⟨A1, c1, rfl, hc1, HP.out, HB.out, HF.out⟩
      · clear hlt
        go_wp2_with (fail)
        go_ret
        unfold SomePairsO
        rw [HK.out]
        exact ⟨A1, c1, rfl, hc1, HP.out, HB.out, HF.out⟩
/- A question whose slots are turned: chapter 25's examples; what keeps the frame apart from the memory. -/

theorem LeftP.within {F : Nat → Prop} {A : Option Addr} {c : Nat} {L : List (Int × Int)} {w : World} (h : LeftP F A c L w) : LeftP (fun x => F x ∧ x < w.heap.size) A c L w := by
  obtain ⟨h1, v0, L0, k, h2, h3, h4⟩ := h
  exact ⟨h1, v0, L0, k, h2, fun g hg => ⟨h3 g hg, own_lt h2 g hg⟩, h4⟩
theorem AgainP.within {F : Nat → Prop} {b : Nat} {s : AS} {w : World} (h : AgainP F b s w) : AgainP (fun x => F x ∧ x < w.heap.size) b s w := by
  obtain ⟨A, c, pv, h⟩ := h
  refine ⟨A, c, pv, ⟨h.fb, h.blk.lt⟩, h.blk, h.left.within, ?_⟩
  have hp := h.peek
  generalize s.peek = o at hp
  cases o with
  | none => exact hp
  | some p => obtain ⟨pb, h1, h2, h3⟩ := hp; exact ⟨pb, h1, ⟨h2, h3.blk.lt⟩, h3⟩
theorem QueryP.within {F : Nat → Prop} {b : Nat} {o : Op} {b0 : Int} {q : QP} {w : World} (h : QueryP F b o b0 q w) : QueryP (fun x => F x ∧ x < w.heap.size) b o b0 q w := by
  obtain ⟨sv, wv, av, r, lv, h⟩ := h
  have hlt := h.blk.lt
  obtain ⟨fb, p1, p2, p3, p4, h⟩ := h
  refine ⟨sv, wv, av, r, lv, ⟨fb, hlt⟩, p1, p2, p3, p4, ?_⟩
  cases q with
  | seek s => obtain ⟨h1, sb, Fs, h2, h3, h4⟩ := h; exact ⟨h1, sb, _, h2, h3.within, fun x hx => ⟨⟨(h4 x hx.1).1, hx.2⟩, (h4 x hx.1).2⟩⟩
  | walk l s => obtain ⟨h1, sb, Fs, h2, h3, h4⟩ := h; exact ⟨h1, sb, _, h2, h3.within, fun x hx => ⟨⟨(h4 x hx.1).1, hx.2⟩, (h4 x hx.1).2⟩⟩
  | look l s a => obtain ⟨h1, wb, Fw, ab, Fa, h2, h3, h4, h5, h6, h7⟩ := h; exact ⟨h1, wb, _, ab, _, h2, h3.within, fun x hx => ⟨⟨(h4 x hx.1).1, hx.2⟩, (h4 x hx.1).2.1, fun e => (h4 x hx.1).2.2 e.1⟩, h5, h6.within, fun x hx => ⟨⟨(h7 x hx.1).1, hx.2⟩, (h7 x hx.1).2⟩⟩
  | done l r' => exact ⟨h.1, h.2.within⟩
def QP.it (o : Op) (b0 : Int) (R : Int → Int) (q : QP) : Nat → QP
  | 0 => q
  | t + 1 => (QP.it o b0 R q t).step o b0 R
theorem QP.Inv.it {o : Op} (h : o.Bd) {b0 : Int} {R : Int → Int} (hR : ∀ a, -9223372036854775808 ≤ R a ∧ R a ≤ 9223372036854775807) {q : QP} (hq : q.Inv) : ∀ t, (QP.it o b0 R q t).Inv
  | 0 => hq
  | t + 1 => QP.Inv.step h hR (QP.Inv.it h hR hq t)
def ex25 (t : Nat) : QP := QP.it ⟨9, 0, 9⟩ 1 (rdC beginL) (QP.init ⟨9, 0, 9⟩ 1) t
theorem ex25_next : (ex25 0).next = 1 ∧ (ex25 1).next = 1 ∧ (ex25 2).next = 2 := by decide +kernel
theorem ex25_done : ex25 3 = .done 0 ⟨0, false, 0, 0, 0, []⟩ := by kernel_rfl
def fewB (R : Int → Int) : QP → Bool
  | .walk _ s => decide (s.levels.length < 1000000) && (decide (s.pairs.length ≤ 1000000) && (decide (s.spots.length ≤ 1000000) && (decide ((s.step R).pairs.length ≤ 1000000) && decide ((s.step R).spots.length ≤ 1000000))))
  | .look _ s _ => decide (s.pairs.length ≤ 1000000)
  | _ => true
theorem few_of {R : Int → Int} {q : QP} (h : fewB R q = true) : q.Few R := by
  cases q with
  | seek s => exact trivial
  | walk l s =>
    unfold fewB at h
    simp only [Bool.and_eq_true, decide_eq_true_eq] at h
    exact h
  | look l s a => exact of_decide_eq_true (p := s.pairs.length ≤ 1000000) h
  | done l r => exact trivial
theorem ex25_few : fewB (rdC beginL) (ex25 0) = true ∧ fewB (rdC beginL) (ex25 1) = true ∧ fewB (rdC beginL) (ex25 2) = true := by decide +kernel
theorem asked25 : AskedQ (rdC beginL) ⟨9, 0, 9⟩ 1 3 ex25 0 ⟨0, false, 0, 0, 0, []⟩ where
  zero := rfl
  step t := rfl
  inv t := QP.Inv.it (by unfold Op.Bd leastI mostI; decide) (rdC_bd (bd_of (by decide))) (QP.Inv.init (by unfold Op.Bd leastI mostI; decide) 1) t
  fewq t h := by
    have : t = 0 ∨ t = 1 ∨ t = 2 := by omega
    rcases this with rfl | rfl | rfl
    · exact few_of ex25_few.1
    · exact few_of ex25_few.2.1
    · exact few_of ex25_few.2.2
  going t h := by
    have : t = 0 ∨ t = 1 ∨ t = 2 := by omega
    rcases this with rfl | rfl | rfl
    · rw [ex25_next.1]; decide
    · rw [ex25_next.2.1]; decide
    · rw [ex25_next.2.2]; decide
  done := ex25_done
  few := by decide
  list := by decide
/- chapter 25's examples. -/

theorem run_why (a k v n : Int) (b : Bool) (lv : Value) (w : World) : Sem.run Tryz.prog (Instr.field 54 (.agg #[.int .i64 a, .bool b, .int .i64 k, .int .i64 v, .int .i64 n, lv]) 0) w = .ok (.int .i64 a) w := by kernel_rfl
section
attribute [local go_sem] run_why
set_option maxRecDepth 100000 in
set_option maxHeartbeats 1000000 in
theorem known25_any (w : World) : Calls Tryz.prog 38 #[] w fun e w' => e = .returned (.bool true) ∧ Below w.heap.size w w' := by
  go_enter Tryz.func38, Tryz.ntmps38
  go_wp2_with (fail)
  with_reducible refine (memNew_any 9 _ (by decide) (by decide)).mono ?_
  rintro e w1 ⟨rfl, hm, hb⟩
  have hB1 := hb
  have HM := Lib.hid hm
  clear hm hb
  obtain ⟨b, hbe⟩ : ∃ b, w.heap.size = b := ⟨_, rfl⟩
  rw [hbe] at HM hB1 ⊢
  go_wp2_with (fail)
  with_reducible refine (begin_any b b 9 0 0 0 _ HM.out (by decide) (by decide)).mono ?_
  rintro e w2 ⟨rfl, v, hm, ho, _⟩
  have hz2 : b < w2.heap.size := by have := hB1.size; have := ho.size; have := HM.out.blk.lt; omega
  have hB2 := hB1.trans (ho.below (B := b) (by simp) (by have := HM.out.blk.lt; omega))
  have HM2 : Hid (MemP b b v beginL 9 2 0 0 w2) := Lib.hid (by rw [show bump (bump 0) = 2 from by kernel_rfl] at hm; exact hm)
  clear hm ho HM hB1
  have HC2 : Hid (MemC b beginL 9 w2) := Lib.hid ⟨v, _, _, HM2.out⟩
  clear HM2
  have HAQ := Lib.hid asked25
  go_wp2_with (fail)
  with_reducible refine (runQ_any b beginL 9 ⟨9, 0, 9⟩ 1 3 _ 0 _ _ HC2.out (by decide) (by decide) HAQ.out).mono ?_
  rintro e w3 ⟨A, c, rfl, hO, hm, hc⟩
  have HB3 := Lib.hid (hB2.trans (hc.below (B := b) (fun x hx => by omega) (by omega)))
  have hz3 := hc.size
  have HO3 := Lib.hid hO
  have hx3 : Below w3.heap.size w3 (w3.alloc (.cells #[.int .i64 0, .bool false, .int .i64 0, .int .i64 0, .int .i64 0, .slice A 0 c] 54)) := (Below.refl w3.heap.size w3).alloc (Nat.le_refl _) _
  have HX3 : Hid (Blk (w3.alloc (.cells #[.int .i64 0, .bool false, .int .i64 0, .int .i64 0, .int .i64 0, .slice A 0 c] 54)) w3.heap.size 54 #[.int .i64 0, .bool false, .int .i64 0, .int .i64 0, .int .i64 0, .slice A 0 c]) := Lib.hid (Blk.new w3 _ _)
  have HO4 := Lib.hid (own_below HO3.out hx3)
  have HB4 := Lib.hid (HB3.out.trans (hx3.mono (by omega)))
  have hz4 := hx3.size
  clear hO hm hc HC2 hB2 HAQ HO3 HB3 hx3
  go_wp2_with (fail)
  generalize w3.alloc (.cells #[.int .i64 0, .bool false, .int .i64 0, .int .i64 0, .int .i64 0, .slice A 0 c] 54) = w4 at HX3 HO4 HB4 hz4 ⊢
  with_reducible refine (newQ_any ⟨7, 0, 0⟩ 0 _).mono ?_
  rintro e w5 ⟨fb, rfl, hq, hb⟩
  have HQ5 : Hid (QueryP (fun x => w4.heap.size ≤ x) fb ⟨7, 0, 0⟩ 0 (.done 0 (Res.err 2)) w5) := Lib.hid hq
  have HB5 := Lib.hid (HB4.out.trans (hb.mono (by omega)))
  have HL5 : Hid (PairsAt w5 w5.heap.size A []) := Lib.hid (Reads.of_own (own_below HO4.out hb))
  have HN5 : Hid (PairsAt w5 w5.heap.size none []) := Lib.hid (PairsAt.nil w5 _)
  have hx5 := HX3.out.below hb HX3.out.lt
  have x0 : w5.cell? ⟨w3.heap.size, 0, none⟩ = some (.int .i64 0) := hx5.cell 0
  have x1 : w5.cell? ⟨w3.heap.size, 1, none⟩ = some (.bool false) := hx5.cell 1
  have x2 : w5.cell? ⟨w3.heap.size, 2, none⟩ = some (.int .i64 0) := hx5.cell 2
  have x3 : w5.cell? ⟨w3.heap.size, 3, none⟩ = some (.int .i64 0) := hx5.cell 3
  have x4 : w5.cell? ⟨w3.heap.size, 4, none⟩ = some (.int .i64 0) := hx5.cell 4
  have x5 : w5.cell? ⟨w3.heap.size, 5, none⟩ = some (.slice A 0 c) := hx5.cell 5
  have hz5 := hb.size
  clear hq hb HB4 HO4 HX3 hx5
  go_wp2_with (fail)
  with_reducible refine (resultsSame_any 0 0 0 0 false [] A none c 0 0 0 _ rfl rfl HL5.out HN5.out (by decide)).mono ?_
  rintro e w6 ⟨rfl, hb⟩
  have HQ6 := Lib.hid (HQ5.out.below hb)
  have HB6 := Lib.hid (HB5.out.trans (hb.mono (by omega)))
  have hz6 := hb.size
  clear hb HQ5 HB5 HL5 HN5
  go_wp2_with (fail)
  with_reducible refine (doneQ_any _ _ _ _ _ _ HQ6.out).mono ?_
  rintro e w7 ⟨rfl, rfl⟩
  rw [show ((QP.done 0 (Res.err 2)).next == 3) = true from rfl]
  go_wp2_with (fail)
  with_reducible refine (resultQ_any _ fb _ _ 0 (Res.err 2) _ HQ6.out (by decide)).mono ?_
  rintro e w8 ⟨lv, rfl, hO, hb⟩
  obtain ⟨A8, c8, rfl⟩ := own_shape hO
  have HB8 := Lib.hid (HB6.out.trans (hb.mono (by omega)))
  clear hO hb HB6
  unfold resV Res.err
  go_wp2_with (fail)
  go_ret
  exact ⟨rfl, hbe ▸ HB8.out⟩
end
/- The walk of QueryRetry. -/

structure RtC (b fb ob : Nat) (o : Op) (n : Nat) (lk : Bool) (L0 t N : Nat) (q : QP) (C : List Int) (v : Value) (count odd : Int) (F : Nat → Prop) (wr : World) : Prop where
  hq : QueryP F fb o n q wr
  hm : MemP b b v C 4000 count odd 0 wr
  off : Off F b v
  good : Good C
  len : C.length = L0 + t
  six : 1 ≤ t → rdC C 6 = wOf 1 C.length
  inv : q.Inv
  pl : Pl o n (rdC C) lk q N
  one : N % 3 = 0 ∨ 1 ≤ t
  few : t + N ≤ 18
  all : lk = false → t + N = 3 * n
  obk : Blk wr ob 48 #[.int .i64 o.kind, .int .i64 o.key, .int .i64 o.val]
  obf : ∀ x, F x → ob < x
def RtRel (b fb ob : Nat) (o : Op) (n : Nat) (lk : Bool) (L0 : Nat) (wq : World) (cv rv : Value) (wr : World) : Prop :=
  Below b wq wr ∧ ((∃ t N q C v count odd F, cv = .int .i64 ((t : Nat) : Int) ∧ rv = .int .i64 ((t : Nat) : Int) ∧ RtC b fb ob o n lk L0 t N q C v count odd F wr) ∨ (∃ (t r : Nat) (F : Nat → Prop), cv = .int .i64 (t : Int) ∧ rv = .int .i64 (r : Int) ∧ t < 100 ∧ r < 100 ∧ QueryP F fb o n (finQ n lk) wr ∧ (lk = false → n ≤ r) ∧ Blk wr ob 48 #[.int .i64 o.kind, .int .i64 o.key, .int .i64 o.val]))
theorem RtC.kind {b fb ob : Nat} {o : Op} {n : Nat} {lk : Bool} {L0 t N : Nat} {q : QP} {C : List Int} {v : Value} {count odd : Int} {F : Nat → Prop} {wr : World} (h : RtC b fb ob o n lk L0 t N q C v count odd F wr) (hL : L0 ≤ 3000) : N % 3 ≠ 0 → wKind (rdC C 6) = 1 := fun hn => by
  have h1 : 1 ≤ t := h.one.resolve_left hn
  rw [h.six h1]
  have := h.good.six
  have := h.len
  have := h.few
  exact (kind_empty (by omega) (by omega)).2
theorem RtC.turn {b fb ob : Nat} {o : Op} {n : Nat} {lk : Bool} {L0 t N : Nat} {q : QP} {C : List Int} {v : Value} {count odd : Int} {F : Nat → Prop} {wr : World} (h : RtC b fb ob o n lk L0 t N q C v count odd F wr) (hL : L0 ≤ 3000) : N % 3 = 2 → rdC (turnC C) 6 ≠ rdC C 6 := fun hn => by
  have h1 : 1 ≤ t := h.one.resolve_left (by omega)
  rw [h.six h1, turnC_six h.good]
  have := h.good.six
  have := h.len
  have := h.few
  rw [(kind_empty (a := (C.length : Int) + 1) (by omega) (by omega)).1, (kind_empty (a := (C.length : Int)) (by omega) (by omega)).1]
  omega
theorem asc_nil : AscP [] := fun i hi => absurd hi (by simp)
theorem apart_none (b : Nat) (v : Value) : Apart none b v := fun ad h => by cases h
theorem lay_nil (C : List Int) : layF (([] : List (Int × Int)).length + 1) C [] = (C ++ [0], wOf 1 ((C.length : Int) + 1)) := by simp [layF]
theorem lay_nil1 (C : List Int) : (layF (([] : List (Int × Int)).length + 1) C []).1 = C ++ [0] := by rw [lay_nil]
theorem lay_nil2 (C : List Int) : (layF (([] : List (Int × Int)).length + 1) C []).2 = wOf 1 ((C.length : Int) + 1) := by rw [lay_nil]
theorem room_nil {C : List Int} (h : C.length ≤ 3999) : (C.length : Int) + cellsI (([] : List (Int × Int)).length : Int) ≤ 4000 := by
  rw [show (([] : List (Int × Int)).length : Int) = 0 from rfl, cellsI_zero]; omega
theorem beginL_bd : ∀ x ∈ beginL, bdI x := by unfold bdI; decide
theorem cells60 : ∀ n : Nat, n < 61 → cellsI (n : Int) ≤ 2900 := by decide +kernel
end Go.Proofs.YtblajeildolloaaGreat

/- The document's memory, and an access of a procedure. -/
namespace Go.Proofs.YtblajeildolloaaGreat
set_option linter.unusedVariables false
set_option linter.unusedSimpArgs false
open Go.RowKit

/-- What an access tells, and what the cells are behind it. -/
def exQ (max : Int) (q : Ask) (C : List Int) : Int × List Int :=
  if q.kind = 1 then (rdC C q.a, C)
  else if q.kind = 2 then (0, wrC C q.a q.x)
  else if q.kind = 3 then (if (1 ≤ q.a ∧ q.a ≤ C.length) ∧ rdC C q.a = q.x then (1, wrC C q.a q.y) else (0, C))
  else if q.kind = 4 then (rdC C q.a, wrC C q.a (wrap64 (rdC C q.a + q.x)))
  else if q.kind = 5 then (if q.ws.length = 0 ∨ max - C.length < q.ws.length then (0, C) else ((C.length : Int) + 1, C ++ q.ws))
  else (0, C)
/-- Is it a used cell? -/
def inB (C : List Int) (a : Int) : Bool := decide (1 ≤ a ∧ a ≤ (C.length : Int))
theorem inB_yes {C : List Int} {a : Int} (h : 1 ≤ a ∧ a ≤ (C.length : Int)) : inB C a = true := decide_eq_true h
theorem inB_no {C : List Int} {a : Int} (h : ¬ (1 ≤ a ∧ a ≤ (C.length : Int))) : inB C a = false := decide_eq_false h
structure M7Q (F : Nat → Prop) (bm : Nat) (C : List Int) (max : Int) (v : Value) (cnt odd rf : Int) (w : World) : Prop where
  fb : F bm
  blk : Blk w bm 132 #[.int .i64 max, v, .int .i64 cnt, .int .i64 odd, .int .i64 rf]
  row : w.ownsRow 0 2 1 v C.length (C.map (Value.int .i64))
  fr : ∀ g, v.ownBlock = some g → F g
def M7 (F : Nat → Prop) (bm : Nat) (C : List Int) (max : Int) (w : World) : Prop := ∃ v cnt odd rf, M7Q F bm C max v cnt odd rf w
section
variable {F G : Nat → Prop} {bm : Nat} {C : List Int} {max : Int} {v : Value} {cnt odd rf : Int} {w w' : World}
theorem M7Q.mono (h : M7Q F bm C max v cnt odd rf w) (hs : ∀ x, F x → G x) : M7Q G bm C max v cnt odd rf w := ⟨hs _ h.fb, h.blk, h.row, fun g hg => hs _ (h.fr g hg)⟩
theorem M7Q.chg (h : M7Q F bm C max v cnt odd rf w) (m : Chg G w w') (hd : ∀ x, F x → G x → False) : M7Q F bm C max v cnt odd rf w' :=
  ⟨h.fb, m.blk h.blk (fun e => hd _ h.fb e), m.own h.row (fun g hg e => hd _ (h.fr g hg) e), h.fr⟩
theorem M7Q.below (h : M7Q F bm C max v cnt odd rf w) (hb : Below w.heap.size w w') : M7Q F bm C max v cnt odd rf w' := h.chg (G := fun _ => False) (Chg.of_below hb) (fun _ _ hg => hg)
theorem M7.mono (h : M7 F bm C max w) (hs : ∀ x, F x → G x) : M7 G bm C max w := by obtain ⟨v, a, b, c, h⟩ := h; exact ⟨v, a, b, c, h.mono hs⟩
theorem M7.chg (h : M7 F bm C max w) (m : Chg G w w') (hd : ∀ x, F x → G x → False) : M7 F bm C max w' := by obtain ⟨v, a, b, c, h⟩ := h; exact ⟨v, a, b, c, h.chg m hd⟩
theorem M7.below (h : M7 F bm C max w) (hb : Below w.heap.size w w') : M7 F bm C max w' := h.chg (G := fun _ => False) (Chg.of_below hb) (fun _ _ hg => hg)
theorem M7.lt (h : M7 F bm C max w) : bm < w.heap.size := by obtain ⟨v, a, b, c, h⟩ := h; exact h.blk.lt
theorem M7Q.set (h : M7Q F bm C max v cnt odd rf w) (k : Nat) (hk : k ≠ 1) (u : Value) {max' cnt' odd' rf' : Int} (he : (#[.int .i64 max, v, .int .i64 cnt, .int .i64 odd, .int .i64 rf] : Array Value).setIfInBounds k u = #[.int .i64 max', v, .int .i64 cnt', .int .i64 odd', .int .i64 rf']) : M7Q F bm C max' v cnt' odd' rf' (w.setCell ⟨bm, k, none⟩ u) :=
  ⟨h.fb, by have := h.blk.set_ k u; rw [he] at this; exact this, (Chg.of_mv (F := fun x => x = bm) (Mv.set1 w bm k u) rfl).own h.row (own_blk_not h.row h.blk (by decide)), h.fr⟩
theorem Chg.set1 (w : World) (b k : Nat) (u : Value) : Chg (fun x => x = b) w (w.setCell ⟨b, k, none⟩ u) := Chg.of_mv (Mv.set1 w b k u) rfl
end
section
variable (F : Nat → Prop) (bm : Nat) (C : List Int) (max : Int)
set_option maxHeartbeats 1000000 in
theorem has7_any (v : Value) (cnt odd rf a : Int) (w : World) (h : M7Q F bm C max v cnt odd rf w) (hC : C.length ≤ 1000000) :
    Calls Tryz.prog 211 #[.pointer (some ⟨bm, 0, none⟩), .int .i64 a] w fun e w' => e = .returned (.bool (inB C a)) ∧ (∃ odd', M7Q F bm C max v (bump cnt) odd' rf w') ∧ Chg (fun x => x = bm) w w' := by
  obtain ⟨A, c, rfl⟩ := own_shape h.row
  have H := Lib.hid (h.set 2 (by decide) (.int .i64 (bump cnt)) rfl)
  have c2 : w.cell? ⟨bm, 2, none⟩ = some (.int .i64 cnt) := h.blk.cell 2
  have f2 := h.blk.frozen 2
  have h1 := (h.set 2 (by decide) (.int .i64 (bump cnt)) rfl)
  have d1 : (w.setCell ⟨bm, 2, none⟩ (.int .i64 (wrap64 (cnt + 1)))).cell? ⟨bm, 1, none⟩ = some (.slice A C.length c) := h1.blk.cell 1
  have d3 : (w.setCell ⟨bm, 2, none⟩ (.int .i64 (wrap64 (cnt + 1)))).cell? ⟨bm, 3, none⟩ = some (.int .i64 odd) := h1.blk.cell 3
  have g3 : (w.setCell ⟨bm, 2, none⟩ (.int .i64 (wrap64 (cnt + 1)))).frozen? ⟨bm, 3, none⟩ = false := h1.blk.frozen 3
  have H3 := Lib.hid (h1.set 3 (by decide) (.int .i64 (wrap64 (odd + 1))) rfl)
  clear h h1
  by_cases h0 : a < 1
  · have HD := Lib.hid (inB_no (C := C) (a := a) (by omega))
    go_enter Tryz.func211, Tryz.ntmps211
    go_wp2_with (fail)
    go_ret
    rw [HD.out]
    exact ⟨rfl, ⟨_, H3.out⟩, (Chg.set1 _ _ _ _).trans (Chg.set1 _ _ _ _)⟩
  · by_cases h2 : (C.length : Int) < a
    · have HD := Lib.hid (inB_no (C := C) (a := a) (by omega))
      go_enter Tryz.func211, Tryz.ntmps211
      go_wp2_with (fail)
      go_ret
      rw [HD.out]
      exact ⟨rfl, ⟨_, H3.out⟩, (Chg.set1 _ _ _ _).trans (Chg.set1 _ _ _ _)⟩
    · have HD := Lib.hid (inB_yes (C := C) (a := a) (by omega))
      go_enter Tryz.func211, Tryz.ntmps211
      go_wp2_with (fail)
      go_ret
      rw [HD.out]
      exact ⟨rfl, ⟨_, H.out⟩, Chg.set1 _ _ _ _⟩
set_option maxHeartbeats 1000000 in
theorem read7_any (a : Int) (w : World) (h : M7 F bm C max w) (hC : C.length ≤ 1000000) :
    Calls Tryz.prog 156 #[.pointer (some ⟨bm, 0, none⟩), .int .i64 a] w fun e w' => e = .returned (.int .i64 (rdC C a)) ∧ M7 F bm C max w' ∧ Chg (fun x => x = bm) w w' := by
  obtain ⟨v, cnt, odd, rf, h⟩ := h
  have H := Lib.hid h
  clear h
  go_enter Tryz.func156, Tryz.ntmps156
  go_wp2_with (fail)
  with_reducible refine (has7_any F bm C max v cnt odd rf a _ H.out hC).mono ?_
  rintro e w1 ⟨rfl, ⟨odd', h1⟩, hc⟩
  obtain ⟨A, c, rfl⟩ := own_shape h1.row
  have d1 : w1.cell? ⟨bm, 1, none⟩ = some (.slice A C.length c) := h1.blk.cell 1
  by_cases ha : 1 ≤ a ∧ a ≤ (C.length : Int)
  · rw [inB_yes ha]
    obtain ⟨k, rfl⟩ : ∃ k : Nat, a = (k : Int) + 1 := ⟨(a - 1).toNat, by omega⟩
    have HR := Lib.hid (show rdC C ((k : Int) + 1) = keyAt C k from rdC_in (C := C) (a := k + 1) (by omega) (by omega))
    obtain ⟨ad, rfl, _, hce⟩ := (IntsAt.of_own h1.row).2.cells (by omega)
    have hx := hce k (by omega)
    have e1 : (k : Int) + 1 - 1 = k := by omega
    have hk2 : k < C.length := by omega
    have hk1 : (k : Int) < C.length := by omega
    have H1 := Lib.hid h1
    have HC := Lib.hid hc
    clear h1 hc
    clear hce H ha
    generalize keyAt C k = x at hx HR
    go_wp2_with (fail)
    go_ret
    rw [HR.out]
    exact ⟨rfl, ⟨_, _, _, _, H1.out⟩, HC.out⟩
  · rw [inB_no ha]
    have HR := Lib.hid (rdC_out (C := C) (a := a) (by omega))
    have H1 := Lib.hid h1
    have HC := Lib.hid hc
    clear h1 hc
    clear ha H
    go_wp2_with (fail)
    go_ret
    rw [HR.out]
    exact ⟨rfl, ⟨_, _, _, _, H1.out⟩, HC.out⟩
theorem M7Q.at_ {F : Nat → Prop} {bm : Nat} {C : List Int} {max cnt odd rf : Int} {v : Value} {w : World} (h : M7Q F bm C max v cnt odd rf w) {k : Nat} (hk : k < C.length) : ∃ g c, v = .slice (some ⟨g, 0, none⟩) C.length c ∧ w.cell? ⟨g, k, none⟩ = some (.int .i64 (keyAt C k)) ∧ w.frozen? ⟨g, k, none⟩ = false ∧
    (∀ x : Int, M7Q F bm (C.set k x) max v cnt odd rf (w.setCell ⟨g, k, none⟩ (.int .i64 x)) ∧ Chg F w (w.setCell ⟨g, k, none⟩ (.int .i64 x))) := by
  obtain ⟨g, c, rfl, _, _⟩ := h.row.form (by omega)
  have hx : w.cell? ⟨g, k, none⟩ = some (.int .i64 (keyAt C k)) := by
    rw [h.row.cellAt k (by simp; omega)]
    rw [List.getElem?_map, List.getElem?_eq_getElem hk]
    simp [keyAt, List.getD_eq_getElem?_getD, List.getElem?_eq_getElem hk]
  have hne : bm ≠ g := fun e => own_blk_ne h.row h.blk (by decide) (by simp [Value.ownBlock, e])
  refine ⟨g, c, rfl, hx, h.row.frozenAt k, fun x => ⟨⟨h.fb, h.blk.far (p := ⟨g, k, none⟩) hne _, ?_, h.fr⟩, Chg.of_mv (F := F) (Mv.set1 w g k (.int .i64 x)) (h.fr g rfl)⟩⟩
  obtain ⟨hs, hs2⟩ := h.row.stored k (.int .i64 x)
  rw [List.length_set, List.map_set]
  exact hs
set_option maxHeartbeats 1000000 in
theorem write7_any (a x : Int) (w : World) (h : M7 F bm C max w) (hC : C.length ≤ 1000000) :
    Calls Tryz.prog 157 #[.pointer (some ⟨bm, 0, none⟩), .int .i64 a, .int .i64 x] w fun e w' => e = .returned (.tuple #[]) ∧ M7 F bm (wrC C a x) max w' ∧ Chg F w w' := by
  obtain ⟨v, cnt, odd, rf, h⟩ := h
  have fb := h.fb
  have H := Lib.hid h
  clear h
  go_enter Tryz.func157, Tryz.ntmps157
  go_wp2_with (fail)
  with_reducible refine (has7_any F bm C max v cnt odd rf a _ H.out hC).mono ?_
  rintro e w1 ⟨rfl, ⟨odd', h1⟩, hc⟩
  by_cases ha : 1 ≤ a ∧ a ≤ (C.length : Int)
  · rw [inB_yes ha]
    obtain ⟨k, rfl⟩ : ∃ k : Nat, a = (k : Int) + 1 := ⟨(a - 1).toNat, by omega⟩
    have HR := Lib.hid (show wrC C ((k : Int) + 1) x = C.set k x by unfold wrC; rw [if_pos ha]; congr 1)
    obtain ⟨g, c, rfl, d0, f0, hw⟩ := h1.at_ (k := k) (by omega)
    have d1 : w1.cell? ⟨bm, 1, none⟩ = some (.slice (some ⟨g, 0, none⟩) C.length c) := h1.blk.cell 1
    have e1 : (k : Int) + 1 - 1 = k := by omega
    have hk2 : k < C.length := by omega
    have hk1 : (k : Int) < C.length := by omega
    have HW := Lib.hid (hw x)
    have HC : Hid (Chg F w w1) := Lib.hid (hc.mono (fun y hy => hy ▸ fb))
    clear H ha h1 hw hc
    go_wp2_with (fail)
    go_end0
    rw [HR.out]
    exact ⟨rfl, ⟨_, _, _, _, HW.out.1⟩, HC.out.trans HW.out.2⟩
  · rw [inB_no ha]
    have HR := Lib.hid (show wrC C a x = C from if_neg ha)
    have HC : Hid (Chg F w w1) := Lib.hid (hc.mono (fun y hy => hy ▸ fb))
    have H1 := Lib.hid h1
    clear h1
    clear ha H hc
    go_wp2_with (fail)
    go_end0
    rw [HR.out]
    exact ⟨rfl, ⟨_, _, _, _, H1.out⟩, HC.out⟩
/-- The cells behind a Cas, and whether it came to be. -/
def casC (C : List Int) (a x y : Int) : Bool × List Int := if (1 ≤ a ∧ a ≤ C.length) ∧ rdC C a = x then (true, wrC C a y) else (false, C)
set_option maxHeartbeats 1000000 in
theorem cas7_any (a x y : Int) (w : World) (h : M7 F bm C max w) (hC : C.length ≤ 1000000) :
    Calls Tryz.prog 158 #[.pointer (some ⟨bm, 0, none⟩), .int .i64 a, .int .i64 x, .int .i64 y] w fun e w' => e = .returned (.bool (casC C a x y).1) ∧ M7 F bm (casC C a x y).2 max w' ∧ Chg F w w' := by
  obtain ⟨v, cnt, odd, rf, h⟩ := h
  have fb := h.fb
  have H := Lib.hid h
  clear h
  go_enter Tryz.func158, Tryz.ntmps158
  go_wp2_with (fail)
  with_reducible refine (has7_any F bm C max v cnt odd rf a _ H.out hC).mono ?_
  rintro e w1 ⟨rfl, ⟨odd', h1⟩, hc⟩
  have HC : Hid (Chg F w w1) := Lib.hid (hc.mono (fun y hy => hy ▸ fb))
  clear hc H
  by_cases ha : 1 ≤ a ∧ a ≤ (C.length : Int)
  · rw [inB_yes ha]
    obtain ⟨k, rfl⟩ : ∃ k : Nat, a = (k : Int) + 1 := ⟨(a - 1).toNat, by omega⟩
    have hr : rdC C ((k : Int) + 1) = keyAt C k := rdC_in (C := C) (a := k + 1) (by omega) (by omega)
    have hr2 : wrC C ((k : Int) + 1) y = C.set k y := by unfold wrC; rw [if_pos ha]; congr 1
    obtain ⟨g, c, rfl, d0, f0, hw⟩ := h1.at_ (k := k) (by omega)
    have d1 : w1.cell? ⟨bm, 1, none⟩ = some (.slice (some ⟨g, 0, none⟩) C.length c) := h1.blk.cell 1
    have e1 : (k : Int) + 1 - 1 = k := by omega
    have hk2 : k < C.length := by omega
    have hk1 : (k : Int) < C.length := by omega
    have HW := Lib.hid (hw y)
    have H1 := Lib.hid h1
    by_cases hx : keyAt C k = x
    · have HK := Lib.hid (show casC C ((k : Int) + 1) x y = (true, C.set k y) by unfold casC; rw [if_pos ⟨ha, by rw [hr]; exact hx⟩, hr2])
      have ex : (keyAt C k != x) = false := by simpa using hx
      clear ha h1 hw hr hr2 hx
      generalize keyAt C k = z at d0 ex
      go_wp2_with (fail)
      go_ret
      rw [HK.out]
      exact ⟨rfl, ⟨_, _, _, _, HW.out.1⟩, HC.out.trans HW.out.2⟩
    · have HK := Lib.hid (show casC C ((k : Int) + 1) x y = (false, C) by unfold casC; rw [if_neg (fun h => hx (by rw [← hr]; exact h.2))])
      have ex : (keyAt C k != x) = true := by simpa using hx
      clear ha h1 hw hr hr2 hx
      generalize keyAt C k = z at d0 ex
      go_wp2_with (fail)
      go_ret
      rw [HK.out]
      exact ⟨rfl, ⟨_, _, _, _, H1.out⟩, HC.out⟩
  · rw [inB_no ha]
    have HK := Lib.hid (show casC C a x y = (false, C) from if_neg (fun h => ha h.1))
    have H1 := Lib.hid h1
    clear h1
    clear ha
    go_wp2_with (fail)
    go_ret
    rw [HK.out]
    exact ⟨rfl, ⟨_, _, _, _, H1.out⟩, HC.out⟩
set_option maxHeartbeats 1000000 in
theorem add7_any (a x : Int) (w : World) (h : M7 F bm C max w) (hC : C.length ≤ 1000000) :
    Calls Tryz.prog 159 #[.pointer (some ⟨bm, 0, none⟩), .int .i64 a, .int .i64 x] w fun e w' => e = .returned (.int .i64 (rdC C a)) ∧ M7 F bm (wrC C a (wrap64 (rdC C a + x))) max w' ∧ Chg F w w' := by
  obtain ⟨v, cnt, odd, rf, h⟩ := h
  have fb := h.fb
  have H := Lib.hid h
  clear h
  go_enter Tryz.func159, Tryz.ntmps159
  go_wp2_with (fail)
  with_reducible refine (has7_any F bm C max v cnt odd rf a _ H.out hC).mono ?_
  rintro e w1 ⟨rfl, ⟨odd', h1⟩, hc⟩
  have HC : Hid (Chg F w w1) := Lib.hid (hc.mono (fun y hy => hy ▸ fb))
  clear hc H
  by_cases ha : 1 ≤ a ∧ a ≤ (C.length : Int)
  · rw [inB_yes ha]
    obtain ⟨k, rfl⟩ : ∃ k : Nat, a = (k : Int) + 1 := ⟨(a - 1).toNat, by omega⟩
    have hr : rdC C ((k : Int) + 1) = keyAt C k := rdC_in (C := C) (a := k + 1) (by omega) (by omega)
    have hr2 : ∀ y, wrC C ((k : Int) + 1) y = C.set k y := fun y => by unfold wrC; rw [if_pos ha]; congr 1
    obtain ⟨g, c, rfl, d0, f0, hw⟩ := h1.at_ (k := k) (by omega)
    have d1 : w1.cell? ⟨bm, 1, none⟩ = some (.slice (some ⟨g, 0, none⟩) C.length c) := h1.blk.cell 1
    have e1 : (k : Int) + 1 - 1 = k := by omega
    have hk2 : k < C.length := by omega
    have hk1 : (k : Int) < C.length := by omega
    have HW := Lib.hid (hw (wrap64 (keyAt C k + x)))
    have HR := Lib.hid (show rdC C ((k : Int) + 1) = keyAt C k ∧ wrC C ((k : Int) + 1) (wrap64 (rdC C ((k : Int) + 1) + x)) = C.set k (wrap64 (keyAt C k + x)) from ⟨hr, by rw [hr, hr2]⟩)
    clear ha h1 hw hr hr2
    generalize keyAt C k = z at d0 HW HR
    go_wp2_with (fail)
    go_ret
    rw [HR.out.2, HR.out.1]
    exact ⟨rfl, ⟨_, _, _, _, HW.out.1⟩, HC.out.trans HW.out.2⟩
  · rw [inB_no ha]
    have hr := rdC_out (C := C) (a := a) (by omega)
    have hr2 : wrC C a (wrap64 (rdC C a + x)) = C := if_neg ha
    have H1 := Lib.hid h1
    have HA := Lib.hid hr
    have HB := Lib.hid hr2
    clear h1 hr hr2
    clear ha
    go_wp2_with (fail)
    go_ret
    rw [HB.out, HA.out]
    exact ⟨rfl, ⟨_, _, _, _, H1.out⟩, HC.out⟩
/-- A Make's answer, and the cells behind it. -/
def mkC (C : List Int) (max : Int) (ws : List Int) : Int × List Int := if ws.length = 0 ∨ max - C.length < ws.length then (0, C) else ((C.length : Int) + 1, C ++ ws)
set_option maxRecDepth 100000 in
set_option maxHeartbeats 1000000 in
theorem make7_any (A : Option Addr) (c N : Nat) (q : List Int) (w : World) (hN : N = q.length) (h : M7 F bm C max w) (hC : C.length ≤ 1000000) (hm0 : (C.length : Int) ≤ max) (hm : max ≤ 65536) (hq : w.ownsRow 0 2 1 (.slice A q.length c) q.length (q.map (Value.int .i64))) (hql : q.length ≤ 1000000) :
    Calls Tryz.prog 26 #[.pointer (some ⟨bm, 0, none⟩), .slice A N c] w fun e w' => e = .returned (.tuple #[.int .i64 (mkC C max q).1, .bool (decide (0 < (mkC C max q).1))]) ∧ M7 (fun x => F x ∨ w.heap.size ≤ x) bm (mkC C max q).2 max w' ∧ Chg F w w' := by
  subst hN
  obtain ⟨i0, hi0, hz0, hz1, hz2⟩ := info_parts info_int64m
  obtain ⟨v, cnt, odd, rf, h⟩ := h
  obtain ⟨A0, c0', rfl⟩ := own_shape h.row
  have fb := h.fb
  have h1' := h.set 2 (by decide) (.int .i64 (bump cnt)) (cnt' := bump cnt) rfl
  have c2 : w.cell? ⟨bm, 2, none⟩ = some (.int .i64 cnt) := h.blk.cell 2
  have f2 := h.blk.frozen 2
  have M1 := Lib.hid (Chg.set1 w bm 2 (.int .i64 (bump cnt)))
  have eb : wrap64 (cnt + 1) = bump cnt := rfl
  have HQ := Lib.hid ((Chg.set1 w bm 2 (.int .i64 (bump cnt))).own hq (own_blk_not hq h.blk (by decide)))
  have hsz : (w.setCell ⟨bm, 2, none⟩ (.int .i64 (bump cnt))).heap.size = w.heap.size := by simp
  have SZ := Lib.hid hsz
  clear hq h hsz
  by_cases h0 : q.length = 0 ∨ max - C.length < q.length
  · have HK := Lib.hid (show mkC C max q = (0, C) from if_pos h0)
    by_cases h00 : q.length = 0
    · have e0 : ((q.length : Int) == 0) = true := by simpa using h00
      clear h0 h00
      go_enter Tryz.func26, Tryz.ntmps26
      go_wp2_with (fail)
      try rw [eb]
      clear eb c2 f2
      generalize w.setCell ⟨bm, 2, none⟩ (.int .i64 (bump cnt)) = w1 at h1' M1 HQ SZ ⊢
      have c1 : w1.cell? ⟨bm, 1, none⟩ = some (.slice A0 C.length c0') := h1'.blk.cell 1
      have c0 : w1.cell? ⟨bm, 0, none⟩ = some (.int .i64 max) := h1'.blk.cell 0
      have H1 := Lib.hid h1'
      clear h1'
      go_quiet (fail)
      have h1q := H1.out.below (drawn_bl (Drawn.of w1 nq) _)
      have D1 := Lib.hid (drawn_bl (Drawn.of w1 nq) w1.heap.size)
      clear c0 c1
      generalize w1.drewN nq = w2 at h1q D1 ⊢
      have c4 : w2.cell? ⟨bm, 4, none⟩ = some (.int .i64 rf) := h1q.blk.cell 4
      have f4 := h1q.blk.frozen 4
      have H2 := Lib.hid (h1q.set 4 (by decide) (.int .i64 (wrap64 (rf + 1))) (rf' := wrap64 (rf + 1)) rfl)
      clear h1q
      go_wp2_with (fail)
      go_ret2
      rw [HK.out]
      exact ⟨rfl, ⟨_, _, _, _, H2.out.mono (fun _ => .inl)⟩, ((M1.out.trans (Chg.of_below D1.out)).trans (Chg.set1 _ _ _ _)).mono (fun x hx => hx ▸ fb)⟩
    · have e0 : ((q.length : Int) == 0) = false := by rw [beq_eq_false_iff_ne]; omega
      have hlt : max - (C.length : Int) < q.length := by omega
      clear h0 h00
      go_enter Tryz.func26, Tryz.ntmps26
      go_wp2_with (fail)
      try rw [eb]
      clear eb c2 f2
      generalize w.setCell ⟨bm, 2, none⟩ (.int .i64 (bump cnt)) = w1 at h1' M1 HQ SZ ⊢
      have c1 : w1.cell? ⟨bm, 1, none⟩ = some (.slice A0 C.length c0') := h1'.blk.cell 1
      have c0 : w1.cell? ⟨bm, 0, none⟩ = some (.int .i64 max) := h1'.blk.cell 0
      have H1 := Lib.hid h1'
      clear h1'
      go_quiet (fail)
      have h1q := H1.out.below (drawn_bl (Drawn.of w1 nq) _)
      have D1 := Lib.hid (drawn_bl (Drawn.of w1 nq) w1.heap.size)
      clear c0 c1
      generalize w1.drewN nq = w2 at h1q D1 ⊢
      have c4 : w2.cell? ⟨bm, 4, none⟩ = some (.int .i64 rf) := h1q.blk.cell 4
      have f4 := h1q.blk.frozen 4
      have H2 := Lib.hid (h1q.set 4 (by decide) (.int .i64 (wrap64 (rf + 1))) (rf' := wrap64 (rf + 1)) rfl)
      clear h1q
      go_wp2_with (fail)
      go_ret2
      rw [HK.out]
      exact ⟨rfl, ⟨_, _, _, _, H2.out.mono (fun _ => .inl)⟩, ((M1.out.trans (Chg.of_below D1.out)).trans (Chg.set1 _ _ _ _)).mono (fun x hx => hx ▸ fb)⟩
  · have HK := Lib.hid (show mkC C max q = ((C.length : Int) + 1, C ++ q) from if_neg h0)
    have e0 : ((q.length : Int) == 0) = false := by rw [beq_eq_false_iff_ne]; omega
    have hlt : ¬ max - (C.length : Int) < q.length := by omega
    clear h0
    go_enter Tryz.func26, Tryz.ntmps26
    go_wp2_with (fail)
    try rw [eb]
    clear eb c2 f2
    generalize w.setCell ⟨bm, 2, none⟩ (.int .i64 (bump cnt)) = w1 at h1' M1 HQ SZ ⊢
    have c1 : w1.cell? ⟨bm, 1, none⟩ = some (.slice A0 C.length c0') := h1'.blk.cell 1
    have c0 : w1.cell? ⟨bm, 0, none⟩ = some (.int .i64 max) := h1'.blk.cell 0
    have H1 := Lib.hid h1'
    clear h1'
    go_quiet (fail)
    have h1q := H1.out.below (drawn_bl (Drawn.of w1 nq) _)
    have D1 := Lib.hid (drawn_bl (Drawn.of w1 nq) w1.heap.size)
    have HQ2 := Lib.hid (show IntsAt (w1.drewN nq) (w1.drewN nq).heap.size A q from Reads.of_own (own_below HQ.out (drawn_bl (Drawn.of w1 nq) _)))
    have hz3 : w.heap.size ≤ (w1.drewN nq).heap.size := by have := SZ.out; show w.heap.size ≤ w1.heap.size; omega
    have SZ2 := Lib.hid (show (w1.drewN nq).heap.size = w.heap.size from SZ.out)
    clear c0 c1
    generalize w1.drewN nq = w2 at D1 h1q HQ2 hz3 SZ2 ⊢
    have c1 : w2.cell? ⟨bm, 1, none⟩ = some (.slice A0 C.length c0') := h1q.blk.cell 1
    have f1 := h1q.blk.frozen 1
    have H2 := Lib.hid h1q
    have hown := h1q.row
    clear h1q
    go_wp2_with (at_builtin; refine wpList_append_any _ rfl _ _ 22 rfl 0 2 i0 (.int .i64 0) 1 8 Tryz.underlying22 hi0 hz0 hz1 hz2 rfl (by decide) (.slice A0 C.length c0') C.length (C.map (Value.int .i64)) rfl hown w2.heap.size A q.length c (q.map (Value.int .i64)) rfl HQ2.out (ints_one q) ?p1 ?p2 ?p3 ?_; (case p1 => (unfold maxLen; omega)); (case p2 => omega); (case p3 => omega); intro v' w3 hO' hg hvb; obtain ⟨A1, c1', rfl⟩ := own_shape hO'; have HV := Lib.hid hvb; clear hvb; have hb3 := H2.out.blk.grown hg (fun e => own_blk_ne H2.out.row H2.out.blk (by decide) e.symm); have HB3 := Lib.hid hb3; have HO := Lib.hid hO'; have HGG := Lib.hid hg; have c3 : w3.cell? ⟨bm, 1, none⟩ = some (.slice A0 C.length c0') := hb3.cell 1; have f3 := hb3.frozen 1; clear hb3 hO' hg)
    go_ret2
    rw [HK.out]
    have hb3 := HB3.out
    have hO' := HO.out
    have hc3 := Chg.set1 w3 bm 1 (.slice A1 (C.length + q.length) c1')
    refine ⟨?_, ⟨_, _, _, _, .inl fb, hb3.set_ 1 _, ?_, fun g hg => ?_⟩, ?_⟩
    · rw [decide_eq_true (show (0 : Int) < (C.length : Int) + 1 by omega)]
      rfl
    · rw [List.map_append, List.length_append]
      exact hc3.own hO' (own_blk_not hO' hb3 (by decide))
    · rcases HV.out with e | e
      · exact .inl (H2.out.fr g (e ▸ hg))
      · rw [e] at hg; injection hg with hg; exact .inr (by rw [← hg]; have := SZ2.out; omega)
    · refine (((M1.out.mono (fun x hx => hx ▸ fb)).trans (Chg.of_below D1.out)).trans ((Chg.of_grown HGG.out).mono (fun x hx => ?_))).trans (hc3.mono (fun x hx => hx ▸ fb))
      exact H2.out.fr x hx
set_option maxHeartbeats 1000000 in
theorem at7_any (a : Int) (w : World) (h : M7 F bm C max w) (hC : C.length ≤ 1000000) :
    Calls Tryz.prog 140 #[.pointer (some ⟨bm, 0, none⟩), .int .i64 a] w fun e w' => e = .returned (.int .i64 (rdC C a)) ∧ w = w' := by
  obtain ⟨v, cnt, odd, rf, h⟩ := h
  obtain ⟨A, c, rfl⟩ := own_shape h.row
  have d1 : w.cell? ⟨bm, 1, none⟩ = some (.slice A C.length c) := h.blk.cell 1
  by_cases ha : 1 ≤ a ∧ a ≤ (C.length : Int)
  · obtain ⟨k, rfl⟩ : ∃ k : Nat, a = (k : Int) + 1 := ⟨(a - 1).toNat, by omega⟩
    have HR := Lib.hid (show rdC C ((k : Int) + 1) = keyAt C k from rdC_in (C := C) (a := k + 1) (by omega) (by omega))
    obtain ⟨ad, rfl, _, hce⟩ := (IntsAt.of_own h.row).2.cells (by omega)
    have hx := hce k (by omega)
    have e1 : (k : Int) + 1 - 1 = k := by omega
    have hk2 : k < C.length := by omega
    have hk1 : (k : Int) < C.length := by omega
    clear hce ha h
    generalize keyAt C k = x at hx HR
    go_enter Tryz.func140, Tryz.ntmps140
    go_wp2_with (fail)
    go_ret
    rw [HR.out]
    exact ⟨rfl, rfl⟩
  · have HR := Lib.hid (rdC_out (C := C) (a := a) (by omega))
    by_cases h1 : a < 1
    · clear ha h
      go_enter Tryz.func140, Tryz.ntmps140
      go_wp2_with (fail)
      go_ret
      rw [HR.out]
      exact ⟨rfl, rfl⟩
    · have h2 : (C.length : Int) < a := by omega
      clear ha h
      go_enter Tryz.func140, Tryz.ntmps140
      go_wp2_with (fail)
      go_ret
      rw [HR.out]
      exact ⟨rfl, rfl⟩
end
set_option maxHeartbeats 400000 in
theorem new7_any (n : Int) (w : World) (h1 : 1 ≤ n) (h2 : n ≤ 65536) :
    Calls Tryz.prog 25 #[.int .i64 n] w fun e w' => e = .returned (.tuple #[.pointer (some ⟨w.heap.size, 0, none⟩), .int .i64 0]) ∧ M7 (fun x => w.heap.size ≤ x) w.heap.size [] n w' ∧ Below w.heap.size w w' := by
  have H := Lib.hid (Blk.new w 132 #[.int .i64 n, .slice none 0 0, .int .i64 0, .int .i64 0, .int .i64 0])
  go_enter Tryz.func25, Tryz.ntmps25
  go_wp2_with (fail)
  go_ret2
  exact ⟨rfl, ⟨_, _, _, _, Nat.le_refl _, H.out, World.ownsRow_nil _ _ _ _, fun g hg => nilNone _ g hg⟩, (Below.refl _ _).alloc (Nat.le_refl _) _⟩
theorem exQ_read {max : Int} {q : Ask} {C : List Int} (h : q.kind = 1) : exQ max q C = (rdC C q.a, C) := if_pos h
theorem exQ_write {max : Int} {q : Ask} {C : List Int} (h : q.kind = 2) : exQ max q C = (0, wrC C q.a q.x) := by unfold exQ; rw [if_neg (by omega), if_pos h]
theorem exQ_cas {max : Int} {q : Ask} {C : List Int} (h : q.kind = 3) : exQ max q C = (if (casC C q.a q.x q.y).1 = true then 1 else 0, (casC C q.a q.x q.y).2) := by
  unfold exQ casC; rw [if_neg (by omega), if_neg (by omega), if_pos h]
  by_cases c : (1 ≤ q.a ∧ q.a ≤ C.length) ∧ rdC C q.a = q.x
  · rw [if_pos c, if_pos c]; rfl
  · rw [if_neg c, if_neg c]; rfl
theorem exQ_add {max : Int} {q : Ask} {C : List Int} (h : q.kind = 4) : exQ max q C = (rdC C q.a, wrC C q.a (wrap64 (rdC C q.a + q.x))) := by unfold exQ; rw [if_neg (by omega), if_neg (by omega), if_neg (by omega), if_pos h]
theorem exQ_make {max : Int} {q : Ask} {C : List Int} (h : q.kind = 5) : exQ max q C = mkC C max q.ws := by unfold exQ; rw [if_neg (by omega), if_neg (by omega), if_neg (by omega), if_neg (by omega), if_pos h]; rfl
end Go.Proofs.YtblajeildolloaaGreat

/- An access of a procedure, made (Do). -/
namespace Go.Proofs.YtblajeildolloaaGreat
set_option linter.unusedVariables false
set_option linter.unusedSimpArgs false
open Go.RowKit

def DoPost (F : Nat → Prop) (bm : Nat) (C : List Int) (max : Int) (q : Ask) (w : World) (e : Ending) (w' : World) : Prop := e = .returned (.int .i64 (exQ max q C).1) ∧ M7 (fun x => F x ∨ w.heap.size ≤ x) bm (exQ max q C).2 max w' ∧ Chg F w w'
theorem DoPost.mk {F : Nat → Prop} {bm : Nat} {C C' : List Int} {max r : Int} {q : Ask} {w w1 w' : World} (he : exQ max q C = (r, C')) (hb : Below w.heap.size w w1) (hm : M7 F bm C' max w') (hc : Chg F w1 w') : DoPost F bm C max q w (.returned (.int .i64 r)) w' := by
  unfold DoPost
  rw [he]
  exact ⟨rfl, hm.mono (fun _ => .inl), (Chg.of_below hb).trans hc⟩
section
variable (F : Nat → Prop) (bm : Nat) (C : List Int) (max : Int)
set_option maxRecDepth 100000 in
set_option maxHeartbeats 1000000 in
theorem do1_any (a x y t : Int) (ws : List Int) (A : Option Addr) (c : Nat) (w : World) (h : M7 F bm C max w) (hC : C.length ≤ 1000000) (hm0 : (C.length : Int) ≤ max) (hm : max ≤ 65536) (hq : w.ownsRow 0 2 1 (.slice A ws.length c) ws.length (ws.map (Value.int .i64))) (hql : ws.length ≤ 1000000) :
    Calls Tryz.prog 96 #[.pointer (some ⟨bm, 0, none⟩), .agg #[.int .i64 1, .int .i64 a, .int .i64 x, .int .i64 y, .slice A ws.length c]] w (DoPost F bm C max ⟨1, a, x, y, ws, t⟩ w) := by
  have hx := Blk.new w 143 #[.int .i64 1, .int .i64 a, .int .i64 x, .int .i64 y, .slice A ws.length c]
  have hb := (Below.refl w.heap.size w).alloc (Nat.le_refl _) (.cells #[.int .i64 1, .int .i64 a, .int .i64 x, .int .i64 y, .slice A ws.length c] 143)
  have H1 := Lib.hid (h.below hb)
  have HQ1 := Lib.hid (own_below hq hb)
  have HB := Lib.hid hb
  have HX := Lib.hid hx
  clear hx hb hq h
  go_enter Tryz.func96, Tryz.ntmps96
  go_wp2_with (fail)
  generalize w.alloc (.cells #[.int .i64 1, .int .i64 a, .int .i64 x, .int .i64 y, .slice A ws.length c] 143) = w1 at H1 HQ1 HB HX ⊢
  with_reducible refine (read7_any F bm C max a w1 H1.out hC).mono ?_
  rintro e w2 ⟨rfl, hm2, hc2⟩
  have fb : F bm := by obtain ⟨_, _, _, _, h⟩ := H1.out; exact h.fb
  have HP : Hid (DoPost F bm C max ⟨1, a, x, y, ws, t⟩ w (.returned (.int .i64 (rdC C a))) w2) := Lib.hid (DoPost.mk (exQ_read rfl) HB.out hm2 (hc2.mono (fun z hz => hz ▸ fb)))
  clear hm2 hc2 H1 HQ1 HB HX
  go_wp2_with (fail)
  go_ret
  exact HP.out
set_option maxRecDepth 100000 in
set_option maxHeartbeats 1000000 in
theorem do2_any (a x y t : Int) (ws : List Int) (A : Option Addr) (c : Nat) (w : World) (h : M7 F bm C max w) (hC : C.length ≤ 1000000) (hm0 : (C.length : Int) ≤ max) (hm : max ≤ 65536) (hq : w.ownsRow 0 2 1 (.slice A ws.length c) ws.length (ws.map (Value.int .i64))) (hql : ws.length ≤ 1000000) :
    Calls Tryz.prog 96 #[.pointer (some ⟨bm, 0, none⟩), .agg #[.int .i64 2, .int .i64 a, .int .i64 x, .int .i64 y, .slice A ws.length c]] w (DoPost F bm C max ⟨2, a, x, y, ws, t⟩ w) := by
  have hx := Blk.new w 143 #[.int .i64 2, .int .i64 a, .int .i64 x, .int .i64 y, .slice A ws.length c]
  have hb := (Below.refl w.heap.size w).alloc (Nat.le_refl _) (.cells #[.int .i64 2, .int .i64 a, .int .i64 x, .int .i64 y, .slice A ws.length c] 143)
  have H1 := Lib.hid (h.below hb)
  have HQ1 := Lib.hid (own_below hq hb)
  have HB := Lib.hid hb
  have HX := Lib.hid hx
  clear hx hb hq h
  go_enter Tryz.func96, Tryz.ntmps96
  go_wp2_with (fail)
  generalize w.alloc (.cells #[.int .i64 2, .int .i64 a, .int .i64 x, .int .i64 y, .slice A ws.length c] 143) = w1 at H1 HQ1 HB HX ⊢
  with_reducible refine (write7_any F bm C max a x w1 H1.out hC).mono ?_
  rintro e w2 ⟨rfl, hm2, hc2⟩
  have HP : Hid (DoPost F bm C max ⟨2, a, x, y, ws, t⟩ w (.returned (.int .i64 0)) w2) := Lib.hid (DoPost.mk (exQ_write rfl) HB.out hm2 hc2)
  clear hm2 hc2 H1 HQ1 HB HX
  go_wp2_with (fail)
  go_ret
  exact HP.out
set_option maxRecDepth 100000 in
set_option maxHeartbeats 1000000 in
theorem do3_any (a x y t : Int) (ws : List Int) (A : Option Addr) (c : Nat) (w : World) (h : M7 F bm C max w) (hC : C.length ≤ 1000000) (hm0 : (C.length : Int) ≤ max) (hm : max ≤ 65536) (hq : w.ownsRow 0 2 1 (.slice A ws.length c) ws.length (ws.map (Value.int .i64))) (hql : ws.length ≤ 1000000) :
    Calls Tryz.prog 96 #[.pointer (some ⟨bm, 0, none⟩), .agg #[.int .i64 3, .int .i64 a, .int .i64 x, .int .i64 y, .slice A ws.length c]] w (DoPost F bm C max ⟨3, a, x, y, ws, t⟩ w) := by
  have hx := Blk.new w 143 #[.int .i64 3, .int .i64 a, .int .i64 x, .int .i64 y, .slice A ws.length c]
  have hb := (Below.refl w.heap.size w).alloc (Nat.le_refl _) (.cells #[.int .i64 3, .int .i64 a, .int .i64 x, .int .i64 y, .slice A ws.length c] 143)
  have H1 := Lib.hid (h.below hb)
  have HQ1 := Lib.hid (own_below hq hb)
  have HB := Lib.hid hb
  have HX := Lib.hid hx
  clear hx hb hq h
  go_enter Tryz.func96, Tryz.ntmps96
  go_wp2_with (fail)
  generalize w.alloc (.cells #[.int .i64 3, .int .i64 a, .int .i64 x, .int .i64 y, .slice A ws.length c] 143) = w1 at H1 HQ1 HB HX ⊢
  with_reducible refine (cas7_any F bm C max a x y w1 H1.out hC).mono ?_
  rintro e w2 ⟨rfl, hm2, hc2⟩
  have HP : Hid (DoPost F bm C max ⟨3, a, x, y, ws, t⟩ w (.returned (.int .i64 (if (casC C a x y).1 = true then 1 else 0))) w2) := Lib.hid (DoPost.mk (exQ_cas rfl) HB.out hm2 hc2)
  clear hm2 hc2 H1 HQ1 HB HX
  generalize (casC C a x y).1 = z at HP ⊢
  cases z with
  | true =>
    go_wp2_with (fail)
    go_ret
    exact HP.out
  | false =>
    go_wp2_with (fail)
    go_ret
    exact HP.out
set_option maxRecDepth 100000 in
set_option maxHeartbeats 1000000 in
theorem do4_any (a x y t : Int) (ws : List Int) (A : Option Addr) (c : Nat) (w : World) (h : M7 F bm C max w) (hC : C.length ≤ 1000000) (hm0 : (C.length : Int) ≤ max) (hm : max ≤ 65536) (hq : w.ownsRow 0 2 1 (.slice A ws.length c) ws.length (ws.map (Value.int .i64))) (hql : ws.length ≤ 1000000) :
    Calls Tryz.prog 96 #[.pointer (some ⟨bm, 0, none⟩), .agg #[.int .i64 4, .int .i64 a, .int .i64 x, .int .i64 y, .slice A ws.length c]] w (DoPost F bm C max ⟨4, a, x, y, ws, t⟩ w) := by
  have hx := Blk.new w 143 #[.int .i64 4, .int .i64 a, .int .i64 x, .int .i64 y, .slice A ws.length c]
  have hb := (Below.refl w.heap.size w).alloc (Nat.le_refl _) (.cells #[.int .i64 4, .int .i64 a, .int .i64 x, .int .i64 y, .slice A ws.length c] 143)
  have H1 := Lib.hid (h.below hb)
  have HQ1 := Lib.hid (own_below hq hb)
  have HB := Lib.hid hb
  have HX := Lib.hid hx
  clear hx hb hq h
  go_enter Tryz.func96, Tryz.ntmps96
  go_wp2_with (fail)
  generalize w.alloc (.cells #[.int .i64 4, .int .i64 a, .int .i64 x, .int .i64 y, .slice A ws.length c] 143) = w1 at H1 HQ1 HB HX ⊢
  with_reducible refine (add7_any F bm C max a x w1 H1.out hC).mono ?_
  rintro e w2 ⟨rfl, hm2, hc2⟩
  have HP : Hid (DoPost F bm C max ⟨4, a, x, y, ws, t⟩ w (.returned (.int .i64 (rdC C a))) w2) := Lib.hid (DoPost.mk (exQ_add rfl) HB.out hm2 hc2)
  clear hm2 hc2 H1 HQ1 HB HX
  go_wp2_with (fail)
  go_ret
  exact HP.out
set_option maxRecDepth 100000 in
set_option maxHeartbeats 1000000 in
theorem do5_any (a x y t : Int) (ws : List Int) (A : Option Addr) (c : Nat) (w : World) (h : M7 F bm C max w) (hC : C.length ≤ 1000000) (hm0 : (C.length : Int) ≤ max) (hm : max ≤ 65536) (hq : w.ownsRow 0 2 1 (.slice A ws.length c) ws.length (ws.map (Value.int .i64))) (hql : ws.length ≤ 1000000) :
    Calls Tryz.prog 96 #[.pointer (some ⟨bm, 0, none⟩), .agg #[.int .i64 5, .int .i64 a, .int .i64 x, .int .i64 y, .slice A ws.length c]] w (DoPost F bm C max ⟨5, a, x, y, ws, t⟩ w) := by
  have hx := Blk.new w 143 #[.int .i64 5, .int .i64 a, .int .i64 x, .int .i64 y, .slice A ws.length c]
  have hb := (Below.refl w.heap.size w).alloc (Nat.le_refl _) (.cells #[.int .i64 5, .int .i64 a, .int .i64 x, .int .i64 y, .slice A ws.length c] 143)
  have H1 := Lib.hid (h.below hb)
  have HQ1 := Lib.hid (own_below hq hb)
  have HB := Lib.hid hb
  have HX := Lib.hid hx
  clear hx hb hq h
  go_enter Tryz.func96, Tryz.ntmps96
  go_wp2_with (fail)
  generalize w.alloc (.cells #[.int .i64 5, .int .i64 a, .int .i64 x, .int .i64 y, .slice A ws.length c] 143) = w1 at H1 HQ1 HB HX ⊢
  with_reducible refine (make7_any F bm C max A c _ ws w1 rfl H1.out hC hm0 hm HQ1.out hql).mono ?_
  rintro e w2 ⟨rfl, hm2, hc2⟩
  have HP : Hid (DoPost F bm C max ⟨5, a, x, y, ws, t⟩ w (.returned (.int .i64 (mkC C max ws).1)) w2) := Lib.hid (by
    unfold DoPost
    rw [exQ_make rfl]
    exact ⟨rfl, hm2.mono (fun z hz => hz.imp id (fun hz => Nat.le_trans HB.out.size hz)), (Chg.of_below HB.out).trans hc2⟩)
  clear hm2 hc2 H1 HQ1 HB HX
  generalize (mkC C max ws).1 = z at HP ⊢
  go_wp2_with (fail)
  go_ret
  exact HP.out
theorem do_any (q : Ask) (qv : Value) (w : World) (h : M7 F bm C max w) (hC : C.length ≤ 1000000) (hm0 : (C.length : Int) ≤ max) (hm : max ≤ 65536) (hq : w.ownsRow 0 2 1 qv q.ws.length (q.ws.map (Value.int .i64))) (hk : q.Ok) :
    Calls Tryz.prog 96 #[.pointer (some ⟨bm, 0, none⟩), .agg #[.int .i64 q.kind, .int .i64 q.a, .int .i64 q.x, .int .i64 q.y, qv]] w (DoPost F bm C max q w) := by
  obtain ⟨A, c, rfl⟩ := own_shape hq
  obtain ⟨k, a, x, y, ws, t⟩ := q
  have k0 : 1 ≤ k := hk.k0
  have k1 : k ≤ 5 := hk.k1
  have hl : ws.length ≤ 1000000 := hk.len
  have : k = 1 ∨ k = 2 ∨ k = 3 ∨ k = 4 ∨ k = 5 := by omega
  rcases this with rfl | rfl | rfl | rfl | rfl
  · exact do1_any F bm C max a x y t ws A c w h hC hm0 hm hq hl
  · exact do2_any F bm C max a x y t ws A c w h hC hm0 hm hq hl
  · exact do3_any F bm C max a x y t ws A c w h hC hm0 hm hq hl
  · exact do4_any F bm C max a x y t ws A c w h hC hm0 hm hq hl
  · exact do5_any F bm C max a x y t ws A c w h hC hm0 hm hq hl
end
end Go.Proofs.YtblajeildolloaaGreat

/- The document's Frame: its blocks; low of Route and Seek. (Printed by genfrm.py.) -/
namespace Go.Proofs.YtblajeildolloaaGreat
set_option linter.unusedVariables false
set_option linter.unusedSimpArgs false
open Go.RowKit

/-- What a procedure is handed. -/
structure FX where
  proc : Int
  a : Int
  b : Int
  p : Int
  w : WQ
  spots : List (Int × Int)
  op : Op
/-- What a procedure came to. -/
structure FOut where
  word : Int
  ok : Bool
  n : Int
  m : Int
  value : Int
  pairs : List (Int × Int)
  spots : List (Int × Int)
  res : Res
def FOut.zero : FOut := ⟨0, false, 0, 0, 0, [], [], Res.none⟩
instance : Inhabited FOut := ⟨FOut.zero⟩
def ask0 : Ask := ⟨0, 0, 0, 0, [], 0⟩
/-- The procedure as a tree. -/
def FX.tree (x : FX) (N : Nat) : Prog FOut :=
  if x.proc = 15 then (routeP x.a x.p).bind fun r => .ret { FOut.zero with n := r.1, m := r.2 }
  else if x.proc = 16 then (seekP x.p N 1).bind fun r => .ret { FOut.zero with value := r.1, ok := r.2 }
  else if x.proc = 17 then (throughP x.w N 1 ⟨[], []⟩).bind fun r => .ret { FOut.zero with pairs := r.1.pairs, spots := r.1.spots }
  else if x.proc = 18 then (againP x.spots).bind fun b => .ret { FOut.zero with ok := b }
  else if x.proc = 24 then (changeP x.op N).bind fun r => .ret { FOut.zero with res := r }
  else if x.op.kind < 4 ∨ 10 < x.op.kind then .ret { FOut.zero with res := Res.err 5 }
  else if x.b < 1 ∨ 64 < x.b then .ret { FOut.zero with res := Res.err 2 }
  else (queryP N x.op x.b).bind fun r => .ret { FOut.zero with res := r }
def outV (o : FOut) (pv sv lv : Value) : Value := .agg #[.int .i64 o.word, .bool o.ok, .int .i64 o.n, .int .i64 o.m, .int .i64 o.value, pv, sv, .int .i64 o.res.why, .bool o.res.found, .int .i64 o.res.key, .int .i64 o.res.val, .int .i64 o.res.n, lv]
structure OutRows (F : Nat → Prop) (o : FOut) (pv sv lv : Value) (w : World) : Prop where
  prs : PrP F 52 pv o.pairs w
  sps : PrP F 114 sv o.spots w
  lst : PrP F 52 lv o.res.list w
structure FrQ (F : Nat → Prop) (fb : Nat) (x : FX) (T : List Int) (done : Bool) (o : FOut) (xv tv pv sv lv : Value) (rec laid : Int) (w : World) : Prop where
  ff : F fb
  blk : Blk w fb 58 #[.int .i64 x.proc, .int .i64 x.a, .int .i64 x.b, .int .i64 0, .int .i64 x.p, .int .i64 0, .int .i64 x.w.lo, .int .i64 x.w.hi, .bool x.w.back, .int .i64 x.w.most, .bool x.w.values, .slice none 0 0, .slice none 0 0, xv, .slice none 0 0, .slice none 0 0, .int .i64 0, .int .i64 0, .int .i64 0, .int .i64 x.op.kind, .int .i64 x.op.key, .int .i64 x.op.val, tv, .bool done, .int .i64 o.word, .bool o.ok, .int .i64 o.n, .int .i64 o.m, .int .i64 o.value, pv, sv, .int .i64 o.res.why, .bool o.res.found, .int .i64 o.res.key, .int .i64 o.res.val, .int .i64 o.res.n, lv, .int .i64 rec, .int .i64 laid]
  tape : w.ownsRow 0 2 1 tv T.length (T.map (Value.int .i64))
  ft : ∀ g, tv.ownBlock = some g → F g
  spots : PrP F 114 xv x.spots w
  rows : OutRows F o pv sv lv w
def FrP (F : Nat → Prop) (fb : Nat) (x : FX) (T : List Int) (done : Bool) (o : FOut) (w : World) : Prop := ∃ xv tv pv sv lv rec laid, FrQ F fb x T done o xv tv pv sv lv rec laid w
section
variable {F G : Nat → Prop} {fb : Nat} {x : FX} {T : List Int} {done : Bool} {o : FOut} {xv tv pv sv lv : Value} {rec laid : Int} {w w' : World}
theorem OutRows.mono (h : OutRows F o pv sv lv w) (hs : ∀ x, F x → G x) : OutRows G o pv sv lv w := ⟨h.prs.mono hs, h.sps.mono hs, h.lst.mono hs⟩
theorem OutRows.chg (h : OutRows F o pv sv lv w) (m : Chg G w w') (hd : ∀ x, F x → G x → False) : OutRows F o pv sv lv w' := ⟨h.prs.chg m hd, h.sps.chg m hd, h.lst.chg m hd⟩
theorem OutRows.keep (h : OutRows F o pv sv lv w) (m : Chg G w w') (hG : ∀ x, G x → ∃ t cs, Blk w x t cs ∧ t ≠ 52 ∧ t ≠ 114) : OutRows F o pv sv lv w' :=
  ⟨h.prs.keep m (fun x hx => by obtain ⟨t, cs, a, b, c⟩ := hG x hx; exact ⟨t, cs, a, b⟩), h.sps.keep m (fun x hx => by obtain ⟨t, cs, a, b, c⟩ := hG x hx; exact ⟨t, cs, a, c⟩), h.lst.keep m (fun x hx => by obtain ⟨t, cs, a, b, c⟩ := hG x hx; exact ⟨t, cs, a, b⟩)⟩
theorem OutRows.nil {r : FOut} (h1 : r.pairs = []) (h2 : r.spots = []) (h3 : r.res.list = []) : OutRows F r (.slice none 0 0) (.slice none 0 0) (.slice none 0 0) w := ⟨by rw [h1]; exact PrP.nil', by rw [h2]; exact PrP.nil', by rw [h3]; exact PrP.nil'⟩
theorem FrQ.mono (h : FrQ F fb x T done o xv tv pv sv lv rec laid w) (hs : ∀ x, F x → G x) : FrQ G fb x T done o xv tv pv sv lv rec laid w := ⟨hs _ h.ff, h.blk, h.tape, fun g hg => hs _ (h.ft g hg), h.spots.mono hs, h.rows.mono hs⟩
theorem FrQ.chg (h : FrQ F fb x T done o xv tv pv sv lv rec laid w) (m : Chg G w w') (hd : ∀ x, F x → G x → False) : FrQ F fb x T done o xv tv pv sv lv rec laid w' :=
  ⟨h.ff, m.blk h.blk (fun e => hd _ h.ff e), m.own h.tape (fun g hg e => hd _ (h.ft g hg) e), h.ft, h.spots.chg m hd, h.rows.chg m hd⟩
theorem FrQ.below (h : FrQ F fb x T done o xv tv pv sv lv rec laid w) (hb : Below w.heap.size w w') : FrQ F fb x T done o xv tv pv sv lv rec laid w' := h.chg (G := fun _ => False) (Chg.of_below hb) (fun _ _ hg => hg)
theorem FrP.mono (h : FrP F fb x T done o w) (hs : ∀ x, F x → G x) : FrP G fb x T done o w := by obtain ⟨a, b, c, d, e, f, g, h⟩ := h; exact ⟨a, b, c, d, e, f, g, h.mono hs⟩
theorem FrP.chg (h : FrP F fb x T done o w) (m : Chg G w w') (hd : ∀ x, F x → G x → False) : FrP F fb x T done o w' := by obtain ⟨a, b, c, d, e, f, g, h⟩ := h; exact ⟨a, b, c, d, e, f, g, h.chg m hd⟩
theorem FrP.below (h : FrP F fb x T done o w) (hb : Below w.heap.size w w') : FrP F fb x T done o w' := h.chg (G := fun _ => False) (Chg.of_below hb) (fun _ _ hg => hg)
theorem FrP.lt (h : FrP F fb x T done o w) : fb < w.heap.size := by obtain ⟨a, b, c, d, e, f, g, h⟩ := h; exact h.blk.lt
end
/-- A run is kept where nothing but blocks of other types has been turned. -/
theorem RunP.keep {F G : Nat → Prop} {rb : Nat} {s : RunS} {w w' : World} (h : RunP F rb s w) (m : Chg G w w') (hG : ∀ x, G x → ∃ t cs, Blk w x t cs ∧ t ≠ 145 ∧ t ≠ 2) : RunP F rb s w' := by
  obtain ⟨tv, wv, rec, laid, h⟩ := h
  refine ⟨tv, wv, rec, laid, h.fb, m.blk h.blk (fun hg => ?_), m.own h.tape (fun g hg hx => ?_), m.own h.ws (fun g hg hx => ?_), h.ft, h.fw⟩
  · obtain ⟨t, cs, hb, h1, h2⟩ := hG _ hg; exact hb.ne_ h.blk h1 rfl
  · obtain ⟨t, cs, hb, h1, h2⟩ := hG _ hx; exact own_blk_ne h.tape hb (fun e => h2 e.symm) hg
  · obtain ⟨t, cs, hb, h1, h2⟩ := hG _ hx; exact own_blk_ne h.ws hb (fun e => h2 e.symm) hg
/-- What low, mid and high come to. -/
def LowPost (Fr : Nat → Prop) (rb : Nat) (o : FOut) (s' : RunS) (w : World) (e : Ending) (w' : World) : Prop := ∃ pv sv lv, e = .returned (outV o pv sv lv) ∧ OutRows (fun x => w.heap.size ≤ x) o pv sv lv w' ∧ RAt Fr rb w s' w'
theorem Blk.setRow {w : World} {g : Nat} {t : TypeId} {old : Array Value} (h : Blk w g t old) (cs : Array Value) : Blk (w.setRow g cs) g t cs := setRow_heap w g old cs t (0, 0) h
theorem Chg.setRow (w : World) (g : Nat) (cs : Array Value) : Chg (fun x => x = g) w (w.setRow g cs) := ⟨rfl, rfl, rfl, by simp, fun k _ hk => setRow_other w g k cs hk⟩
section
set_option maxRecDepth 100000 in
set_option maxHeartbeats 4000000 in
theorem low15_any (F Fr : Nat → Prop) (fb rb : Nat) (x : FX) (N : Nat) (T : List Int) (done : Bool) (o o' : FOut) (s s' : RunS) (w : World) (h : FrP F fb x T done o w) (hr : RunP Fr rb s w) (d0 : s.Bd) (hp : x.proc = 15) (ha : i64B x.a) (hk : i64B x.p) (hf : s.left < N) (hg : (x.tree N).go s = (o', s')) :
    Calls Tryz.prog 153 #[.pointer (some ⟨fb, 0, none⟩), .pointer (some ⟨rb, 0, none⟩)] w (LowPost Fr rb o' s' w) := by
  obtain ⟨xv, tv, pv, sv, lv, rec, laid, h⟩ := h
  obtain ⟨xA, xc, rfl⟩ := own_shape h.spots.1
  have hg : ((routeP x.a x.p).bind fun r => Prog.ret { FOut.zero with n := r.1, m := r.2 }).go s = (o', s') := by unfold FX.tree at hg; rw [if_pos hp] at hg; exact hg
  obtain ⟨v1, s1, g1⟩ := go_ex (routeP x.a x.p) s
  rw [go_bind, g1] at hg
  obtain ⟨rfl, rfl⟩ := Prod.mk.inj hg
  have hrlt := hr.lt
  have hflt := h.blk.lt
  obtain ⟨AR, hAR⟩ : ∃ AR : List Value, AR = [.int .i64 x.a, .int .i64 x.b, .int .i64 0, .int .i64 x.p, .int .i64 0, .int .i64 x.w.lo, .int .i64 x.w.hi, .bool x.w.back, .int .i64 x.w.most, .bool x.w.values, .slice none 0 0, .slice none 0 0, .slice xA x.spots.length xc, .slice none 0 0, .slice none 0 0, .int .i64 0, .int .i64 0, .int .i64 0, .int .i64 x.op.kind, .int .i64 x.op.key, .int .i64 x.op.val] := ⟨_, rfl⟩
  have har0 : AR.toArray[0]? = some (.int .i64 x.a) := by rw [hAR]; rfl
  have har3 : AR.toArray[3]? = some (.int .i64 x.p) := by rw [hAR]; rfl
  have harl : AR.length = 21 := by rw [hAR]; rfl
  have haro : AR.toArray.all (·.oneCell') = true := by rw [hAR]; simp [Value.oneCell']
  have CP : Hid (∀ w', Below w.heap.size w w' → w'.cell? ⟨fb, 0, none⟩ = some (.int .i64 15)) := Lib.hid (fun w' hb => by rw [← hp]; exact (h.blk.below hb h.blk.lt).cell 0)
  have hz1 : (w.alloc (.cells #[.int .i64 0, .bool false, .int .i64 0, .int .i64 0, .int .i64 0, .slice none 0 0, .slice none 0 0, .int .i64 0, .bool false, .int .i64 0, .int .i64 0, .int .i64 0, .slice none 0 0] 56)).heap.size = w.heap.size + 1 := by simp
  have hz1b : ((w.alloc (.cells #[.int .i64 0, .bool false, .int .i64 0, .int .i64 0, .int .i64 0, .slice none 0 0, .slice none 0 0, .int .i64 0, .bool false, .int .i64 0, .int .i64 0, .int .i64 0, .slice none 0 0] 56)).alloc (.cells #[.int .i64 0, .int .i64 0, .int .i64 0, .int .i64 0, .int .i64 0, .int .i64 0, .int .i64 0, .bool false, .int .i64 0, .bool false, .slice none 0 0, .slice none 0 0, .slice none 0 0, .slice none 0 0, .slice none 0 0, .int .i64 0, .int .i64 0, .int .i64 0, .int .i64 0, .int .i64 0, .int .i64 0] 50)).heap.size = w.heap.size + 1 + 1 := by simp
  have hz2 : (((w.alloc (.cells #[.int .i64 0, .bool false, .int .i64 0, .int .i64 0, .int .i64 0, .slice none 0 0, .slice none 0 0, .int .i64 0, .bool false, .int .i64 0, .int .i64 0, .int .i64 0, .slice none 0 0] 56)).alloc (.cells #[.int .i64 0, .int .i64 0, .int .i64 0, .int .i64 0, .int .i64 0, .int .i64 0, .int .i64 0, .bool false, .int .i64 0, .bool false, .slice none 0 0, .slice none 0 0, .slice none 0 0, .slice none 0 0, .slice none 0 0, .int .i64 0, .int .i64 0, .int .i64 0, .int .i64 0, .int .i64 0, .int .i64 0] 50)).setRow (w.heap.size + 1) AR.toArray).heap.size = w.heap.size + 1 + 1 := by simp
  have hz3 : (((((w.alloc (.cells #[.int .i64 0, .bool false, .int .i64 0, .int .i64 0, .int .i64 0, .slice none 0 0, .slice none 0 0, .int .i64 0, .bool false, .int .i64 0, .int .i64 0, .int .i64 0, .slice none 0 0] 56)).alloc (.cells #[.int .i64 0, .int .i64 0, .int .i64 0, .int .i64 0, .int .i64 0, .int .i64 0, .int .i64 0, .bool false, .int .i64 0, .bool false, .slice none 0 0, .slice none 0 0, .slice none 0 0, .slice none 0 0, .slice none 0 0, .int .i64 0, .int .i64 0, .int .i64 0, .int .i64 0, .int .i64 0, .int .i64 0] 50)).setRow (w.heap.size + 1) AR.toArray).alloc (.cells #[.int .i64 0, .bool false, .int .i64 0, .int .i64 0, .int .i64 0, .slice none 0 0, .slice none 0 0, .int .i64 0, .bool false, .int .i64 0, .int .i64 0, .int .i64 0, .slice none 0 0] 56)).setRow (w.heap.size + 1 + 1) #[.int .i64 0, .bool false, .int .i64 0, .int .i64 0, .int .i64 0, .slice none 0 0, .slice none 0 0, .int .i64 0, .bool false, .int .i64 0, .int .i64 0, .int .i64 0, .slice none 0 0]).heap.size = w.heap.size + 3 := by simp
  have b1 : Below w.heap.size w (w.alloc (.cells #[.int .i64 0, .bool false, .int .i64 0, .int .i64 0, .int .i64 0, .slice none 0 0, .slice none 0 0, .int .i64 0, .bool false, .int .i64 0, .int .i64 0, .int .i64 0, .slice none 0 0] 56)) := (Below.refl w.heap.size w).alloc (Nat.le_refl _) _
  have b1b : Below w.heap.size w ((w.alloc (.cells #[.int .i64 0, .bool false, .int .i64 0, .int .i64 0, .int .i64 0, .slice none 0 0, .slice none 0 0, .int .i64 0, .bool false, .int .i64 0, .int .i64 0, .int .i64 0, .slice none 0 0] 56)).alloc (.cells #[.int .i64 0, .int .i64 0, .int .i64 0, .int .i64 0, .int .i64 0, .int .i64 0, .int .i64 0, .bool false, .int .i64 0, .bool false, .slice none 0 0, .slice none 0 0, .slice none 0 0, .slice none 0 0, .slice none 0 0, .int .i64 0, .int .i64 0, .int .i64 0, .int .i64 0, .int .i64 0, .int .i64 0] 50)) := b1.alloc b1.size _
  have b2 : Below w.heap.size w (((w.alloc (.cells #[.int .i64 0, .bool false, .int .i64 0, .int .i64 0, .int .i64 0, .slice none 0 0, .slice none 0 0, .int .i64 0, .bool false, .int .i64 0, .int .i64 0, .int .i64 0, .slice none 0 0] 56)).alloc (.cells #[.int .i64 0, .int .i64 0, .int .i64 0, .int .i64 0, .int .i64 0, .int .i64 0, .int .i64 0, .bool false, .int .i64 0, .bool false, .slice none 0 0, .slice none 0 0, .slice none 0 0, .slice none 0 0, .slice none 0 0, .int .i64 0, .int .i64 0, .int .i64 0, .int .i64 0, .int .i64 0, .int .i64 0] 50)).setRow (w.heap.size + 1) AR.toArray) := b1b.trans ((Chg.setRow _ _ _).below (fun y hy => by omega) (by omega))
  have b2b : Below w.heap.size w ((((w.alloc (.cells #[.int .i64 0, .bool false, .int .i64 0, .int .i64 0, .int .i64 0, .slice none 0 0, .slice none 0 0, .int .i64 0, .bool false, .int .i64 0, .int .i64 0, .int .i64 0, .slice none 0 0] 56)).alloc (.cells #[.int .i64 0, .int .i64 0, .int .i64 0, .int .i64 0, .int .i64 0, .int .i64 0, .int .i64 0, .bool false, .int .i64 0, .bool false, .slice none 0 0, .slice none 0 0, .slice none 0 0, .slice none 0 0, .slice none 0 0, .int .i64 0, .int .i64 0, .int .i64 0, .int .i64 0, .int .i64 0, .int .i64 0] 50)).setRow (w.heap.size + 1) AR.toArray).alloc (.cells #[.int .i64 0, .bool false, .int .i64 0, .int .i64 0, .int .i64 0, .slice none 0 0, .slice none 0 0, .int .i64 0, .bool false, .int .i64 0, .int .i64 0, .int .i64 0, .slice none 0 0] 56)) := b2.alloc b2.size _
  have b3 : Below w.heap.size w (((((w.alloc (.cells #[.int .i64 0, .bool false, .int .i64 0, .int .i64 0, .int .i64 0, .slice none 0 0, .slice none 0 0, .int .i64 0, .bool false, .int .i64 0, .int .i64 0, .int .i64 0, .slice none 0 0] 56)).alloc (.cells #[.int .i64 0, .int .i64 0, .int .i64 0, .int .i64 0, .int .i64 0, .int .i64 0, .int .i64 0, .bool false, .int .i64 0, .bool false, .slice none 0 0, .slice none 0 0, .slice none 0 0, .slice none 0 0, .slice none 0 0, .int .i64 0, .int .i64 0, .int .i64 0, .int .i64 0, .int .i64 0, .int .i64 0] 50)).setRow (w.heap.size + 1) AR.toArray).alloc (.cells #[.int .i64 0, .bool false, .int .i64 0, .int .i64 0, .int .i64 0, .slice none 0 0, .slice none 0 0, .int .i64 0, .bool false, .int .i64 0, .int .i64 0, .int .i64 0, .slice none 0 0] 56)).setRow (w.heap.size + 1 + 1) #[.int .i64 0, .bool false, .int .i64 0, .int .i64 0, .int .i64 0, .slice none 0 0, .slice none 0 0, .int .i64 0, .bool false, .int .i64 0, .int .i64 0, .int .i64 0, .slice none 0 0]) := b2b.trans ((Chg.setRow _ _ _).below (fun y hy => by omega) b2b.size)
  have t5b : Blk ((w.alloc (.cells #[.int .i64 0, .bool false, .int .i64 0, .int .i64 0, .int .i64 0, .slice none 0 0, .slice none 0 0, .int .i64 0, .bool false, .int .i64 0, .int .i64 0, .int .i64 0, .slice none 0 0] 56)).alloc (.cells #[.int .i64 0, .int .i64 0, .int .i64 0, .int .i64 0, .int .i64 0, .int .i64 0, .int .i64 0, .bool false, .int .i64 0, .bool false, .slice none 0 0, .slice none 0 0, .slice none 0 0, .slice none 0 0, .slice none 0 0, .int .i64 0, .int .i64 0, .int .i64 0, .int .i64 0, .int .i64 0, .int .i64 0] 50)) (w.heap.size + 1) 50 #[.int .i64 0, .int .i64 0, .int .i64 0, .int .i64 0, .int .i64 0, .int .i64 0, .int .i64 0, .bool false, .int .i64 0, .bool false, .slice none 0 0, .slice none 0 0, .slice none 0 0, .slice none 0 0, .slice none 0 0, .int .i64 0, .int .i64 0, .int .i64 0, .int .i64 0, .int .i64 0, .int .i64 0] := by
    have := Blk.new (w.alloc (.cells #[.int .i64 0, .bool false, .int .i64 0, .int .i64 0, .int .i64 0, .slice none 0 0, .slice none 0 0, .int .i64 0, .bool false, .int .i64 0, .int .i64 0, .int .i64 0, .slice none 0 0] 56)) 50 #[.int .i64 0, .int .i64 0, .int .i64 0, .int .i64 0, .int .i64 0, .int .i64 0, .int .i64 0, .bool false, .int .i64 0, .bool false, .slice none 0 0, .slice none 0 0, .slice none 0 0, .slice none 0 0, .slice none 0 0, .int .i64 0, .int .i64 0, .int .i64 0, .int .i64 0, .int .i64 0, .int .i64 0]
    rw [hz1] at this
    exact this
  have t5c : Blk (((w.alloc (.cells #[.int .i64 0, .bool false, .int .i64 0, .int .i64 0, .int .i64 0, .slice none 0 0, .slice none 0 0, .int .i64 0, .bool false, .int .i64 0, .int .i64 0, .int .i64 0, .slice none 0 0] 56)).alloc (.cells #[.int .i64 0, .int .i64 0, .int .i64 0, .int .i64 0, .int .i64 0, .int .i64 0, .int .i64 0, .bool false, .int .i64 0, .bool false, .slice none 0 0, .slice none 0 0, .slice none 0 0, .slice none 0 0, .slice none 0 0, .int .i64 0, .int .i64 0, .int .i64 0, .int .i64 0, .int .i64 0, .int .i64 0] 50)).setRow (w.heap.size + 1) AR.toArray) (w.heap.size + 1) 50 AR.toArray := t5b.setRow _
  have t6b : Blk ((((w.alloc (.cells #[.int .i64 0, .bool false, .int .i64 0, .int .i64 0, .int .i64 0, .slice none 0 0, .slice none 0 0, .int .i64 0, .bool false, .int .i64 0, .int .i64 0, .int .i64 0, .slice none 0 0] 56)).alloc (.cells #[.int .i64 0, .int .i64 0, .int .i64 0, .int .i64 0, .int .i64 0, .int .i64 0, .int .i64 0, .bool false, .int .i64 0, .bool false, .slice none 0 0, .slice none 0 0, .slice none 0 0, .slice none 0 0, .slice none 0 0, .int .i64 0, .int .i64 0, .int .i64 0, .int .i64 0, .int .i64 0, .int .i64 0] 50)).setRow (w.heap.size + 1) AR.toArray).alloc (.cells #[.int .i64 0, .bool false, .int .i64 0, .int .i64 0, .int .i64 0, .slice none 0 0, .slice none 0 0, .int .i64 0, .bool false, .int .i64 0, .int .i64 0, .int .i64 0, .slice none 0 0] 56)) (w.heap.size + 1 + 1) 56 #[.int .i64 0, .bool false, .int .i64 0, .int .i64 0, .int .i64 0, .slice none 0 0, .slice none 0 0, .int .i64 0, .bool false, .int .i64 0, .int .i64 0, .int .i64 0, .slice none 0 0] := by
    have := Blk.new (((w.alloc (.cells #[.int .i64 0, .bool false, .int .i64 0, .int .i64 0, .int .i64 0, .slice none 0 0, .slice none 0 0, .int .i64 0, .bool false, .int .i64 0, .int .i64 0, .int .i64 0, .slice none 0 0] 56)).alloc (.cells #[.int .i64 0, .int .i64 0, .int .i64 0, .int .i64 0, .int .i64 0, .int .i64 0, .int .i64 0, .bool false, .int .i64 0, .bool false, .slice none 0 0, .slice none 0 0, .slice none 0 0, .slice none 0 0, .slice none 0 0, .int .i64 0, .int .i64 0, .int .i64 0, .int .i64 0, .int .i64 0, .int .i64 0] 50)).setRow (w.heap.size + 1) AR.toArray) 56 #[.int .i64 0, .bool false, .int .i64 0, .int .i64 0, .int .i64 0, .slice none 0 0, .slice none 0 0, .int .i64 0, .bool false, .int .i64 0, .int .i64 0, .int .i64 0, .slice none 0 0]
    rw [hz2] at this
    exact this
  have t6 : Blk (((((w.alloc (.cells #[.int .i64 0, .bool false, .int .i64 0, .int .i64 0, .int .i64 0, .slice none 0 0, .slice none 0 0, .int .i64 0, .bool false, .int .i64 0, .int .i64 0, .int .i64 0, .slice none 0 0] 56)).alloc (.cells #[.int .i64 0, .int .i64 0, .int .i64 0, .int .i64 0, .int .i64 0, .int .i64 0, .int .i64 0, .bool false, .int .i64 0, .bool false, .slice none 0 0, .slice none 0 0, .slice none 0 0, .slice none 0 0, .slice none 0 0, .int .i64 0, .int .i64 0, .int .i64 0, .int .i64 0, .int .i64 0, .int .i64 0] 50)).setRow (w.heap.size + 1) AR.toArray).alloc (.cells #[.int .i64 0, .bool false, .int .i64 0, .int .i64 0, .int .i64 0, .slice none 0 0, .slice none 0 0, .int .i64 0, .bool false, .int .i64 0, .int .i64 0, .int .i64 0, .slice none 0 0] 56)).setRow (w.heap.size + 1 + 1) #[.int .i64 0, .bool false, .int .i64 0, .int .i64 0, .int .i64 0, .slice none 0 0, .slice none 0 0, .int .i64 0, .bool false, .int .i64 0, .int .i64 0, .int .i64 0, .slice none 0 0]) (w.heap.size + 1 + 1) 56 #[.int .i64 0, .bool false, .int .i64 0, .int .i64 0, .int .i64 0, .slice none 0 0, .slice none 0 0, .int .i64 0, .bool false, .int .i64 0, .int .i64 0, .int .i64 0, .slice none 0 0] := t6b.setRow _
  have t5 : Blk (((((w.alloc (.cells #[.int .i64 0, .bool false, .int .i64 0, .int .i64 0, .int .i64 0, .slice none 0 0, .slice none 0 0, .int .i64 0, .bool false, .int .i64 0, .int .i64 0, .int .i64 0, .slice none 0 0] 56)).alloc (.cells #[.int .i64 0, .int .i64 0, .int .i64 0, .int .i64 0, .int .i64 0, .int .i64 0, .int .i64 0, .bool false, .int .i64 0, .bool false, .slice none 0 0, .slice none 0 0, .slice none 0 0, .slice none 0 0, .slice none 0 0, .int .i64 0, .int .i64 0, .int .i64 0, .int .i64 0, .int .i64 0, .int .i64 0] 50)).setRow (w.heap.size + 1) AR.toArray).alloc (.cells #[.int .i64 0, .bool false, .int .i64 0, .int .i64 0, .int .i64 0, .slice none 0 0, .slice none 0 0, .int .i64 0, .bool false, .int .i64 0, .int .i64 0, .int .i64 0, .slice none 0 0] 56)).setRow (w.heap.size + 1 + 1) #[.int .i64 0, .bool false, .int .i64 0, .int .i64 0, .int .i64 0, .slice none 0 0, .slice none 0 0, .int .i64 0, .bool false, .int .i64 0, .int .i64 0, .int .i64 0, .slice none 0 0]) (w.heap.size + 1) 50 AR.toArray := (Chg.setRow ((((w.alloc (.cells #[.int .i64 0, .bool false, .int .i64 0, .int .i64 0, .int .i64 0, .slice none 0 0, .slice none 0 0, .int .i64 0, .bool false, .int .i64 0, .int .i64 0, .int .i64 0, .slice none 0 0] 56)).alloc (.cells #[.int .i64 0, .int .i64 0, .int .i64 0, .int .i64 0, .int .i64 0, .int .i64 0, .int .i64 0, .bool false, .int .i64 0, .bool false, .slice none 0 0, .slice none 0 0, .slice none 0 0, .slice none 0 0, .slice none 0 0, .int .i64 0, .int .i64 0, .int .i64 0, .int .i64 0, .int .i64 0, .int .i64 0] 50)).setRow (w.heap.size + 1) AR.toArray).alloc (.cells #[.int .i64 0, .bool false, .int .i64 0, .int .i64 0, .int .i64 0, .slice none 0 0, .slice none 0 0, .int .i64 0, .bool false, .int .i64 0, .int .i64 0, .int .i64 0, .slice none 0 0] 56)) (w.heap.size + 1 + 1) #[.int .i64 0, .bool false, .int .i64 0, .int .i64 0, .int .i64 0, .slice none 0 0, .slice none 0 0, .int .i64 0, .bool false, .int .i64 0, .int .i64 0, .int .i64 0, .slice none 0 0]).blk (t5c.below ((Below.refl (((w.alloc (.cells #[.int .i64 0, .bool false, .int .i64 0, .int .i64 0, .int .i64 0, .slice none 0 0, .slice none 0 0, .int .i64 0, .bool false, .int .i64 0, .int .i64 0, .int .i64 0, .slice none 0 0] 56)).alloc (.cells #[.int .i64 0, .int .i64 0, .int .i64 0, .int .i64 0, .int .i64 0, .int .i64 0, .int .i64 0, .bool false, .int .i64 0, .bool false, .slice none 0 0, .slice none 0 0, .slice none 0 0, .slice none 0 0, .slice none 0 0, .int .i64 0, .int .i64 0, .int .i64 0, .int .i64 0, .int .i64 0, .int .i64 0] 50)).setRow (w.heap.size + 1) AR.toArray).heap.size (((w.alloc (.cells #[.int .i64 0, .bool false, .int .i64 0, .int .i64 0, .int .i64 0, .slice none 0 0, .slice none 0 0, .int .i64 0, .bool false, .int .i64 0, .int .i64 0, .int .i64 0, .slice none 0 0] 56)).alloc (.cells #[.int .i64 0, .int .i64 0, .int .i64 0, .int .i64 0, .int .i64 0, .int .i64 0, .int .i64 0, .bool false, .int .i64 0, .bool false, .slice none 0 0, .slice none 0 0, .slice none 0 0, .slice none 0 0, .slice none 0 0, .int .i64 0, .int .i64 0, .int .i64 0, .int .i64 0, .int .i64 0, .int .i64 0] 50)).setRow (w.heap.size + 1) AR.toArray)).alloc (Nat.le_refl _) (.cells #[.int .i64 0, .bool false, .int .i64 0, .int .i64 0, .int .i64 0, .slice none 0 0, .slice none 0 0, .int .i64 0, .bool false, .int .i64 0, .int .i64 0, .int .i64 0, .slice none 0 0] 56)) t5c.lt) (by omega)
  have t4 : Blk (((((w.alloc (.cells #[.int .i64 0, .bool false, .int .i64 0, .int .i64 0, .int .i64 0, .slice none 0 0, .slice none 0 0, .int .i64 0, .bool false, .int .i64 0, .int .i64 0, .int .i64 0, .slice none 0 0] 56)).alloc (.cells #[.int .i64 0, .int .i64 0, .int .i64 0, .int .i64 0, .int .i64 0, .int .i64 0, .int .i64 0, .bool false, .int .i64 0, .bool false, .slice none 0 0, .slice none 0 0, .slice none 0 0, .slice none 0 0, .slice none 0 0, .int .i64 0, .int .i64 0, .int .i64 0, .int .i64 0, .int .i64 0, .int .i64 0] 50)).setRow (w.heap.size + 1) AR.toArray).alloc (.cells #[.int .i64 0, .bool false, .int .i64 0, .int .i64 0, .int .i64 0, .slice none 0 0, .slice none 0 0, .int .i64 0, .bool false, .int .i64 0, .int .i64 0, .int .i64 0, .slice none 0 0] 56)).setRow (w.heap.size + 1 + 1) #[.int .i64 0, .bool false, .int .i64 0, .int .i64 0, .int .i64 0, .slice none 0 0, .slice none 0 0, .int .i64 0, .bool false, .int .i64 0, .int .i64 0, .int .i64 0, .slice none 0 0]) w.heap.size 56 #[.int .i64 0, .bool false, .int .i64 0, .int .i64 0, .int .i64 0, .slice none 0 0, .slice none 0 0, .int .i64 0, .bool false, .int .i64 0, .int .i64 0, .int .i64 0, .slice none 0 0] := by
    have h1 := Blk.new w 56 #[.int .i64 0, .bool false, .int .i64 0, .int .i64 0, .int .i64 0, .slice none 0 0, .slice none 0 0, .int .i64 0, .bool false, .int .i64 0, .int .i64 0, .int .i64 0, .slice none 0 0]
    have h2 := h1.below ((Below.refl (w.alloc (.cells #[.int .i64 0, .bool false, .int .i64 0, .int .i64 0, .int .i64 0, .slice none 0 0, .slice none 0 0, .int .i64 0, .bool false, .int .i64 0, .int .i64 0, .int .i64 0, .slice none 0 0] 56)).heap.size (w.alloc (.cells #[.int .i64 0, .bool false, .int .i64 0, .int .i64 0, .int .i64 0, .slice none 0 0, .slice none 0 0, .int .i64 0, .bool false, .int .i64 0, .int .i64 0, .int .i64 0, .slice none 0 0] 56))).alloc (Nat.le_refl _) (.cells #[.int .i64 0, .int .i64 0, .int .i64 0, .int .i64 0, .int .i64 0, .int .i64 0, .int .i64 0, .bool false, .int .i64 0, .bool false, .slice none 0 0, .slice none 0 0, .slice none 0 0, .slice none 0 0, .slice none 0 0, .int .i64 0, .int .i64 0, .int .i64 0, .int .i64 0, .int .i64 0, .int .i64 0] 50)) h1.lt
    have h3 := (Chg.setRow ((w.alloc (.cells #[.int .i64 0, .bool false, .int .i64 0, .int .i64 0, .int .i64 0, .slice none 0 0, .slice none 0 0, .int .i64 0, .bool false, .int .i64 0, .int .i64 0, .int .i64 0, .slice none 0 0] 56)).alloc (.cells #[.int .i64 0, .int .i64 0, .int .i64 0, .int .i64 0, .int .i64 0, .int .i64 0, .int .i64 0, .bool false, .int .i64 0, .bool false, .slice none 0 0, .slice none 0 0, .slice none 0 0, .slice none 0 0, .slice none 0 0, .int .i64 0, .int .i64 0, .int .i64 0, .int .i64 0, .int .i64 0, .int .i64 0] 50)) (w.heap.size + 1) AR.toArray).blk h2 (by omega)
    have h4 := h3.below ((Below.refl (((w.alloc (.cells #[.int .i64 0, .bool false, .int .i64 0, .int .i64 0, .int .i64 0, .slice none 0 0, .slice none 0 0, .int .i64 0, .bool false, .int .i64 0, .int .i64 0, .int .i64 0, .slice none 0 0] 56)).alloc (.cells #[.int .i64 0, .int .i64 0, .int .i64 0, .int .i64 0, .int .i64 0, .int .i64 0, .int .i64 0, .bool false, .int .i64 0, .bool false, .slice none 0 0, .slice none 0 0, .slice none 0 0, .slice none 0 0, .slice none 0 0, .int .i64 0, .int .i64 0, .int .i64 0, .int .i64 0, .int .i64 0, .int .i64 0] 50)).setRow (w.heap.size + 1) AR.toArray).heap.size (((w.alloc (.cells #[.int .i64 0, .bool false, .int .i64 0, .int .i64 0, .int .i64 0, .slice none 0 0, .slice none 0 0, .int .i64 0, .bool false, .int .i64 0, .int .i64 0, .int .i64 0, .slice none 0 0] 56)).alloc (.cells #[.int .i64 0, .int .i64 0, .int .i64 0, .int .i64 0, .int .i64 0, .int .i64 0, .int .i64 0, .bool false, .int .i64 0, .bool false, .slice none 0 0, .slice none 0 0, .slice none 0 0, .slice none 0 0, .slice none 0 0, .int .i64 0, .int .i64 0, .int .i64 0, .int .i64 0, .int .i64 0, .int .i64 0] 50)).setRow (w.heap.size + 1) AR.toArray)).alloc (Nat.le_refl _) (.cells #[.int .i64 0, .bool false, .int .i64 0, .int .i64 0, .int .i64 0, .slice none 0 0, .slice none 0 0, .int .i64 0, .bool false, .int .i64 0, .int .i64 0, .int .i64 0, .slice none 0 0] 56)) h3.lt
    exact (Chg.setRow ((((w.alloc (.cells #[.int .i64 0, .bool false, .int .i64 0, .int .i64 0, .int .i64 0, .slice none 0 0, .slice none 0 0, .int .i64 0, .bool false, .int .i64 0, .int .i64 0, .int .i64 0, .slice none 0 0] 56)).alloc (.cells #[.int .i64 0, .int .i64 0, .int .i64 0, .int .i64 0, .int .i64 0, .int .i64 0, .int .i64 0, .bool false, .int .i64 0, .bool false, .slice none 0 0, .slice none 0 0, .slice none 0 0, .slice none 0 0, .slice none 0 0, .int .i64 0, .int .i64 0, .int .i64 0, .int .i64 0, .int .i64 0, .int .i64 0] 50)).setRow (w.heap.size + 1) AR.toArray).alloc (.cells #[.int .i64 0, .bool false, .int .i64 0, .int .i64 0, .int .i64 0, .slice none 0 0, .slice none 0 0, .int .i64 0, .bool false, .int .i64 0, .int .i64 0, .int .i64 0, .slice none 0 0] 56)) (w.heap.size + 1 + 1) #[.int .i64 0, .bool false, .int .i64 0, .int .i64 0, .int .i64 0, .slice none 0 0, .slice none 0 0, .int .i64 0, .bool false, .int .i64 0, .int .i64 0, .int .i64 0, .slice none 0 0]).blk h4 (by omega)
  have hra : (w.alloc (.cells #[.int .i64 0, .bool false, .int .i64 0, .int .i64 0, .int .i64 0, .slice none 0 0, .slice none 0 0, .int .i64 0, .bool false, .int .i64 0, .int .i64 0, .int .i64 0, .slice none 0 0] 56)).rangeAt fb 1 AR := fun j u hu => by
    rw [hAR] at hu
    have := (h.blk.below (b1.mono (Nat.le_refl _)) h.blk.lt).cell (1 + j)
    rw [this]
    have e : (1 + j) = j + 1 := by omega
    rw [e]
    have hj : j < 21 := by
      rcases Nat.lt_or_ge j 21 with g | g
      · exact g
      · rw [List.getElem?_eq_none (by simpa using g)] at hu; cases hu
    match j, hj, hu with
    | 0, _, hu => exact hu
    | 1, _, hu => exact hu
    | 2, _, hu => exact hu
    | 3, _, hu => exact hu
    | 4, _, hu => exact hu
    | 5, _, hu => exact hu
    | 6, _, hu => exact hu
    | 7, _, hu => exact hu
    | 8, _, hu => exact hu
    | 9, _, hu => exact hu
    | 10, _, hu => exact hu
    | 11, _, hu => exact hu
    | 12, _, hu => exact hu
    | 13, _, hu => exact hu
    | 14, _, hu => exact hu
    | 15, _, hu => exact hu
    | 16, _, hu => exact hu
    | 17, _, hu => exact hu
    | 18, _, hu => exact hu
    | 19, _, hu => exact hu
    | 20, _, hu => exact hu
  have RA := Lib.hid hra
  have HF := Lib.hid hf
  have HIA : Hid ((Tryz.prog.info? 50).map (·.size) = some AR.length) := Lib.hid (by rw [harl]; kernel_rfl)
  have HIB : Hid ((Tryz.prog.info? 50).map (·.size) = some AR.toArray.size) := Lib.hid (by rw [List.size_toArray, harl]; kernel_rfl)
  have HIC : Hid ((#[.int .i64 0, .int .i64 0, .int .i64 0, .int .i64 0, .int .i64 0, .int .i64 0, .int .i64 0, .bool false, .int .i64 0, .bool false, .slice none 0 0, .slice none 0 0, .slice none 0 0, .slice none 0 0, .slice none 0 0, .int .i64 0, .int .i64 0, .int .i64 0, .int .i64 0, .int .i64 0, .int .i64 0] : Array Value).size = AR.toArray.size) := Lib.hid (by show 21 = AR.toArray.size; rw [List.size_toArray, harl])
  have HID := Lib.hid haro
  have a0 : (((((w.alloc (.cells #[.int .i64 0, .bool false, .int .i64 0, .int .i64 0, .int .i64 0, .slice none 0 0, .slice none 0 0, .int .i64 0, .bool false, .int .i64 0, .int .i64 0, .int .i64 0, .slice none 0 0] 56)).alloc (.cells #[.int .i64 0, .int .i64 0, .int .i64 0, .int .i64 0, .int .i64 0, .int .i64 0, .int .i64 0, .bool false, .int .i64 0, .bool false, .slice none 0 0, .slice none 0 0, .slice none 0 0, .slice none 0 0, .slice none 0 0, .int .i64 0, .int .i64 0, .int .i64 0, .int .i64 0, .int .i64 0, .int .i64 0] 50)).setRow (w.heap.size + 1) AR.toArray).alloc (.cells #[.int .i64 0, .bool false, .int .i64 0, .int .i64 0, .int .i64 0, .slice none 0 0, .slice none 0 0, .int .i64 0, .bool false, .int .i64 0, .int .i64 0, .int .i64 0, .slice none 0 0] 56)).setRow (w.heap.size + 1 + 1) #[.int .i64 0, .bool false, .int .i64 0, .int .i64 0, .int .i64 0, .slice none 0 0, .slice none 0 0, .int .i64 0, .bool false, .int .i64 0, .int .i64 0, .int .i64 0, .slice none 0 0]).cell? ⟨w.heap.size + 1, 0, none⟩ = some (.int .i64 x.a) := (t5.cell 0).trans har0
  have a3 : (((((w.alloc (.cells #[.int .i64 0, .bool false, .int .i64 0, .int .i64 0, .int .i64 0, .slice none 0 0, .slice none 0 0, .int .i64 0, .bool false, .int .i64 0, .int .i64 0, .int .i64 0, .slice none 0 0] 56)).alloc (.cells #[.int .i64 0, .int .i64 0, .int .i64 0, .int .i64 0, .int .i64 0, .int .i64 0, .int .i64 0, .bool false, .int .i64 0, .bool false, .slice none 0 0, .slice none 0 0, .slice none 0 0, .slice none 0 0, .slice none 0 0, .int .i64 0, .int .i64 0, .int .i64 0, .int .i64 0, .int .i64 0, .int .i64 0] 50)).setRow (w.heap.size + 1) AR.toArray).alloc (.cells #[.int .i64 0, .bool false, .int .i64 0, .int .i64 0, .int .i64 0, .slice none 0 0, .slice none 0 0, .int .i64 0, .bool false, .int .i64 0, .int .i64 0, .int .i64 0, .slice none 0 0] 56)).setRow (w.heap.size + 1 + 1) #[.int .i64 0, .bool false, .int .i64 0, .int .i64 0, .int .i64 0, .slice none 0 0, .slice none 0 0, .int .i64 0, .bool false, .int .i64 0, .int .i64 0, .int .i64 0, .slice none 0 0]).cell? ⟨w.heap.size + 1, 3, none⟩ = some (.int .i64 x.p) := (t5.cell 3).trans har3
  clear har0 har3 harl haro hAR
  have HT5 := Lib.hid t5b
  have HT6 := Lib.hid t6b
  clear hra t5b t5c t6b b1 b1b b2 b2b hz1 hz1b hz2
  have c03 : (((((w.alloc (.cells #[.int .i64 0, .bool false, .int .i64 0, .int .i64 0, .int .i64 0, .slice none 0 0, .slice none 0 0, .int .i64 0, .bool false, .int .i64 0, .int .i64 0, .int .i64 0, .slice none 0 0] 56)).alloc (.cells #[.int .i64 0, .int .i64 0, .int .i64 0, .int .i64 0, .int .i64 0, .int .i64 0, .int .i64 0, .bool false, .int .i64 0, .bool false, .slice none 0 0, .slice none 0 0, .slice none 0 0, .slice none 0 0, .slice none 0 0, .int .i64 0, .int .i64 0, .int .i64 0, .int .i64 0, .int .i64 0, .int .i64 0] 50)).setRow (w.heap.size + 1) AR.toArray).alloc (.cells #[.int .i64 0, .bool false, .int .i64 0, .int .i64 0, .int .i64 0, .slice none 0 0, .slice none 0 0, .int .i64 0, .bool false, .int .i64 0, .int .i64 0, .int .i64 0, .slice none 0 0] 56)).setRow (w.heap.size + 1 + 1) #[.int .i64 0, .bool false, .int .i64 0, .int .i64 0, .int .i64 0, .slice none 0 0, .slice none 0 0, .int .i64 0, .bool false, .int .i64 0, .int .i64 0, .int .i64 0, .slice none 0 0]).cell? ⟨fb, 0, none⟩ = some (.int .i64 15) := CP.out _ b3
  have HR := Lib.hid (hr.below b3)
  have HB3 := Lib.hid b3
  have HZ3 := Lib.hid hz3
  have H := Lib.hid h
  have G1 := Lib.hid g1
  have T4 := Lib.hid t4
  have T5 := Lib.hid t5
  have T6 := Lib.hid t6
  clear t4 t5 t6
  clear hr b3 hz3 h g1 hg hf hp
  go_enter Tryz.func153, Tryz.ntmps153
  go_wp2_with (first | ((with_reducible refine (show wpList _ _ _ ((Oper.mk (some 10) (.load _ _) _ _ _ _) :: _) _ _ from ?_)); refine wpList_load_mid rfl 50 (.tmp 9) rfl fb 1 rfl AR _ RA.out Tryz.underlying50 rfl (HIA.out) ?_) | ((with_reducible refine (show wpList _ _ _ ((Oper.mk none (.store _ (.tmp 5) _) _ _ _ _) :: _) _ _ from ?_)); refine wpList_store_row rfl 50 (.tmp 5) (.tmp 10) rfl (w.heap.size + 1) AR.toArray rfl rfl _ _ HT5.out (HIB.out) HIC.out HID.out ?_) | ((with_reducible refine (show wpList _ _ _ ((Oper.mk none (.store _ (.tmp 6) _) _ _ _ _) :: _) _ _ from ?_)); refine wpList_store_row rfl 56 (.tmp 6) (.tmp 11) rfl (w.heap.size + 1 + 1) #[.int .i64 0, .bool false, .int .i64 0, .int .i64 0, .int .i64 0, .slice none 0 0, .slice none 0 0, .int .i64 0, .bool false, .int .i64 0, .int .i64 0, .int .i64 0, .slice none 0 0] rfl rfl _ _ HT6.out (by kernel_rfl) rfl (by simp [Value.oneCell']) ?_))
  generalize (((((w.alloc (.cells #[.int .i64 0, .bool false, .int .i64 0, .int .i64 0, .int .i64 0, .slice none 0 0, .slice none 0 0, .int .i64 0, .bool false, .int .i64 0, .int .i64 0, .int .i64 0, .slice none 0 0] 56)).alloc (.cells #[.int .i64 0, .int .i64 0, .int .i64 0, .int .i64 0, .int .i64 0, .int .i64 0, .int .i64 0, .bool false, .int .i64 0, .bool false, .slice none 0 0, .slice none 0 0, .slice none 0 0, .slice none 0 0, .slice none 0 0, .int .i64 0, .int .i64 0, .int .i64 0, .int .i64 0, .int .i64 0, .int .i64 0] 50)).setRow (w.heap.size + 1) AR.toArray).alloc (.cells #[.int .i64 0, .bool false, .int .i64 0, .int .i64 0, .int .i64 0, .slice none 0 0, .slice none 0 0, .int .i64 0, .bool false, .int .i64 0, .int .i64 0, .int .i64 0, .slice none 0 0] 56)).setRow (w.heap.size + 1 + 1) #[.int .i64 0, .bool false, .int .i64 0, .int .i64 0, .int .i64 0, .slice none 0 0, .slice none 0 0, .int .i64 0, .bool false, .int .i64 0, .int .i64 0, .int .i64 0, .slice none 0 0]) = w3 at HR HB3 HZ3 T4 T5 T6 c03 a0 a3 ⊢
  clear HT5 HT6 RA HIA HIB HIC HID
  with_reducible refine (routeR_any Fr rb w3 s s1 v1 x.a x.p w3 (RAt.refl HR.out) d0 G1.out ha hk).mono ?_
  rintro e w4 ⟨rfl, h4⟩
  have H4 := Lib.hid h4
  have hne4 : ¬ (w.heap.size = rb) := by omega
  have hne6 : ¬ (w.heap.size + 1 + 1 = rb) := by omega
  have T44 := Lib.hid (h4.2.blk T4.out hne4)
  have T66 := Lib.hid (h4.2.blk T6.out hne6)
  clear h4 HR T4 T5 T6 a0 a3 c03
  have q2 : w4.cell? ⟨w.heap.size + 1 + 1, 2, none⟩ = some (.int .i64 0) := T66.out.cell 2
  have r2 := T66.out.frozen 2
  have t6a := T66.out.set_ 2 (.int .i64 v1.1)
  have q3 : (w4.setCell ⟨w.heap.size + 1 + 1, 2, none⟩ (.int .i64 v1.1)).cell? ⟨w.heap.size + 1 + 1, 3, none⟩ = some (.int .i64 0) := t6a.cell 3
  have r3 := t6a.frozen 3
  have t6b := t6a.set_ 3 (.int .i64 v1.2)
  have hn46 : w.heap.size ≠ w.heap.size + 1 + 1 := by omega
  have t4b := (T44.out.far (p := ⟨w.heap.size + 1 + 1, 2, none⟩) hn46 (.int .i64 v1.1)).far (p := ⟨w.heap.size + 1 + 1, 3, none⟩) hn46 (.int .i64 v1.2)
  have hc5 : Chg (fun y => y = w.heap.size + 1 + 1) w4 ((w4.setCell ⟨w.heap.size + 1 + 1, 2, none⟩ (.int .i64 v1.1)).setCell ⟨w.heap.size + 1 + 1, 3, none⟩ (.int .i64 v1.2)) := (Chg.set1 w4 (w.heap.size + 1 + 1) 2 (.int .i64 v1.1)).trans (Chg.set1 _ (w.heap.size + 1 + 1) 3 (.int .i64 v1.2))
  have HC5 := Lib.hid hc5
  have T4B := Lib.hid t4b
  have T6B := Lib.hid t6b
  clear t6a t6b t4b hc5
  go_wp2_with (first | ((with_reducible refine (show wpList _ _ _ ((Oper.mk (some 73) (.load _ _) _ _ _ _) :: _) _ _ from ?_)); refine wpList_load_row rfl 56 (.tmp 6) rfl (w.heap.size + 1 + 1) rfl _ _ (0, 0) _ T6B.out Tryz.underlying56 rfl (by kernel_rfl) ?_) | ((with_reducible refine (show wpList _ _ _ ((Oper.mk none (.store _ (.tmp 4) _) _ _ _ _) :: _) _ _ from ?_)); refine wpList_store_row rfl 56 (.tmp 4) (.tmp 73) rfl w.heap.size #[.int .i64 0, .bool false, .int .i64 v1.1, .int .i64 v1.2, .int .i64 0, .slice none 0 0, .slice none 0 0, .int .i64 0, .bool false, .int .i64 0, .int .i64 0, .int .i64 0, .slice none 0 0] rfl rfl _ _ T4B.out (by kernel_rfl) rfl (by simp [Value.oneCell']) ?_))
  refine bodyPost_ret (v := .agg #[.int .i64 0, .bool false, .int .i64 v1.1, .int .i64 v1.2, .int .i64 0, .slice none 0 0, .slice none 0 0, .int .i64 0, .bool false, .int .i64 0, .int .i64 0, .int .i64 0, .slice none 0 0]) (results_cell_row rfl _ _ w.heap.size _ _ (0, 0) _ rfl (T4B.out.setRow _) Tryz.underlying56 rfl (by kernel_rfl)) rfl ?_
  have hc6 : Chg (fun y => y = w.heap.size) ((w4.setCell ⟨w.heap.size + 1 + 1, 2, none⟩ (.int .i64 v1.1)).setCell ⟨w.heap.size + 1 + 1, 3, none⟩ (.int .i64 v1.2)) (((w4.setCell ⟨w.heap.size + 1 + 1, 2, none⟩ (.int .i64 v1.1)).setCell ⟨w.heap.size + 1 + 1, 3, none⟩ (.int .i64 v1.2)).setRow w.heap.size #[.int .i64 0, .bool false, .int .i64 v1.1, .int .i64 v1.2, .int .i64 0, .slice none 0 0, .slice none 0 0, .int .i64 0, .bool false, .int .i64 0, .int .i64 0, .int .i64 0, .slice none 0 0]) := Chg.setRow _ _ _
  have hcc : Chg (fun y => y = w.heap.size ∨ y = w.heap.size + 1 + 1) w4 (((w4.setCell ⟨w.heap.size + 1 + 1, 2, none⟩ (.int .i64 v1.1)).setCell ⟨w.heap.size + 1 + 1, 3, none⟩ (.int .i64 v1.2)).setRow w.heap.size #[.int .i64 0, .bool false, .int .i64 v1.1, .int .i64 v1.2, .int .i64 0, .slice none 0 0, .slice none 0 0, .int .i64 0, .bool false, .int .i64 0, .int .i64 0, .int .i64 0, .slice none 0 0]) := (HC5.out.mono (fun y hy => .inr hy)).trans (hc6.mono (fun y hy => .inl hy))
  have hz3 := HZ3.out
  refine ⟨.slice none 0 0, .slice none 0 0, .slice none 0 0, rfl, OutRows.nil rfl rfl rfl, ?_, ?_⟩
  · refine (H4.out.1.keep hcc (fun y hy => ?_)).mono (fun y hy => hy.imp id (fun h => by omega))
    rcases hy with rfl | rfl
    · exact ⟨_, _, T44.out, by decide, by decide⟩
    · exact ⟨_, _, T66.out, by decide, by decide⟩
  · exact ((Chg.of_below HB3.out).trans H4.out.2).grow hcc (fun y hy => by rcases hy with rfl | rfl <;> exact .inr (by omega))
end
section
set_option maxRecDepth 100000 in
set_option maxHeartbeats 4000000 in
theorem low16_any (F Fr : Nat → Prop) (fb rb : Nat) (x : FX) (N : Nat) (T : List Int) (done : Bool) (o o' : FOut) (s s' : RunS) (w : World) (h : FrP F fb x T done o w) (hr : RunP Fr rb s w) (d0 : s.Bd) (hp : x.proc = 16) (ha : i64B x.a) (hk : i64B x.p) (hf : s.left < N) (hg : (x.tree N).go s = (o', s')) :
    Calls Tryz.prog 153 #[.pointer (some ⟨fb, 0, none⟩), .pointer (some ⟨rb, 0, none⟩)] w (LowPost Fr rb o' s' w) := by
  obtain ⟨xv, tv, pv, sv, lv, rec, laid, h⟩ := h
  obtain ⟨xA, xc, rfl⟩ := own_shape h.spots.1
  have hg : ((seekP x.p N 1).bind fun r => Prog.ret { FOut.zero with value := r.1, ok := r.2 }).go s = (o', s') := by unfold FX.tree at hg; rw [if_neg (by omega), if_pos hp] at hg; exact hg
  obtain ⟨v1, s1, g1⟩ := go_ex (seekP x.p N 1) s
  rw [go_bind, g1] at hg
  obtain ⟨rfl, rfl⟩ := Prod.mk.inj hg
  have hrlt := hr.lt
  have hflt := h.blk.lt
  obtain ⟨AR, hAR⟩ : ∃ AR : List Value, AR = [.int .i64 x.a, .int .i64 x.b, .int .i64 0, .int .i64 x.p, .int .i64 0, .int .i64 x.w.lo, .int .i64 x.w.hi, .bool x.w.back, .int .i64 x.w.most, .bool x.w.values, .slice none 0 0, .slice none 0 0, .slice xA x.spots.length xc, .slice none 0 0, .slice none 0 0, .int .i64 0, .int .i64 0, .int .i64 0, .int .i64 x.op.kind, .int .i64 x.op.key, .int .i64 x.op.val] := ⟨_, rfl⟩
  have har0 : AR.toArray[0]? = some (.int .i64 x.a) := by rw [hAR]; rfl
  have har3 : AR.toArray[3]? = some (.int .i64 x.p) := by rw [hAR]; rfl
  have harl : AR.length = 21 := by rw [hAR]; rfl
  have haro : AR.toArray.all (·.oneCell') = true := by rw [hAR]; simp [Value.oneCell']
  have CP : Hid (∀ w', Below w.heap.size w w' → w'.cell? ⟨fb, 0, none⟩ = some (.int .i64 16)) := Lib.hid (fun w' hb => by rw [← hp]; exact (h.blk.below hb h.blk.lt).cell 0)
  have hz1 : (w.alloc (.cells #[.int .i64 0, .bool false, .int .i64 0, .int .i64 0, .int .i64 0, .slice none 0 0, .slice none 0 0, .int .i64 0, .bool false, .int .i64 0, .int .i64 0, .int .i64 0, .slice none 0 0] 56)).heap.size = w.heap.size + 1 := by simp
  have hz1b : ((w.alloc (.cells #[.int .i64 0, .bool false, .int .i64 0, .int .i64 0, .int .i64 0, .slice none 0 0, .slice none 0 0, .int .i64 0, .bool false, .int .i64 0, .int .i64 0, .int .i64 0, .slice none 0 0] 56)).alloc (.cells #[.int .i64 0, .int .i64 0, .int .i64 0, .int .i64 0, .int .i64 0, .int .i64 0, .int .i64 0, .bool false, .int .i64 0, .bool false, .slice none 0 0, .slice none 0 0, .slice none 0 0, .slice none 0 0, .slice none 0 0, .int .i64 0, .int .i64 0, .int .i64 0, .int .i64 0, .int .i64 0, .int .i64 0] 50)).heap.size = w.heap.size + 1 + 1 := by simp
  have hz2 : (((w.alloc (.cells #[.int .i64 0, .bool false, .int .i64 0, .int .i64 0, .int .i64 0, .slice none 0 0, .slice none 0 0, .int .i64 0, .bool false, .int .i64 0, .int .i64 0, .int .i64 0, .slice none 0 0] 56)).alloc (.cells #[.int .i64 0, .int .i64 0, .int .i64 0, .int .i64 0, .int .i64 0, .int .i64 0, .int .i64 0, .bool false, .int .i64 0, .bool false, .slice none 0 0, .slice none 0 0, .slice none 0 0, .slice none 0 0, .slice none 0 0, .int .i64 0, .int .i64 0, .int .i64 0, .int .i64 0, .int .i64 0, .int .i64 0] 50)).setRow (w.heap.size + 1) AR.toArray).heap.size = w.heap.size + 1 + 1 := by simp
  have hz3 : (((((w.alloc (.cells #[.int .i64 0, .bool false, .int .i64 0, .int .i64 0, .int .i64 0, .slice none 0 0, .slice none 0 0, .int .i64 0, .bool false, .int .i64 0, .int .i64 0, .int .i64 0, .slice none 0 0] 56)).alloc (.cells #[.int .i64 0, .int .i64 0, .int .i64 0, .int .i64 0, .int .i64 0, .int .i64 0, .int .i64 0, .bool false, .int .i64 0, .bool false, .slice none 0 0, .slice none 0 0, .slice none 0 0, .slice none 0 0, .slice none 0 0, .int .i64 0, .int .i64 0, .int .i64 0, .int .i64 0, .int .i64 0, .int .i64 0] 50)).setRow (w.heap.size + 1) AR.toArray).alloc (.cells #[.int .i64 0, .bool false, .int .i64 0, .int .i64 0, .int .i64 0, .slice none 0 0, .slice none 0 0, .int .i64 0, .bool false, .int .i64 0, .int .i64 0, .int .i64 0, .slice none 0 0] 56)).setRow (w.heap.size + 1 + 1) #[.int .i64 0, .bool false, .int .i64 0, .int .i64 0, .int .i64 0, .slice none 0 0, .slice none 0 0, .int .i64 0, .bool false, .int .i64 0, .int .i64 0, .int .i64 0, .slice none 0 0]).heap.size = w.heap.size + 3 := by simp
  have b1 : Below w.heap.size w (w.alloc (.cells #[.int .i64 0, .bool false, .int .i64 0, .int .i64 0, .int .i64 0, .slice none 0 0, .slice none 0 0, .int .i64 0, .bool false, .int .i64 0, .int .i64 0, .int .i64 0, .slice none 0 0] 56)) := (Below.refl w.heap.size w).alloc (Nat.le_refl _) _
  have b1b : Below w.heap.size w ((w.alloc (.cells #[.int .i64 0, .bool false, .int .i64 0, .int .i64 0, .int .i64 0, .slice none 0 0, .slice none 0 0, .int .i64 0, .bool false, .int .i64 0, .int .i64 0, .int .i64 0, .slice none 0 0] 56)).alloc (.cells #[.int .i64 0, .int .i64 0, .int .i64 0, .int .i64 0, .int .i64 0, .int .i64 0, .int .i64 0, .bool false, .int .i64 0, .bool false, .slice none 0 0, .slice none 0 0, .slice none 0 0, .slice none 0 0, .slice none 0 0, .int .i64 0, .int .i64 0, .int .i64 0, .int .i64 0, .int .i64 0, .int .i64 0] 50)) := b1.alloc b1.size _
  have b2 : Below w.heap.size w (((w.alloc (.cells #[.int .i64 0, .bool false, .int .i64 0, .int .i64 0, .int .i64 0, .slice none 0 0, .slice none 0 0, .int .i64 0, .bool false, .int .i64 0, .int .i64 0, .int .i64 0, .slice none 0 0] 56)).alloc (.cells #[.int .i64 0, .int .i64 0, .int .i64 0, .int .i64 0, .int .i64 0, .int .i64 0, .int .i64 0, .bool false, .int .i64 0, .bool false, .slice none 0 0, .slice none 0 0, .slice none 0 0, .slice none 0 0, .slice none 0 0, .int .i64 0, .int .i64 0, .int .i64 0, .int .i64 0, .int .i64 0, .int .i64 0] 50)).setRow (w.heap.size + 1) AR.toArray) := b1b.trans ((Chg.setRow _ _ _).below (fun y hy => by omega) (by omega))
  have b2b : Below w.heap.size w ((((w.alloc (.cells #[.int .i64 0, .bool false, .int .i64 0, .int .i64 0, .int .i64 0, .slice none 0 0, .slice none 0 0, .int .i64 0, .bool false, .int .i64 0, .int .i64 0, .int .i64 0, .slice none 0 0] 56)).alloc (.cells #[.int .i64 0, .int .i64 0, .int .i64 0, .int .i64 0, .int .i64 0, .int .i64 0, .int .i64 0, .bool false, .int .i64 0, .bool false, .slice none 0 0, .slice none 0 0, .slice none 0 0, .slice none 0 0, .slice none 0 0, .int .i64 0, .int .i64 0, .int .i64 0, .int .i64 0, .int .i64 0, .int .i64 0] 50)).setRow (w.heap.size + 1) AR.toArray).alloc (.cells #[.int .i64 0, .bool false, .int .i64 0, .int .i64 0, .int .i64 0, .slice none 0 0, .slice none 0 0, .int .i64 0, .bool false, .int .i64 0, .int .i64 0, .int .i64 0, .slice none 0 0] 56)) := b2.alloc b2.size _
  have b3 : Below w.heap.size w (((((w.alloc (.cells #[.int .i64 0, .bool false, .int .i64 0, .int .i64 0, .int .i64 0, .slice none 0 0, .slice none 0 0, .int .i64 0, .bool false, .int .i64 0, .int .i64 0, .int .i64 0, .slice none 0 0] 56)).alloc (.cells #[.int .i64 0, .int .i64 0, .int .i64 0, .int .i64 0, .int .i64 0, .int .i64 0, .int .i64 0, .bool false, .int .i64 0, .bool false, .slice none 0 0, .slice none 0 0, .slice none 0 0, .slice none 0 0, .slice none 0 0, .int .i64 0, .int .i64 0, .int .i64 0, .int .i64 0, .int .i64 0, .int .i64 0] 50)).setRow (w.heap.size + 1) AR.toArray).alloc (.cells #[.int .i64 0, .bool false, .int .i64 0, .int .i64 0, .int .i64 0, .slice none 0 0, .slice none 0 0, .int .i64 0, .bool false, .int .i64 0, .int .i64 0, .int .i64 0, .slice none 0 0] 56)).setRow (w.heap.size + 1 + 1) #[.int .i64 0, .bool false, .int .i64 0, .int .i64 0, .int .i64 0, .slice none 0 0, .slice none 0 0, .int .i64 0, .bool false, .int .i64 0, .int .i64 0, .int .i64 0, .slice none 0 0]) := b2b.trans ((Chg.setRow _ _ _).below (fun y hy => by omega) b2b.size)
  have t5b : Blk ((w.alloc (.cells #[.int .i64 0, .bool false, .int .i64 0, .int .i64 0, .int .i64 0, .slice none 0 0, .slice none 0 0, .int .i64 0, .bool false, .int .i64 0, .int .i64 0, .int .i64 0, .slice none 0 0] 56)).alloc (.cells #[.int .i64 0, .int .i64 0, .int .i64 0, .int .i64 0, .int .i64 0, .int .i64 0, .int .i64 0, .bool false, .int .i64 0, .bool false, .slice none 0 0, .slice none 0 0, .slice none 0 0, .slice none 0 0, .slice none 0 0, .int .i64 0, .int .i64 0, .int .i64 0, .int .i64 0, .int .i64 0, .int .i64 0] 50)) (w.heap.size + 1) 50 #[.int .i64 0, .int .i64 0, .int .i64 0, .int .i64 0, .int .i64 0, .int .i64 0, .int .i64 0, .bool false, .int .i64 0, .bool false, .slice none 0 0, .slice none 0 0, .slice none 0 0, .slice none 0 0, .slice none 0 0, .int .i64 0, .int .i64 0, .int .i64 0, .int .i64 0, .int .i64 0, .int .i64 0] := by
    have := Blk.new (w.alloc (.cells #[.int .i64 0, .bool false, .int .i64 0, .int .i64 0, .int .i64 0, .slice none 0 0, .slice none 0 0, .int .i64 0, .bool false, .int .i64 0, .int .i64 0, .int .i64 0, .slice none 0 0] 56)) 50 #[.int .i64 0, .int .i64 0, .int .i64 0, .int .i64 0, .int .i64 0, .int .i64 0, .int .i64 0, .bool false, .int .i64 0, .bool false, .slice none 0 0, .slice none 0 0, .slice none 0 0, .slice none 0 0, .slice none 0 0, .int .i64 0, .int .i64 0, .int .i64 0, .int .i64 0, .int .i64 0, .int .i64 0]
    rw [hz1] at this
    exact this
  have t5c : Blk (((w.alloc (.cells #[.int .i64 0, .bool false, .int .i64 0, .int .i64 0, .int .i64 0, .slice none 0 0, .slice none 0 0, .int .i64 0, .bool false, .int .i64 0, .int .i64 0, .int .i64 0, .slice none 0 0] 56)).alloc (.cells #[.int .i64 0, .int .i64 0, .int .i64 0, .int .i64 0, .int .i64 0, .int .i64 0, .int .i64 0, .bool false, .int .i64 0, .bool false, .slice none 0 0, .slice none 0 0, .slice none 0 0, .slice none 0 0, .slice none 0 0, .int .i64 0, .int .i64 0, .int .i64 0, .int .i64 0, .int .i64 0, .int .i64 0] 50)).setRow (w.heap.size + 1) AR.toArray) (w.heap.size + 1) 50 AR.toArray := t5b.setRow _
  have t6b : Blk ((((w.alloc (.cells #[.int .i64 0, .bool false, .int .i64 0, .int .i64 0, .int .i64 0, .slice none 0 0, .slice none 0 0, .int .i64 0, .bool false, .int .i64 0, .int .i64 0, .int .i64 0, .slice none 0 0] 56)).alloc (.cells #[.int .i64 0, .int .i64 0, .int .i64 0, .int .i64 0, .int .i64 0, .int .i64 0, .int .i64 0, .bool false, .int .i64 0, .bool false, .slice none 0 0, .slice none 0 0, .slice none 0 0, .slice none 0 0, .slice none 0 0, .int .i64 0, .int .i64 0, .int .i64 0, .int .i64 0, .int .i64 0, .int .i64 0] 50)).setRow (w.heap.size + 1) AR.toArray).alloc (.cells #[.int .i64 0, .bool false, .int .i64 0, .int .i64 0, .int .i64 0, .slice none 0 0, .slice none 0 0, .int .i64 0, .bool false, .int .i64 0, .int .i64 0, .int .i64 0, .slice none 0 0] 56)) (w.heap.size + 1 + 1) 56 #[.int .i64 0, .bool false, .int .i64 0, .int .i64 0, .int .i64 0, .slice none 0 0, .slice none 0 0, .int .i64 0, .bool false, .int .i64 0, .int .i64 0, .int .i64 0, .slice none 0 0] := by
    have := Blk.new (((w.alloc (.cells #[.int .i64 0, .bool false, .int .i64 0, .int .i64 0, .int .i64 0, .slice none 0 0, .slice none 0 0, .int .i64 0, .bool false, .int .i64 0, .int .i64 0, .int .i64 0, .slice none 0 0] 56)).alloc (.cells #[.int .i64 0, .int .i64 0, .int .i64 0, .int .i64 0, .int .i64 0, .int .i64 0, .int .i64 0, .bool false, .int .i64 0, .bool false, .slice none 0 0, .slice none 0 0, .slice none 0 0, .slice none 0 0, .slice none 0 0, .int .i64 0, .int .i64 0, .int .i64 0, .int .i64 0, .int .i64 0, .int .i64 0] 50)).setRow (w.heap.size + 1) AR.toArray) 56 #[.int .i64 0, .bool false, .int .i64 0, .int .i64 0, .int .i64 0, .slice none 0 0, .slice none 0 0, .int .i64 0, .bool false, .int .i64 0, .int .i64 0, .int .i64 0, .slice none 0 0]
    rw [hz2] at this
    exact this
  have t6 : Blk (((((w.alloc (.cells #[.int .i64 0, .bool false, .int .i64 0, .int .i64 0, .int .i64 0, .slice none 0 0, .slice none 0 0, .int .i64 0, .bool false, .int .i64 0, .int .i64 0, .int .i64 0, .slice none 0 0] 56)).alloc (.cells #[.int .i64 0, .int .i64 0, .int .i64 0, .int .i64 0, .int .i64 0, .int .i64 0, .int .i64 0, .bool false, .int .i64 0, .bool false, .slice none 0 0, .slice none 0 0, .slice none 0 0, .slice none 0 0, .slice none 0 0, .int .i64 0, .int .i64 0, .int .i64 0, .int .i64 0, .int .i64 0, .int .i64 0] 50)).setRow (w.heap.size + 1) AR.toArray).alloc (.cells #[.int .i64 0, .bool false, .int .i64 0, .int .i64 0, .int .i64 0, .slice none 0 0, .slice none 0 0, .int .i64 0, .bool false, .int .i64 0, .int .i64 0, .int .i64 0, .slice none 0 0] 56)).setRow (w.heap.size + 1 + 1) #[.int .i64 0, .bool false, .int .i64 0, .int .i64 0, .int .i64 0, .slice none 0 0, .slice none 0 0, .int .i64 0, .bool false, .int .i64 0, .int .i64 0, .int .i64 0, .slice none 0 0]) (w.heap.size + 1 + 1) 56 #[.int .i64 0, .bool false, .int .i64 0, .int .i64 0, .int .i64 0, .slice none 0 0, .slice none 0 0, .int .i64 0, .bool false, .int .i64 0, .int .i64 0, .int .i64 0, .slice none 0 0] := t6b.setRow _
  have t5 : Blk (((((w.alloc (.cells #[.int .i64 0, .bool false, .int .i64 0, .int .i64 0, .int .i64 0, .slice none 0 0, .slice none 0 0, .int .i64 0, .bool false, .int .i64 0, .int .i64 0, .int .i64 0, .slice none 0 0] 56)).alloc (.cells #[.int .i64 0, .int .i64 0, .int .i64 0, .int .i64 0, .int .i64 0, .int .i64 0, .int .i64 0, .bool false, .int .i64 0, .bool false, .slice none 0 0, .slice none 0 0, .slice none 0 0, .slice none 0 0, .slice none 0 0, .int .i64 0, .int .i64 0, .int .i64 0, .int .i64 0, .int .i64 0, .int .i64 0] 50)).setRow (w.heap.size + 1) AR.toArray).alloc (.cells #[.int .i64 0, .bool false, .int .i64 0, .int .i64 0, .int .i64 0, .slice none 0 0, .slice none 0 0, .int .i64 0, .bool false, .int .i64 0, .int .i64 0, .int .i64 0, .slice none 0 0] 56)).setRow (w.heap.size + 1 + 1) #[.int .i64 0, .bool false, .int .i64 0, .int .i64 0, .int .i64 0, .slice none 0 0, .slice none 0 0, .int .i64 0, .bool false, .int .i64 0, .int .i64 0, .int .i64 0, .slice none 0 0]) (w.heap.size + 1) 50 AR.toArray := (Chg.setRow ((((w.alloc (.cells #[.int .i64 0, .bool false, .int .i64 0, .int .i64 0, .int .i64 0, .slice none 0 0, .slice none 0 0, .int .i64 0, .bool false, .int .i64 0, .int .i64 0, .int .i64 0, .slice none 0 0] 56)).alloc (.cells #[.int .i64 0, .int .i64 0, .int .i64 0, .int .i64 0, .int .i64 0, .int .i64 0, .int .i64 0, .bool false, .int .i64 0, .bool false, .slice none 0 0, .slice none 0 0, .slice none 0 0, .slice none 0 0, .slice none 0 0, .int .i64 0, .int .i64 0, .int .i64 0, .int .i64 0, .int .i64 0, .int .i64 0] 50)).setRow (w.heap.size + 1) AR.toArray).alloc (.cells #[.int .i64 0, .bool false, .int .i64 0, .int .i64 0, .int .i64 0, .slice none 0 0, .slice none 0 0, .int .i64 0, .bool false, .int .i64 0, .int .i64 0, .int .i64 0, .slice none 0 0] 56)) (w.heap.size + 1 + 1) #[.int .i64 0, .bool false, .int .i64 0, .int .i64 0, .int .i64 0, .slice none 0 0, .slice none 0 0, .int .i64 0, .bool false, .int .i64 0, .int .i64 0, .int .i64 0, .slice none 0 0]).blk (t5c.below ((Below.refl (((w.alloc (.cells #[.int .i64 0, .bool false, .int .i64 0, .int .i64 0, .int .i64 0, .slice none 0 0, .slice none 0 0, .int .i64 0, .bool false, .int .i64 0, .int .i64 0, .int .i64 0, .slice none 0 0] 56)).alloc (.cells #[.int .i64 0, .int .i64 0, .int .i64 0, .int .i64 0, .int .i64 0, .int .i64 0, .int .i64 0, .bool false, .int .i64 0, .bool false, .slice none 0 0, .slice none 0 0, .slice none 0 0, .slice none 0 0, .slice none 0 0, .int .i64 0, .int .i64 0, .int .i64 0, .int .i64 0, .int .i64 0, .int .i64 0] 50)).setRow (w.heap.size + 1) AR.toArray).heap.size (((w.alloc (.cells #[.int .i64 0, .bool false, .int .i64 0, .int .i64 0, .int .i64 0, .slice none 0 0, .slice none 0 0, .int .i64 0, .bool false, .int .i64 0, .int .i64 0, .int .i64 0, .slice none 0 0] 56)).alloc (.cells #[.int .i64 0, .int .i64 0, .int .i64 0, .int .i64 0, .int .i64 0, .int .i64 0, .int .i64 0, .bool false, .int .i64 0, .bool false, .slice none 0 0, .slice none 0 0, .slice none 0 0, .slice none 0 0, .slice none 0 0, .int .i64 0, .int .i64 0, .int .i64 0, .int .i64 0, .int .i64 0, .int .i64 0] 50)).setRow (w.heap.size + 1) AR.toArray)).alloc (Nat.le_refl _) (.cells #[.int .i64 0, .bool false, .int .i64 0, .int .i64 0, .int .i64 0, .slice none 0 0, .slice none 0 0, .int .i64 0, .bool false, .int .i64 0, .int .i64 0, .int .i64 0, .slice none 0 0] 56)) t5c.lt) (by omega)
  have t4 : Blk (((((w.alloc (.cells #[.int .i64 0, .bool false, .int .i64 0, .int .i64 0, .int .i64 0, .slice none 0 0, .slice none 0 0, .int .i64 0, .bool false, .int .i64 0, .int .i64 0, .int .i64 0, .slice none 0 0] 56)).alloc (.cells #[.int .i64 0, .int .i64 0, .int .i64 0, .int .i64 0, .int .i64 0, .int .i64 0, .int .i64 0, .bool false, .int .i64 0, .bool false, .slice none 0 0, .slice none 0 0, .slice none 0 0, .slice none 0 0, .slice none 0 0, .int .i64 0, .int .i64 0, .int .i64 0, .int .i64 0, .int .i64 0, .int .i64 0] 50)).setRow (w.heap.size + 1) AR.toArray).alloc (.cells #[.int .i64 0, .bool false, .int .i64 0, .int .i64 0, .int .i64 0, .slice none 0 0, .slice none 0 0, .int .i64 0, .bool false, .int .i64 0, .int .i64 0, .int .i64 0, .slice none 0 0] 56)).setRow (w.heap.size + 1 + 1) #[.int .i64 0, .bool false, .int .i64 0, .int .i64 0, .int .i64 0, .slice none 0 0, .slice none 0 0, .int .i64 0, .bool false, .int .i64 0, .int .i64 0, .int .i64 0, .slice none 0 0]) w.heap.size 56 #[.int .i64 0, .bool false, .int .i64 0, .int .i64 0, .int .i64 0, .slice none 0 0, .slice none 0 0, .int .i64 0, .bool false, .int .i64 0, .int .i64 0, .int .i64 0, .slice none 0 0] := by
    have h1 := Blk.new w 56 #[.int .i64 0, .bool false, .int .i64 0, .int .i64 0, .int .i64 0, .slice none 0 0, .slice none 0 0, .int .i64 0, .bool false, .int .i64 0, .int .i64 0, .int .i64 0, .slice none 0 0]
    have h2 := h1.below ((Below.refl (w.alloc (.cells #[.int .i64 0, .bool false, .int .i64 0, .int .i64 0, .int .i64 0, .slice none 0 0, .slice none 0 0, .int .i64 0, .bool false, .int .i64 0, .int .i64 0, .int .i64 0, .slice none 0 0] 56)).heap.size (w.alloc (.cells #[.int .i64 0, .bool false, .int .i64 0, .int .i64 0, .int .i64 0, .slice none 0 0, .slice none 0 0, .int .i64 0, .bool false, .int .i64 0, .int .i64 0, .int .i64 0, .slice none 0 0] 56))).alloc (Nat.le_refl _) (.cells #[.int .i64 0, .int .i64 0, .int .i64 0, .int .i64 0, .int .i64 0, .int .i64 0, .int .i64 0, .bool false, .int .i64 0, .bool false, .slice none 0 0, .slice none 0 0, .slice none 0 0, .slice none 0 0, .slice none 0 0, .int .i64 0, .int .i64 0, .int .i64 0, .int .i64 0, .int .i64 0, .int .i64 0] 50)) h1.lt
    have h3 := (Chg.setRow ((w.alloc (.cells #[.int .i64 0, .bool false, .int .i64 0, .int .i64 0, .int .i64 0, .slice none 0 0, .slice none 0 0, .int .i64 0, .bool false, .int .i64 0, .int .i64 0, .int .i64 0, .slice none 0 0] 56)).alloc (.cells #[.int .i64 0, .int .i64 0, .int .i64 0, .int .i64 0, .int .i64 0, .int .i64 0, .int .i64 0, .bool false, .int .i64 0, .bool false, .slice none 0 0, .slice none 0 0, .slice none 0 0, .slice none 0 0, .slice none 0 0, .int .i64 0, .int .i64 0, .int .i64 0, .int .i64 0, .int .i64 0, .int .i64 0] 50)) (w.heap.size + 1) AR.toArray).blk h2 (by omega)
    have h4 := h3.below ((Below.refl (((w.alloc (.cells #[.int .i64 0, .bool false, .int .i64 0, .int .i64 0, .int .i64 0, .slice none 0 0, .slice none 0 0, .int .i64 0, .bool false, .int .i64 0, .int .i64 0, .int .i64 0, .slice none 0 0] 56)).alloc (.cells #[.int .i64 0, .int .i64 0, .int .i64 0, .int .i64 0, .int .i64 0, .int .i64 0, .int .i64 0, .bool false, .int .i64 0, .bool false, .slice none 0 0, .slice none 0 0, .slice none 0 0, .slice none 0 0, .slice none 0 0, .int .i64 0, .int .i64 0, .int .i64 0, .int .i64 0, .int .i64 0, .int .i64 0] 50)).setRow (w.heap.size + 1) AR.toArray).heap.size (((w.alloc (.cells #[.int .i64 0, .bool false, .int .i64 0, .int .i64 0, .int .i64 0, .slice none 0 0, .slice none 0 0, .int .i64 0, .bool false, .int .i64 0, .int .i64 0, .int .i64 0, .slice none 0 0] 56)).alloc (.cells #[.int .i64 0, .int .i64 0, .int .i64 0, .int .i64 0, .int .i64 0, .int .i64 0, .int .i64 0, .bool false, .int .i64 0, .bool false, .slice none 0 0, .slice none 0 0, .slice none 0 0, .slice none 0 0, .slice none 0 0, .int .i64 0, .int .i64 0, .int .i64 0, .int .i64 0, .int .i64 0, .int .i64 0] 50)).setRow (w.heap.size + 1) AR.toArray)).alloc (Nat.le_refl _) (.cells #[.int .i64 0, .bool false, .int .i64 0, .int .i64 0, .int .i64 0, .slice none 0 0, .slice none 0 0, .int .i64 0, .bool false, .int .i64 0, .int .i64 0, .int .i64 0, .slice none 0 0] 56)) h3.lt
    exact (Chg.setRow ((((w.alloc (.cells #[.int .i64 0, .bool false, .int .i64 0, .int .i64 0, .int .i64 0, .slice none 0 0, .slice none 0 0, .int .i64 0, .bool false, .int .i64 0, .int .i64 0, .int .i64 0, .slice none 0 0] 56)).alloc (.cells #[.int .i64 0, .int .i64 0, .int .i64 0, .int .i64 0, .int .i64 0, .int .i64 0, .int .i64 0, .bool false, .int .i64 0, .bool false, .slice none 0 0, .slice none 0 0, .slice none 0 0, .slice none 0 0, .slice none 0 0, .int .i64 0, .int .i64 0, .int .i64 0, .int .i64 0, .int .i64 0, .int .i64 0] 50)).setRow (w.heap.size + 1) AR.toArray).alloc (.cells #[.int .i64 0, .bool false, .int .i64 0, .int .i64 0, .int .i64 0, .slice none 0 0, .slice none 0 0, .int .i64 0, .bool false, .int .i64 0, .int .i64 0, .int .i64 0, .slice none 0 0] 56)) (w.heap.size + 1 + 1) #[.int .i64 0, .bool false, .int .i64 0, .int .i64 0, .int .i64 0, .slice none 0 0, .slice none 0 0, .int .i64 0, .bool false, .int .i64 0, .int .i64 0, .int .i64 0, .slice none 0 0]).blk h4 (by omega)
  have hra : (w.alloc (.cells #[.int .i64 0, .bool false, .int .i64 0, .int .i64 0, .int .i64 0, .slice none 0 0, .slice none 0 0, .int .i64 0, .bool false, .int .i64 0, .int .i64 0, .int .i64 0, .slice none 0 0] 56)).rangeAt fb 1 AR := fun j u hu => by
    rw [hAR] at hu
    have := (h.blk.below (b1.mono (Nat.le_refl _)) h.blk.lt).cell (1 + j)
    rw [this]
    have e : (1 + j) = j + 1 := by omega
    rw [e]
    have hj : j < 21 := by
      rcases Nat.lt_or_ge j 21 with g | g
      · exact g
      · rw [List.getElem?_eq_none (by simpa using g)] at hu; cases hu
    match j, hj, hu with
    | 0, _, hu => exact hu
    | 1, _, hu => exact hu
    | 2, _, hu => exact hu
    | 3, _, hu => exact hu
    | 4, _, hu => exact hu
    | 5, _, hu => exact hu
    | 6, _, hu => exact hu
    | 7, _, hu => exact hu
    | 8, _, hu => exact hu
    | 9, _, hu => exact hu
    | 10, _, hu => exact hu
    | 11, _, hu => exact hu
    | 12, _, hu => exact hu
    | 13, _, hu => exact hu
    | 14, _, hu => exact hu
    | 15, _, hu => exact hu
    | 16, _, hu => exact hu
    | 17, _, hu => exact hu
    | 18, _, hu => exact hu
    | 19, _, hu => exact hu
    | 20, _, hu => exact hu
  have RA := Lib.hid hra
  have HF := Lib.hid hf
  have HIA : Hid ((Tryz.prog.info? 50).map (·.size) = some AR.length) := Lib.hid (by rw [harl]; kernel_rfl)
  have HIB : Hid ((Tryz.prog.info? 50).map (·.size) = some AR.toArray.size) := Lib.hid (by rw [List.size_toArray, harl]; kernel_rfl)
  have HIC : Hid ((#[.int .i64 0, .int .i64 0, .int .i64 0, .int .i64 0, .int .i64 0, .int .i64 0, .int .i64 0, .bool false, .int .i64 0, .bool false, .slice none 0 0, .slice none 0 0, .slice none 0 0, .slice none 0 0, .slice none 0 0, .int .i64 0, .int .i64 0, .int .i64 0, .int .i64 0, .int .i64 0, .int .i64 0] : Array Value).size = AR.toArray.size) := Lib.hid (by show 21 = AR.toArray.size; rw [List.size_toArray, harl])
  have HID := Lib.hid haro
  have a0 : (((((w.alloc (.cells #[.int .i64 0, .bool false, .int .i64 0, .int .i64 0, .int .i64 0, .slice none 0 0, .slice none 0 0, .int .i64 0, .bool false, .int .i64 0, .int .i64 0, .int .i64 0, .slice none 0 0] 56)).alloc (.cells #[.int .i64 0, .int .i64 0, .int .i64 0, .int .i64 0, .int .i64 0, .int .i64 0, .int .i64 0, .bool false, .int .i64 0, .bool false, .slice none 0 0, .slice none 0 0, .slice none 0 0, .slice none 0 0, .slice none 0 0, .int .i64 0, .int .i64 0, .int .i64 0, .int .i64 0, .int .i64 0, .int .i64 0] 50)).setRow (w.heap.size + 1) AR.toArray).alloc (.cells #[.int .i64 0, .bool false, .int .i64 0, .int .i64 0, .int .i64 0, .slice none 0 0, .slice none 0 0, .int .i64 0, .bool false, .int .i64 0, .int .i64 0, .int .i64 0, .slice none 0 0] 56)).setRow (w.heap.size + 1 + 1) #[.int .i64 0, .bool false, .int .i64 0, .int .i64 0, .int .i64 0, .slice none 0 0, .slice none 0 0, .int .i64 0, .bool false, .int .i64 0, .int .i64 0, .int .i64 0, .slice none 0 0]).cell? ⟨w.heap.size + 1, 0, none⟩ = some (.int .i64 x.a) := (t5.cell 0).trans har0
  have a3 : (((((w.alloc (.cells #[.int .i64 0, .bool false, .int .i64 0, .int .i64 0, .int .i64 0, .slice none 0 0, .slice none 0 0, .int .i64 0, .bool false, .int .i64 0, .int .i64 0, .int .i64 0, .slice none 0 0] 56)).alloc (.cells #[.int .i64 0, .int .i64 0, .int .i64 0, .int .i64 0, .int .i64 0, .int .i64 0, .int .i64 0, .bool false, .int .i64 0, .bool false, .slice none 0 0, .slice none 0 0, .slice none 0 0, .slice none 0 0, .slice none 0 0, .int .i64 0, .int .i64 0, .int .i64 0, .int .i64 0, .int .i64 0, .int .i64 0] 50)).setRow (w.heap.size + 1) AR.toArray).alloc (.cells #[.int .i64 0, .bool false, .int .i64 0, .int .i64 0, .int .i64 0, .slice none 0 0, .slice none 0 0, .int .i64 0, .bool false, .int .i64 0, .int .i64 0, .int .i64 0, .slice none 0 0] 56)).setRow (w.heap.size + 1 + 1) #[.int .i64 0, .bool false, .int .i64 0, .int .i64 0, .int .i64 0, .slice none 0 0, .slice none 0 0, .int .i64 0, .bool false, .int .i64 0, .int .i64 0, .int .i64 0, .slice none 0 0]).cell? ⟨w.heap.size + 1, 3, none⟩ = some (.int .i64 x.p) := (t5.cell 3).trans har3
  clear har0 har3 harl haro hAR
  have HT5 := Lib.hid t5b
  have HT6 := Lib.hid t6b
  clear hra t5b t5c t6b b1 b1b b2 b2b hz1 hz1b hz2
  have c03 : (((((w.alloc (.cells #[.int .i64 0, .bool false, .int .i64 0, .int .i64 0, .int .i64 0, .slice none 0 0, .slice none 0 0, .int .i64 0, .bool false, .int .i64 0, .int .i64 0, .int .i64 0, .slice none 0 0] 56)).alloc (.cells #[.int .i64 0, .int .i64 0, .int .i64 0, .int .i64 0, .int .i64 0, .int .i64 0, .int .i64 0, .bool false, .int .i64 0, .bool false, .slice none 0 0, .slice none 0 0, .slice none 0 0, .slice none 0 0, .slice none 0 0, .int .i64 0, .int .i64 0, .int .i64 0, .int .i64 0, .int .i64 0, .int .i64 0] 50)).setRow (w.heap.size + 1) AR.toArray).alloc (.cells #[.int .i64 0, .bool false, .int .i64 0, .int .i64 0, .int .i64 0, .slice none 0 0, .slice none 0 0, .int .i64 0, .bool false, .int .i64 0, .int .i64 0, .int .i64 0, .slice none 0 0] 56)).setRow (w.heap.size + 1 + 1) #[.int .i64 0, .bool false, .int .i64 0, .int .i64 0, .int .i64 0, .slice none 0 0, .slice none 0 0, .int .i64 0, .bool false, .int .i64 0, .int .i64 0, .int .i64 0, .slice none 0 0]).cell? ⟨fb, 0, none⟩ = some (.int .i64 16) := CP.out _ b3
  have HR := Lib.hid (hr.below b3)
  have HB3 := Lib.hid b3
  have HZ3 := Lib.hid hz3
  have H := Lib.hid h
  have G1 := Lib.hid g1
  have T4 := Lib.hid t4
  have T5 := Lib.hid t5
  have T6 := Lib.hid t6
  clear t4 t5 t6
  clear hr b3 hz3 h g1 hg hf hp
  go_enter Tryz.func153, Tryz.ntmps153
  go_wp2_with (first | ((with_reducible refine (show wpList _ _ _ ((Oper.mk (some 10) (.load _ _) _ _ _ _) :: _) _ _ from ?_)); refine wpList_load_mid rfl 50 (.tmp 9) rfl fb 1 rfl AR _ RA.out Tryz.underlying50 rfl (HIA.out) ?_) | ((with_reducible refine (show wpList _ _ _ ((Oper.mk none (.store _ (.tmp 5) _) _ _ _ _) :: _) _ _ from ?_)); refine wpList_store_row rfl 50 (.tmp 5) (.tmp 10) rfl (w.heap.size + 1) AR.toArray rfl rfl _ _ HT5.out (HIB.out) HIC.out HID.out ?_) | ((with_reducible refine (show wpList _ _ _ ((Oper.mk none (.store _ (.tmp 6) _) _ _ _ _) :: _) _ _ from ?_)); refine wpList_store_row rfl 56 (.tmp 6) (.tmp 11) rfl (w.heap.size + 1 + 1) #[.int .i64 0, .bool false, .int .i64 0, .int .i64 0, .int .i64 0, .slice none 0 0, .slice none 0 0, .int .i64 0, .bool false, .int .i64 0, .int .i64 0, .int .i64 0, .slice none 0 0] rfl rfl _ _ HT6.out (by kernel_rfl) rfl (by simp [Value.oneCell']) ?_))
  generalize (((((w.alloc (.cells #[.int .i64 0, .bool false, .int .i64 0, .int .i64 0, .int .i64 0, .slice none 0 0, .slice none 0 0, .int .i64 0, .bool false, .int .i64 0, .int .i64 0, .int .i64 0, .slice none 0 0] 56)).alloc (.cells #[.int .i64 0, .int .i64 0, .int .i64 0, .int .i64 0, .int .i64 0, .int .i64 0, .int .i64 0, .bool false, .int .i64 0, .bool false, .slice none 0 0, .slice none 0 0, .slice none 0 0, .slice none 0 0, .slice none 0 0, .int .i64 0, .int .i64 0, .int .i64 0, .int .i64 0, .int .i64 0, .int .i64 0] 50)).setRow (w.heap.size + 1) AR.toArray).alloc (.cells #[.int .i64 0, .bool false, .int .i64 0, .int .i64 0, .int .i64 0, .slice none 0 0, .slice none 0 0, .int .i64 0, .bool false, .int .i64 0, .int .i64 0, .int .i64 0, .slice none 0 0] 56)).setRow (w.heap.size + 1 + 1) #[.int .i64 0, .bool false, .int .i64 0, .int .i64 0, .int .i64 0, .slice none 0 0, .slice none 0 0, .int .i64 0, .bool false, .int .i64 0, .int .i64 0, .int .i64 0, .slice none 0 0]) = w3 at HR HB3 HZ3 T4 T5 T6 c03 a0 a3 ⊢
  clear HT5 HT6 RA HIA HIB HIC HID
  with_reducible refine (seekR_any Fr rb w3 s s1 v1 N x.p w3 (RAt.refl HR.out) d0 G1.out hk HF.out).mono ?_
  rintro e w4 ⟨rfl, h4⟩
  have H4 := Lib.hid h4
  have hne4 : ¬ (w.heap.size = rb) := by omega
  have hne6 : ¬ (w.heap.size + 1 + 1 = rb) := by omega
  have T44 := Lib.hid (h4.2.blk T4.out hne4)
  have T66 := Lib.hid (h4.2.blk T6.out hne6)
  clear h4 HR T4 T5 T6 a0 a3 c03
  have q4 : w4.cell? ⟨w.heap.size + 1 + 1, 4, none⟩ = some (.int .i64 0) := T66.out.cell 4
  have r4 := T66.out.frozen 4
  have t6a := T66.out.set_ 4 (.int .i64 v1.1)
  have q1 : (w4.setCell ⟨w.heap.size + 1 + 1, 4, none⟩ (.int .i64 v1.1)).cell? ⟨w.heap.size + 1 + 1, 1, none⟩ = some (.bool false) := t6a.cell 1
  have r1 := t6a.frozen 1
  have t6b := t6a.set_ 1 (.bool v1.2)
  have hn46 : w.heap.size ≠ w.heap.size + 1 + 1 := by omega
  have t4b := (T44.out.far (p := ⟨w.heap.size + 1 + 1, 4, none⟩) hn46 (.int .i64 v1.1)).far (p := ⟨w.heap.size + 1 + 1, 1, none⟩) hn46 (.bool v1.2)
  have hc5 : Chg (fun y => y = w.heap.size + 1 + 1) w4 ((w4.setCell ⟨w.heap.size + 1 + 1, 4, none⟩ (.int .i64 v1.1)).setCell ⟨w.heap.size + 1 + 1, 1, none⟩ (.bool v1.2)) := (Chg.set1 w4 (w.heap.size + 1 + 1) 4 (.int .i64 v1.1)).trans (Chg.set1 _ (w.heap.size + 1 + 1) 1 (.bool v1.2))
  have HC5 := Lib.hid hc5
  have T4B := Lib.hid t4b
  have T6B := Lib.hid t6b
  clear t6a t6b t4b hc5
  go_wp2_with (first | ((with_reducible refine (show wpList _ _ _ ((Oper.mk (some 73) (.load _ _) _ _ _ _) :: _) _ _ from ?_)); refine wpList_load_row rfl 56 (.tmp 6) rfl (w.heap.size + 1 + 1) rfl _ _ (0, 0) _ T6B.out Tryz.underlying56 rfl (by kernel_rfl) ?_) | ((with_reducible refine (show wpList _ _ _ ((Oper.mk none (.store _ (.tmp 4) _) _ _ _ _) :: _) _ _ from ?_)); refine wpList_store_row rfl 56 (.tmp 4) (.tmp 73) rfl w.heap.size #[.int .i64 0, .bool v1.2, .int .i64 0, .int .i64 0, .int .i64 v1.1, .slice none 0 0, .slice none 0 0, .int .i64 0, .bool false, .int .i64 0, .int .i64 0, .int .i64 0, .slice none 0 0] rfl rfl _ _ T4B.out (by kernel_rfl) rfl (by simp [Value.oneCell']) ?_))
  refine bodyPost_ret (v := .agg #[.int .i64 0, .bool v1.2, .int .i64 0, .int .i64 0, .int .i64 v1.1, .slice none 0 0, .slice none 0 0, .int .i64 0, .bool false, .int .i64 0, .int .i64 0, .int .i64 0, .slice none 0 0]) (results_cell_row rfl _ _ w.heap.size _ _ (0, 0) _ rfl (T4B.out.setRow _) Tryz.underlying56 rfl (by kernel_rfl)) rfl ?_
  have hc6 : Chg (fun y => y = w.heap.size) ((w4.setCell ⟨w.heap.size + 1 + 1, 4, none⟩ (.int .i64 v1.1)).setCell ⟨w.heap.size + 1 + 1, 1, none⟩ (.bool v1.2)) (((w4.setCell ⟨w.heap.size + 1 + 1, 4, none⟩ (.int .i64 v1.1)).setCell ⟨w.heap.size + 1 + 1, 1, none⟩ (.bool v1.2)).setRow w.heap.size #[.int .i64 0, .bool v1.2, .int .i64 0, .int .i64 0, .int .i64 v1.1, .slice none 0 0, .slice none 0 0, .int .i64 0, .bool false, .int .i64 0, .int .i64 0, .int .i64 0, .slice none 0 0]) := Chg.setRow _ _ _
  have hcc : Chg (fun y => y = w.heap.size ∨ y = w.heap.size + 1 + 1) w4 (((w4.setCell ⟨w.heap.size + 1 + 1, 4, none⟩ (.int .i64 v1.1)).setCell ⟨w.heap.size + 1 + 1, 1, none⟩ (.bool v1.2)).setRow w.heap.size #[.int .i64 0, .bool v1.2, .int .i64 0, .int .i64 0, .int .i64 v1.1, .slice none 0 0, .slice none 0 0, .int .i64 0, .bool false, .int .i64 0, .int .i64 0, .int .i64 0, .slice none 0 0]) := (HC5.out.mono (fun y hy => .inr hy)).trans (hc6.mono (fun y hy => .inl hy))
  have hz3 := HZ3.out
  refine ⟨.slice none 0 0, .slice none 0 0, .slice none 0 0, rfl, OutRows.nil rfl rfl rfl, ?_, ?_⟩
  · refine (H4.out.1.keep hcc (fun y hy => ?_)).mono (fun y hy => hy.imp id (fun h => by omega))
    rcases hy with rfl | rfl
    · exact ⟨_, _, T44.out, by decide, by decide⟩
    · exact ⟨_, _, T66.out, by decide, by decide⟩
  · exact ((Chg.of_below HB3.out).trans H4.out.2).grow hcc (fun y hy => by rcases hy with rfl | rfl <;> exact .inr (by omega))
end
end Go.Proofs.YtblajeildolloaaGreat

/- The document's Frame: play, settle, Step, New. (Printed by genfrm.py.) -/
namespace Go.Proofs.YtblajeildolloaaGreat
set_option linter.unusedVariables false
set_option linter.unusedSimpArgs false
open Go.RowKit

theorem results_tmp_cell {P : Program} {fn : Func} {p1 p2 : Tmp} {ty : TypeId} (h : fn.results = #[.tmp p1, .cell p2 ty]) (tmps : Array Value) (w : World) (v : Value) (g : Nat) (t : TypeId) (cs : Array Value) (fr : Nat × Nat) (d : TypeDesc)
    (hv : tmps.getD p1 undef = v) (hp : tmps.getD p2 undef = .pointer (some ⟨g, 0, none⟩)) (hg : w.heap[g]? = some (.cells cs t fr))
    (hu : P.underlying ty = some d) (hd : (match d with | .struct _ | .array _ _ => true | _ => false) = true) (hi : (P.info? ty).map (·.size) = some cs.size) :
    (results fn tmps).run P w = .ok (.tuple #[v, .agg cs]) w := by
  have hp' : tmps[p2]?.getD undef = .pointer (some ⟨g, 0, none⟩) := by simpa using hp
  have hv' : tmps[p1]?.getD undef = v := by simpa using hv
  simp [results, h, hp', hv', asAddr, run_loadVar_row w g t ty cs fr d hg hu hd hi]
def PlayPost (F : Nat → Prop) (o : FOut) (s' : RunS) (w : World) (e : Ending) (w' : World) : Prop := ∃ rb pv sv lv, e = .returned (.tuple #[.pointer (some ⟨rb, 0, none⟩), outV o pv sv lv]) ∧ OutRows (fun x => w.heap.size ≤ x) o pv sv lv w' ∧ RunP (fun y => F y ∨ w.heap.size ≤ y) rb s' w' ∧ w.heap.size ≤ rb ∧ Below w.heap.size w w'
def low15 (F : Nat → Prop) : Prop := True
set_option maxRecDepth 100000 in
set_option maxHeartbeats 4000000 in
theorem play15_any (F : Nat → Prop) (fb : Nat) (x : FX) (N : Nat) (T : List Int) (done : Bool) (o o' : FOut) (s' : RunS) (w : World) (h : FrP F fb x T done o w) (d0 : (RunS.mk T 0 false ask0).Bd) (hp : x.proc = 15) (ha : i64B x.a) (hk : i64B x.p) (hf : T.length + 1 < N) (hg : (x.tree N).go ⟨T, 0, false, ask0⟩ = (o', s')) :
    Calls Tryz.prog 95 #[.pointer (some ⟨fb, 0, none⟩)] w (PlayPost F o' s' w) := by
  have hfull := h
  obtain ⟨xv, tv, pv, sv, lv, rec, laid, h⟩ := h
  obtain ⟨tA, tc, rfl⟩ := own_shape h.tape
  have hflt := h.blk.lt
  have hz1 : (w.alloc (.cells #[.int .i64 0, .bool false, .int .i64 0, .int .i64 0, .int .i64 0, .slice none 0 0, .slice none 0 0, .int .i64 0, .bool false, .int .i64 0, .int .i64 0, .int .i64 0, .slice none 0 0] 56)).heap.size = w.heap.size + 1 := by simp
  have hz2 : ((w.alloc (.cells #[.int .i64 0, .bool false, .int .i64 0, .int .i64 0, .int .i64 0, .slice none 0 0, .slice none 0 0, .int .i64 0, .bool false, .int .i64 0, .int .i64 0, .int .i64 0, .slice none 0 0] 56)).alloc (.cells #[.slice tA T.length tc, .int .i64 0, .bool false, .int .i64 0, .int .i64 0, .int .i64 0, .int .i64 0, .slice none 0 0, .int .i64 0, .int .i64 0] 145)).heap.size = w.heap.size + 2 := by simp
  have b1 : Below w.heap.size w (w.alloc (.cells #[.int .i64 0, .bool false, .int .i64 0, .int .i64 0, .int .i64 0, .slice none 0 0, .slice none 0 0, .int .i64 0, .bool false, .int .i64 0, .int .i64 0, .int .i64 0, .slice none 0 0] 56)) := (Below.refl w.heap.size w).alloc (Nat.le_refl _) _
  have b2 : Below w.heap.size w ((w.alloc (.cells #[.int .i64 0, .bool false, .int .i64 0, .int .i64 0, .int .i64 0, .slice none 0 0, .slice none 0 0, .int .i64 0, .bool false, .int .i64 0, .int .i64 0, .int .i64 0, .slice none 0 0] 56)).alloc (.cells #[.slice tA T.length tc, .int .i64 0, .bool false, .int .i64 0, .int .i64 0, .int .i64 0, .int .i64 0, .slice none 0 0, .int .i64 0, .int .i64 0] 145)) := b1.alloc b1.size _
  have t3 : Blk ((w.alloc (.cells #[.int .i64 0, .bool false, .int .i64 0, .int .i64 0, .int .i64 0, .slice none 0 0, .slice none 0 0, .int .i64 0, .bool false, .int .i64 0, .int .i64 0, .int .i64 0, .slice none 0 0] 56)).alloc (.cells #[.slice tA T.length tc, .int .i64 0, .bool false, .int .i64 0, .int .i64 0, .int .i64 0, .int .i64 0, .slice none 0 0, .int .i64 0, .int .i64 0] 145)) w.heap.size 56 #[.int .i64 0, .bool false, .int .i64 0, .int .i64 0, .int .i64 0, .slice none 0 0, .slice none 0 0, .int .i64 0, .bool false, .int .i64 0, .int .i64 0, .int .i64 0, .slice none 0 0] := (Blk.new w 56 #[.int .i64 0, .bool false, .int .i64 0, .int .i64 0, .int .i64 0, .slice none 0 0, .slice none 0 0, .int .i64 0, .bool false, .int .i64 0, .int .i64 0, .int .i64 0, .slice none 0 0]).below ((Below.refl (w.alloc (.cells #[.int .i64 0, .bool false, .int .i64 0, .int .i64 0, .int .i64 0, .slice none 0 0, .slice none 0 0, .int .i64 0, .bool false, .int .i64 0, .int .i64 0, .int .i64 0, .slice none 0 0] 56)).heap.size (w.alloc (.cells #[.int .i64 0, .bool false, .int .i64 0, .int .i64 0, .int .i64 0, .slice none 0 0, .slice none 0 0, .int .i64 0, .bool false, .int .i64 0, .int .i64 0, .int .i64 0, .slice none 0 0] 56))).alloc (Nat.le_refl _) (.cells #[.slice tA T.length tc, .int .i64 0, .bool false, .int .i64 0, .int .i64 0, .int .i64 0, .int .i64 0, .slice none 0 0, .int .i64 0, .int .i64 0] 145)) (Blk.new w 56 #[.int .i64 0, .bool false, .int .i64 0, .int .i64 0, .int .i64 0, .slice none 0 0, .slice none 0 0, .int .i64 0, .bool false, .int .i64 0, .int .i64 0, .int .i64 0, .slice none 0 0]).lt
  have tr : Blk ((w.alloc (.cells #[.int .i64 0, .bool false, .int .i64 0, .int .i64 0, .int .i64 0, .slice none 0 0, .slice none 0 0, .int .i64 0, .bool false, .int .i64 0, .int .i64 0, .int .i64 0, .slice none 0 0] 56)).alloc (.cells #[.slice tA T.length tc, .int .i64 0, .bool false, .int .i64 0, .int .i64 0, .int .i64 0, .int .i64 0, .slice none 0 0, .int .i64 0, .int .i64 0] 145)) (w.heap.size + 1) 145 #[.slice tA T.length tc, .int .i64 0, .bool false, .int .i64 0, .int .i64 0, .int .i64 0, .int .i64 0, .slice none 0 0, .int .i64 0, .int .i64 0] := by
    have := Blk.new (w.alloc (.cells #[.int .i64 0, .bool false, .int .i64 0, .int .i64 0, .int .i64 0, .slice none 0 0, .slice none 0 0, .int .i64 0, .bool false, .int .i64 0, .int .i64 0, .int .i64 0, .slice none 0 0] 56)) 145 #[.slice tA T.length tc, .int .i64 0, .bool false, .int .i64 0, .int .i64 0, .int .i64 0, .int .i64 0, .slice none 0 0, .int .i64 0, .int .i64 0]
    rw [hz1] at this
    exact this
  have hr : RunP (fun y => F y ∨ w.heap.size ≤ y) (w.heap.size + 1) ⟨T, 0, false, ask0⟩ ((w.alloc (.cells #[.int .i64 0, .bool false, .int .i64 0, .int .i64 0, .int .i64 0, .slice none 0 0, .slice none 0 0, .int .i64 0, .bool false, .int .i64 0, .int .i64 0, .int .i64 0, .slice none 0 0] 56)).alloc (.cells #[.slice tA T.length tc, .int .i64 0, .bool false, .int .i64 0, .int .i64 0, .int .i64 0, .int .i64 0, .slice none 0 0, .int .i64 0, .int .i64 0] 145)) := ⟨.slice tA T.length tc, .slice none 0 0, 0, 0, .inr (by omega), tr, own_below h.tape b2, World.ownsRow_nil _ _ _ _, fun g hg => .inl (h.ft g hg), fun g hg => absurd hg (by simp [Value.ownBlock])⟩
  have c22 : (w.alloc (.cells #[.int .i64 0, .bool false, .int .i64 0, .int .i64 0, .int .i64 0, .slice none 0 0, .slice none 0 0, .int .i64 0, .bool false, .int .i64 0, .int .i64 0, .int .i64 0, .slice none 0 0] 56)).cell? ⟨fb, 22, none⟩ = some (.slice tA T.length tc) := (h.blk.below b1 h.blk.lt).cell 22
  have c0 : ((w.alloc (.cells #[.int .i64 0, .bool false, .int .i64 0, .int .i64 0, .int .i64 0, .slice none 0 0, .slice none 0 0, .int .i64 0, .bool false, .int .i64 0, .int .i64 0, .int .i64 0, .slice none 0 0] 56)).alloc (.cells #[.slice tA T.length tc, .int .i64 0, .bool false, .int .i64 0, .int .i64 0, .int .i64 0, .int .i64 0, .slice none 0 0, .int .i64 0, .int .i64 0] 145)).cell? ⟨fb, 0, none⟩ = some (.int .i64 15) := by rw [← hp]; exact (h.blk.below b2 h.blk.lt).cell 0
  have HF := Lib.hid (hfull.below b2)
  have HR := Lib.hid hr
  have HB2 := Lib.hid b2
  have HG := Lib.hid hg
  have HNN := Lib.hid (show (RunS.mk T 0 false ask0).left < N by unfold RunS.left; simp; omega)
  have T3 := Lib.hid t3
  have HP := Lib.hid hp
  have HZ2 := Lib.hid hz2
  clear t3 hp hz2
  clear tr hr hfull h b1 b2 hz1 hg hf
  go_enter Tryz.func95, Tryz.ntmps95
  go_wp2_with (fail)
  generalize ((w.alloc (.cells #[.int .i64 0, .bool false, .int .i64 0, .int .i64 0, .int .i64 0, .slice none 0 0, .slice none 0 0, .int .i64 0, .bool false, .int .i64 0, .int .i64 0, .int .i64 0, .slice none 0 0] 56)).alloc (.cells #[.slice tA T.length tc, .int .i64 0, .bool false, .int .i64 0, .int .i64 0, .int .i64 0, .int .i64 0, .slice none 0 0, .int .i64 0, .int .i64 0] 145)) = w2 at HF HR HB2 T3 HZ2 c0 ⊢
  clear c22
  with_reducible refine (low15_any F _ fb (w.heap.size + 1) x N T done o o' ⟨T, 0, false, ask0⟩ s' w2 HF.out HR.out d0 HP.out ha hk HNN.out HG.out).mono ?_
  rintro e w3 ⟨pv3, sv3, lv3, rfl, hrows, hra⟩
  have HROW := Lib.hid hrows
  have HRA := Lib.hid hra
  have hne : ¬ w.heap.size = w.heap.size + 1 := by omega
  have T33 := Lib.hid (hra.2.blk T3.out hne)
  have hone : (#[.int .i64 o'.word, .bool o'.ok, .int .i64 o'.n, .int .i64 o'.m, .int .i64 o'.value, pv3, sv3, .int .i64 o'.res.why, .bool o'.res.found, .int .i64 o'.res.key, .int .i64 o'.res.val, .int .i64 o'.res.n, lv3] : Array Value).all (·.oneCell') = true := by
    obtain ⟨_, _, rfl⟩ := own_shape hrows.prs.1
    obtain ⟨_, _, rfl⟩ := own_shape hrows.sps.1
    obtain ⟨_, _, rfl⟩ := own_shape hrows.lst.1
    simp [Value.oneCell']
  have HONE := Lib.hid hone
  clear hrows hra HR HF T3 hone c0 HG HP HNN
  unfold outV
  go_wp2_with (first | ((with_reducible refine (show wpList _ _ _ ((Oper.mk none (.store _ (.tmp 3) _) _ _ _ _) :: _) _ _ from ?_)); refine wpList_store_row rfl 56 (.tmp 3) (.tmp 20) rfl w.heap.size #[.int .i64 o'.word, .bool o'.ok, .int .i64 o'.n, .int .i64 o'.m, .int .i64 o'.value, pv3, sv3, .int .i64 o'.res.why, .bool o'.res.found, .int .i64 o'.res.key, .int .i64 o'.res.val, .int .i64 o'.res.n, lv3] rfl rfl _ _ T33.out (by kernel_rfl) rfl HONE.out ?_))
  refine bodyPost_ret (v := .tuple #[.pointer (some ⟨w.heap.size + 1, 0, none⟩), .agg #[.int .i64 o'.word, .bool o'.ok, .int .i64 o'.n, .int .i64 o'.m, .int .i64 o'.value, pv3, sv3, .int .i64 o'.res.why, .bool o'.res.found, .int .i64 o'.res.key, .int .i64 o'.res.val, .int .i64 o'.res.n, lv3]]) (results_tmp_cell rfl _ _ _ w.heap.size _ _ (0, 0) _ rfl rfl (T33.out.setRow _) Tryz.underlying56 rfl (by kernel_rfl)) rfl ?_
  have hz2 := HZ2.out
  have hc6 : Chg (fun y => y = w.heap.size) w3 (w3.setRow w.heap.size #[.int .i64 o'.word, .bool o'.ok, .int .i64 o'.n, .int .i64 o'.m, .int .i64 o'.value, pv3, sv3, .int .i64 o'.res.why, .bool o'.res.found, .int .i64 o'.res.key, .int .i64 o'.res.val, .int .i64 o'.res.n, lv3]) := Chg.setRow _ _ _
  have hk6 : ∀ y, y = w.heap.size → ∃ t cs, Blk w3 y t cs ∧ t = 56 := fun y hy => ⟨_, _, hy ▸ T33.out, rfl⟩
  refine ⟨w.heap.size + 1, pv3, sv3, lv3, rfl, ?_, ?_, by omega, ?_⟩
  · exact (HROW.out.keep hc6 (fun y hy => by obtain ⟨t, cs, h1, rfl⟩ := hk6 y hy; exact ⟨_, _, h1, by decide, by decide⟩)).mono (fun y hy => by omega)
  · exact (HRA.out.1.keep hc6 (fun y hy => by obtain ⟨t, cs, h1, rfl⟩ := hk6 y hy; exact ⟨_, _, h1, by decide, by decide⟩)).mono (fun y hy => hy.elim id (fun h => .inr (by omega)))
  · exact (HB2.out.trans (HRA.out.2.below (fun y hy => by omega) (by omega))).trans (hc6.below (fun y hy => by omega) (by have := HRA.out.2.size; omega))
set_option maxRecDepth 100000 in
set_option maxHeartbeats 4000000 in
theorem play16_any (F : Nat → Prop) (fb : Nat) (x : FX) (N : Nat) (T : List Int) (done : Bool) (o o' : FOut) (s' : RunS) (w : World) (h : FrP F fb x T done o w) (d0 : (RunS.mk T 0 false ask0).Bd) (hp : x.proc = 16) (ha : i64B x.a) (hk : i64B x.p) (hf : T.length + 1 < N) (hg : (x.tree N).go ⟨T, 0, false, ask0⟩ = (o', s')) :
    Calls Tryz.prog 95 #[.pointer (some ⟨fb, 0, none⟩)] w (PlayPost F o' s' w) := by
  have hfull := h
  obtain ⟨xv, tv, pv, sv, lv, rec, laid, h⟩ := h
  obtain ⟨tA, tc, rfl⟩ := own_shape h.tape
  have hflt := h.blk.lt
  have hz1 : (w.alloc (.cells #[.int .i64 0, .bool false, .int .i64 0, .int .i64 0, .int .i64 0, .slice none 0 0, .slice none 0 0, .int .i64 0, .bool false, .int .i64 0, .int .i64 0, .int .i64 0, .slice none 0 0] 56)).heap.size = w.heap.size + 1 := by simp
  have hz2 : ((w.alloc (.cells #[.int .i64 0, .bool false, .int .i64 0, .int .i64 0, .int .i64 0, .slice none 0 0, .slice none 0 0, .int .i64 0, .bool false, .int .i64 0, .int .i64 0, .int .i64 0, .slice none 0 0] 56)).alloc (.cells #[.slice tA T.length tc, .int .i64 0, .bool false, .int .i64 0, .int .i64 0, .int .i64 0, .int .i64 0, .slice none 0 0, .int .i64 0, .int .i64 0] 145)).heap.size = w.heap.size + 2 := by simp
  have b1 : Below w.heap.size w (w.alloc (.cells #[.int .i64 0, .bool false, .int .i64 0, .int .i64 0, .int .i64 0, .slice none 0 0, .slice none 0 0, .int .i64 0, .bool false, .int .i64 0, .int .i64 0, .int .i64 0, .slice none 0 0] 56)) := (Below.refl w.heap.size w).alloc (Nat.le_refl _) _
  have b2 : Below w.heap.size w ((w.alloc (.cells #[.int .i64 0, .bool false, .int .i64 0, .int .i64 0, .int .i64 0, .slice none 0 0, .slice none 0 0, .int .i64 0, .bool false, .int .i64 0, .int .i64 0, .int .i64 0, .slice none 0 0] 56)).alloc (.cells #[.slice tA T.length tc, .int .i64 0, .bool false, .int .i64 0, .int .i64 0, .int .i64 0, .int .i64 0, .slice none 0 0, .int .i64 0, .int .i64 0] 145)) := b1.alloc b1.size _
  have t3 : Blk ((w.alloc (.cells #[.int .i64 0, .bool false, .int .i64 0, .int .i64 0, .int .i64 0, .slice none 0 0, .slice none 0 0, .int .i64 0, .bool false, .int .i64 0, .int .i64 0, .int .i64 0, .slice none 0 0] 56)).alloc (.cells #[.slice tA T.length tc, .int .i64 0, .bool false, .int .i64 0, .int .i64 0, .int .i64 0, .int .i64 0, .slice none 0 0, .int .i64 0, .int .i64 0] 145)) w.heap.size 56 #[.int .i64 0, .bool false, .int .i64 0, .int .i64 0, .int .i64 0, .slice none 0 0, .slice none 0 0, .int .i64 0, .bool false, .int .i64 0, .int .i64 0, .int .i64 0, .slice none 0 0] := (Blk.new w 56 #[.int .i64 0, .bool false, .int .i64 0, .int .i64 0, .int .i64 0, .slice none 0 0, .slice none 0 0, .int .i64 0, .bool false, .int .i64 0, .int .i64 0, .int .i64 0, .slice none 0 0]).below ((Below.refl (w.alloc (.cells #[.int .i64 0, .bool false, .int .i64 0, .int .i64 0, .int .i64 0, .slice none 0 0, .slice none 0 0, .int .i64 0, .bool false, .int .i64 0, .int .i64 0, .int .i64 0, .slice none 0 0] 56)).heap.size (w.alloc (.cells #[.int .i64 0, .bool false, .int .i64 0, .int .i64 0, .int .i64 0, .slice none 0 0, .slice none 0 0, .int .i64 0, .bool false, .int .i64 0, .int .i64 0, .int .i64 0, .slice none 0 0] 56))).alloc (Nat.le_refl _) (.cells #[.slice tA T.length tc, .int .i64 0, .bool false, .int .i64 0, .int .i64 0, .int .i64 0, .int .i64 0, .slice none 0 0, .int .i64 0, .int .i64 0] 145)) (Blk.new w 56 #[.int .i64 0, .bool false, .int .i64 0, .int .i64 0, .int .i64 0, .slice none 0 0, .slice none 0 0, .int .i64 0, .bool false, .int .i64 0, .int .i64 0, .int .i64 0, .slice none 0 0]).lt
  have tr : Blk ((w.alloc (.cells #[.int .i64 0, .bool false, .int .i64 0, .int .i64 0, .int .i64 0, .slice none 0 0, .slice none 0 0, .int .i64 0, .bool false, .int .i64 0, .int .i64 0, .int .i64 0, .slice none 0 0] 56)).alloc (.cells #[.slice tA T.length tc, .int .i64 0, .bool false, .int .i64 0, .int .i64 0, .int .i64 0, .int .i64 0, .slice none 0 0, .int .i64 0, .int .i64 0] 145)) (w.heap.size + 1) 145 #[.slice tA T.length tc, .int .i64 0, .bool false, .int .i64 0, .int .i64 0, .int .i64 0, .int .i64 0, .slice none 0 0, .int .i64 0, .int .i64 0] := by
    have := Blk.new (w.alloc (.cells #[.int .i64 0, .bool false, .int .i64 0, .int .i64 0, .int .i64 0, .slice none 0 0, .slice none 0 0, .int .i64 0, .bool false, .int .i64 0, .int .i64 0, .int .i64 0, .slice none 0 0] 56)) 145 #[.slice tA T.length tc, .int .i64 0, .bool false, .int .i64 0, .int .i64 0, .int .i64 0, .int .i64 0, .slice none 0 0, .int .i64 0, .int .i64 0]
    rw [hz1] at this
    exact this
  have hr : RunP (fun y => F y ∨ w.heap.size ≤ y) (w.heap.size + 1) ⟨T, 0, false, ask0⟩ ((w.alloc (.cells #[.int .i64 0, .bool false, .int .i64 0, .int .i64 0, .int .i64 0, .slice none 0 0, .slice none 0 0, .int .i64 0, .bool false, .int .i64 0, .int .i64 0, .int .i64 0, .slice none 0 0] 56)).alloc (.cells #[.slice tA T.length tc, .int .i64 0, .bool false, .int .i64 0, .int .i64 0, .int .i64 0, .int .i64 0, .slice none 0 0, .int .i64 0, .int .i64 0] 145)) := ⟨.slice tA T.length tc, .slice none 0 0, 0, 0, .inr (by omega), tr, own_below h.tape b2, World.ownsRow_nil _ _ _ _, fun g hg => .inl (h.ft g hg), fun g hg => absurd hg (by simp [Value.ownBlock])⟩
  have c22 : (w.alloc (.cells #[.int .i64 0, .bool false, .int .i64 0, .int .i64 0, .int .i64 0, .slice none 0 0, .slice none 0 0, .int .i64 0, .bool false, .int .i64 0, .int .i64 0, .int .i64 0, .slice none 0 0] 56)).cell? ⟨fb, 22, none⟩ = some (.slice tA T.length tc) := (h.blk.below b1 h.blk.lt).cell 22
  have c0 : ((w.alloc (.cells #[.int .i64 0, .bool false, .int .i64 0, .int .i64 0, .int .i64 0, .slice none 0 0, .slice none 0 0, .int .i64 0, .bool false, .int .i64 0, .int .i64 0, .int .i64 0, .slice none 0 0] 56)).alloc (.cells #[.slice tA T.length tc, .int .i64 0, .bool false, .int .i64 0, .int .i64 0, .int .i64 0, .int .i64 0, .slice none 0 0, .int .i64 0, .int .i64 0] 145)).cell? ⟨fb, 0, none⟩ = some (.int .i64 16) := by rw [← hp]; exact (h.blk.below b2 h.blk.lt).cell 0
  have HF := Lib.hid (hfull.below b2)
  have HR := Lib.hid hr
  have HB2 := Lib.hid b2
  have HG := Lib.hid hg
  have HNN := Lib.hid (show (RunS.mk T 0 false ask0).left < N by unfold RunS.left; simp; omega)
  have T3 := Lib.hid t3
  have HP := Lib.hid hp
  have HZ2 := Lib.hid hz2
  clear t3 hp hz2
  clear tr hr hfull h b1 b2 hz1 hg hf
  go_enter Tryz.func95, Tryz.ntmps95
  go_wp2_with (fail)
  generalize ((w.alloc (.cells #[.int .i64 0, .bool false, .int .i64 0, .int .i64 0, .int .i64 0, .slice none 0 0, .slice none 0 0, .int .i64 0, .bool false, .int .i64 0, .int .i64 0, .int .i64 0, .slice none 0 0] 56)).alloc (.cells #[.slice tA T.length tc, .int .i64 0, .bool false, .int .i64 0, .int .i64 0, .int .i64 0, .int .i64 0, .slice none 0 0, .int .i64 0, .int .i64 0] 145)) = w2 at HF HR HB2 T3 HZ2 c0 ⊢
  clear c22
  with_reducible refine (low16_any F _ fb (w.heap.size + 1) x N T done o o' ⟨T, 0, false, ask0⟩ s' w2 HF.out HR.out d0 HP.out ha hk HNN.out HG.out).mono ?_
  rintro e w3 ⟨pv3, sv3, lv3, rfl, hrows, hra⟩
  have HROW := Lib.hid hrows
  have HRA := Lib.hid hra
  have hne : ¬ w.heap.size = w.heap.size + 1 := by omega
  have T33 := Lib.hid (hra.2.blk T3.out hne)
  have hone : (#[.int .i64 o'.word, .bool o'.ok, .int .i64 o'.n, .int .i64 o'.m, .int .i64 o'.value, pv3, sv3, .int .i64 o'.res.why, .bool o'.res.found, .int .i64 o'.res.key, .int .i64 o'.res.val, .int .i64 o'.res.n, lv3] : Array Value).all (·.oneCell') = true := by
    obtain ⟨_, _, rfl⟩ := own_shape hrows.prs.1
    obtain ⟨_, _, rfl⟩ := own_shape hrows.sps.1
    obtain ⟨_, _, rfl⟩ := own_shape hrows.lst.1
    simp [Value.oneCell']
  have HONE := Lib.hid hone
  clear hrows hra HR HF T3 hone c0 HG HP HNN
  unfold outV
  go_wp2_with (first | ((with_reducible refine (show wpList _ _ _ ((Oper.mk none (.store _ (.tmp 3) _) _ _ _ _) :: _) _ _ from ?_)); refine wpList_store_row rfl 56 (.tmp 3) (.tmp 20) rfl w.heap.size #[.int .i64 o'.word, .bool o'.ok, .int .i64 o'.n, .int .i64 o'.m, .int .i64 o'.value, pv3, sv3, .int .i64 o'.res.why, .bool o'.res.found, .int .i64 o'.res.key, .int .i64 o'.res.val, .int .i64 o'.res.n, lv3] rfl rfl _ _ T33.out (by kernel_rfl) rfl HONE.out ?_))
  refine bodyPost_ret (v := .tuple #[.pointer (some ⟨w.heap.size + 1, 0, none⟩), .agg #[.int .i64 o'.word, .bool o'.ok, .int .i64 o'.n, .int .i64 o'.m, .int .i64 o'.value, pv3, sv3, .int .i64 o'.res.why, .bool o'.res.found, .int .i64 o'.res.key, .int .i64 o'.res.val, .int .i64 o'.res.n, lv3]]) (results_tmp_cell rfl _ _ _ w.heap.size _ _ (0, 0) _ rfl rfl (T33.out.setRow _) Tryz.underlying56 rfl (by kernel_rfl)) rfl ?_
  have hz2 := HZ2.out
  have hc6 : Chg (fun y => y = w.heap.size) w3 (w3.setRow w.heap.size #[.int .i64 o'.word, .bool o'.ok, .int .i64 o'.n, .int .i64 o'.m, .int .i64 o'.value, pv3, sv3, .int .i64 o'.res.why, .bool o'.res.found, .int .i64 o'.res.key, .int .i64 o'.res.val, .int .i64 o'.res.n, lv3]) := Chg.setRow _ _ _
  have hk6 : ∀ y, y = w.heap.size → ∃ t cs, Blk w3 y t cs ∧ t = 56 := fun y hy => ⟨_, _, hy ▸ T33.out, rfl⟩
  refine ⟨w.heap.size + 1, pv3, sv3, lv3, rfl, ?_, ?_, by omega, ?_⟩
  · exact (HROW.out.keep hc6 (fun y hy => by obtain ⟨t, cs, h1, rfl⟩ := hk6 y hy; exact ⟨_, _, h1, by decide, by decide⟩)).mono (fun y hy => by omega)
  · exact (HRA.out.1.keep hc6 (fun y hy => by obtain ⟨t, cs, h1, rfl⟩ := hk6 y hy; exact ⟨_, _, h1, by decide, by decide⟩)).mono (fun y hy => hy.elim id (fun h => .inr (by omega)))
  · exact (HB2.out.trans (HRA.out.2.below (fun y hy => by omega) (by omega))).trans (hc6.below (fun y hy => by omega) (by have := HRA.out.2.size; omega))
def setArr (cs : Array Value) : Nat → List Value → Array Value
  | _, [] => cs
  | o, v :: r => setArr (cs.setIfInBounds o v) (o + 1) r
theorem Blk.setCells {g : Nat} {t : TypeId} : ∀ (vs : List Value) (o : Nat) (cs : Array Value) (w : World), Blk w g t cs → Blk (w.setCells g o vs) g t (setArr cs o vs)
  | [], o, cs, w, h => h
  | v :: r, o, cs, w, h => Blk.setCells r (o + 1) _ _ (h.set_ o v)
theorem Chg.setCells (g : Nat) : ∀ (vs : List Value) (o : Nat) (w : World), Chg (fun y => y = g) w (w.setCells g o vs)
  | [], o, w => Chg.refl _ _
  | v :: r, o, w => (Chg.set1 w g o v).trans (Chg.setCells g r (o + 1) _)
theorem Blk.out {w : World} {fb : Nat} {x : FX} {xv tv pv sv lv pv3 sv3 lv3 : Value} {done : Bool} {o o' : FOut} {rec laid : Int} (h : Blk w fb 58 #[.int .i64 x.proc, .int .i64 x.a, .int .i64 x.b, .int .i64 0, .int .i64 x.p, .int .i64 0, .int .i64 x.w.lo, .int .i64 x.w.hi, .bool x.w.back, .int .i64 x.w.most, .bool x.w.values, .slice none 0 0, .slice none 0 0, xv, .slice none 0 0, .slice none 0 0, .int .i64 0, .int .i64 0, .int .i64 0, .int .i64 x.op.kind, .int .i64 x.op.key, .int .i64 x.op.val, tv, .bool done, .int .i64 o.word, .bool o.ok, .int .i64 o.n, .int .i64 o.m, .int .i64 o.value, pv, sv, .int .i64 o.res.why, .bool o.res.found, .int .i64 o.res.key, .int .i64 o.res.val, .int .i64 o.res.n, lv, .int .i64 rec, .int .i64 laid]) : Blk (w.setCells fb 24 [.int .i64 o'.word, .bool o'.ok, .int .i64 o'.n, .int .i64 o'.m, .int .i64 o'.value, pv3, sv3, .int .i64 o'.res.why, .bool o'.res.found, .int .i64 o'.res.key, .int .i64 o'.res.val, .int .i64 o'.res.n, lv3]) fb 58 #[.int .i64 x.proc, .int .i64 x.a, .int .i64 x.b, .int .i64 0, .int .i64 x.p, .int .i64 0, .int .i64 x.w.lo, .int .i64 x.w.hi, .bool x.w.back, .int .i64 x.w.most, .bool x.w.values, .slice none 0 0, .slice none 0 0, xv, .slice none 0 0, .slice none 0 0, .int .i64 0, .int .i64 0, .int .i64 0, .int .i64 x.op.kind, .int .i64 x.op.key, .int .i64 x.op.val, tv, .bool done, .int .i64 o'.word, .bool o'.ok, .int .i64 o'.n, .int .i64 o'.m, .int .i64 o'.value, pv3, sv3, .int .i64 o'.res.why, .bool o'.res.found, .int .i64 o'.res.key, .int .i64 o'.res.val, .int .i64 o'.res.n, lv3, .int .i64 rec, .int .i64 laid] := by
  have := Blk.setCells [.int .i64 o'.word, .bool o'.ok, .int .i64 o'.n, .int .i64 o'.m, .int .i64 o'.value, pv3, sv3, .int .i64 o'.res.why, .bool o'.res.found, .int .i64 o'.res.key, .int .i64 o'.res.val, .int .i64 o'.res.n, lv3] 24 _ w h
  have e : setArr #[.int .i64 x.proc, .int .i64 x.a, .int .i64 x.b, .int .i64 0, .int .i64 x.p, .int .i64 0, .int .i64 x.w.lo, .int .i64 x.w.hi, .bool x.w.back, .int .i64 x.w.most, .bool x.w.values, .slice none 0 0, .slice none 0 0, xv, .slice none 0 0, .slice none 0 0, .int .i64 0, .int .i64 0, .int .i64 0, .int .i64 x.op.kind, .int .i64 x.op.key, .int .i64 x.op.val, tv, .bool done, .int .i64 o.word, .bool o.ok, .int .i64 o.n, .int .i64 o.m, .int .i64 o.value, pv, sv, .int .i64 o.res.why, .bool o.res.found, .int .i64 o.res.key, .int .i64 o.res.val, .int .i64 o.res.n, lv, .int .i64 rec, .int .i64 laid] 24 [.int .i64 o'.word, .bool o'.ok, .int .i64 o'.n, .int .i64 o'.m, .int .i64 o'.value, pv3, sv3, .int .i64 o'.res.why, .bool o'.res.found, .int .i64 o'.res.key, .int .i64 o'.res.val, .int .i64 o'.res.n, lv3] = #[.int .i64 x.proc, .int .i64 x.a, .int .i64 x.b, .int .i64 0, .int .i64 x.p, .int .i64 0, .int .i64 x.w.lo, .int .i64 x.w.hi, .bool x.w.back, .int .i64 x.w.most, .bool x.w.values, .slice none 0 0, .slice none 0 0, xv, .slice none 0 0, .slice none 0 0, .int .i64 0, .int .i64 0, .int .i64 0, .int .i64 x.op.kind, .int .i64 x.op.key, .int .i64 x.op.val, tv, .bool done, .int .i64 o'.word, .bool o'.ok, .int .i64 o'.n, .int .i64 o'.m, .int .i64 o'.value, pv3, sv3, .int .i64 o'.res.why, .bool o'.res.found, .int .i64 o'.res.key, .int .i64 o'.res.val, .int .i64 o'.res.n, lv3, .int .i64 rec, .int .i64 laid] := by kernel_rfl
  rw [e] at this
  exact this
section
variable {F : Nat → Prop} {fb : Nat} {x : FX} {T : List Int} {done done' : Bool} {o o' : FOut} {xv tv pv sv lv pv3 sv3 lv3 : Value} {rec laid rec' laid' : Int} {w w' : World}
/-- The frame's own block turned: its rows are as they were. -/
theorem FrQ.own (h : FrQ F fb x T done o xv tv pv sv lv rec laid w) (m : Chg (fun y => y = fb) w w') (hb : Blk w' fb 58 #[.int .i64 x.proc, .int .i64 x.a, .int .i64 x.b, .int .i64 0, .int .i64 x.p, .int .i64 0, .int .i64 x.w.lo, .int .i64 x.w.hi, .bool x.w.back, .int .i64 x.w.most, .bool x.w.values, .slice none 0 0, .slice none 0 0, xv, .slice none 0 0, .slice none 0 0, .int .i64 0, .int .i64 0, .int .i64 0, .int .i64 x.op.kind, .int .i64 x.op.key, .int .i64 x.op.val, tv, .bool done', .int .i64 o.word, .bool o.ok, .int .i64 o.n, .int .i64 o.m, .int .i64 o.value, pv, sv, .int .i64 o.res.why, .bool o.res.found, .int .i64 o.res.key, .int .i64 o.res.val, .int .i64 o.res.n, lv, .int .i64 rec', .int .i64 laid']) : FrQ F fb x T done' o xv tv pv sv lv rec' laid' w' :=
  ⟨h.ff, hb, m.own h.tape (own_blk_not h.tape h.blk (by decide)), h.ft, h.spots.keep m (fun y hy => ⟨_, _, hy ▸ h.blk, by decide⟩), h.rows.keep m (fun y hy => ⟨_, _, hy ▸ h.blk, by decide, by decide⟩)⟩
end
theorem there_blk {w : World} {g : Nat} {t : TypeId} {cs : Array Value} (h : Blk w g t cs) (o n : Nat) (hn : o + n ≤ cs.size) : w.there g o n := fun j hj => ⟨by rw [h.cell]; rw [Array.getElem?_eq_getElem (by omega)]; rfl, h.frozen _⟩
def PlayC (N : Nat) (x : FX) : Prop := ∀ (F : Nat → Prop) (fb : Nat) (T : List Int) (done : Bool) (o o' : FOut) (s' : RunS) (w : World), FrP F fb x T done o w → (RunS.mk T 0 false ask0).Bd → T.length + 1 < N → (x.tree N).go ⟨T, 0, false, ask0⟩ = (o', s') →
  Calls Tryz.prog 95 #[.pointer (some ⟨fb, 0, none⟩)] w (PlayPost F o' s' w)
theorem playC15 {N : Nat} {x : FX} (hp : x.proc = 15) (ha : i64B x.a) (hk : i64B x.p) : PlayC N x := fun F fb T done o o' s' w h d0 hf hg => play15_any F fb x N T done o o' s' w h d0 hp ha hk hf hg
theorem playC16 {N : Nat} {x : FX} (hp : x.proc = 16) (ha : i64B x.a) (hk : i64B x.p) : PlayC N x := fun F fb T done o o' s' w h d0 hf hg => play16_any F fb x N T done o o' s' w h d0 hp ha hk hf hg
def SettlePost (F : Nat → Prop) (fb : Nat) (x : FX) (T : List Int) (done : Bool) (o o' : FOut) (off : Bool) (w : World) (e : Ending) (w' : World) : Prop := e = .returned (.tuple #[]) ∧ FrP (fun y => F y ∨ w.heap.size ≤ y) fb x T (done || !off) (if off = true then o else o') w' ∧ Chg (fun y => y = fb) w w'
set_option maxRecDepth 100000 in
set_option maxHeartbeats 4000000 in
theorem settle_any (N : Nat) (x : FX) (hP : PlayC N x) (F : Nat → Prop) (fb : Nat) (T : List Int) (done : Bool) (o o' : FOut) (s' : RunS) (w : World) (h : FrP F fb x T done o w) (d0 : (RunS.mk T 0 false ask0).Bd) (hf : T.length + 1 < N) (hg : (x.tree N).go ⟨T, 0, false, ask0⟩ = (o', s')) :
    Calls Tryz.prog 90 #[.pointer (some ⟨fb, 0, none⟩)] w (SettlePost F fb x T done o o' s'.off w) := by
  have HC := Lib.hid (hP F fb T done o o' s' w h d0 hf hg)
  have hflt := h.lt
  have H := Lib.hid h
  obtain ⟨off, hoff⟩ : ∃ b, s'.off = b := ⟨_, rfl⟩
  rw [hoff]
  have HOFF := Lib.hid hoff
  clear hP h hg hoff
  cases off with
  | true =>
    go_enter Tryz.func90, Tryz.ntmps90
    go_wp2_with (fail)
    with_reducible refine (HC.out).mono ?_
    rintro e w1 ⟨rb, pv3, sv3, lv3, rfl, hrows, hrun, hrb, hb1⟩
    have H1 := Lib.hid (H.out.below hb1)
    have hz1 := hb1.size
    have hone : (#[.int .i64 o'.word, .bool o'.ok, .int .i64 o'.n, .int .i64 o'.m, .int .i64 o'.value, pv3, sv3, .int .i64 o'.res.why, .bool o'.res.found, .int .i64 o'.res.key, .int .i64 o'.res.val, .int .i64 o'.res.n, lv3] : Array Value).all (·.oneCell') = true := by
      obtain ⟨_, _, rfl⟩ := own_shape hrows.prs.1
      obtain ⟨_, _, rfl⟩ := own_shape hrows.sps.1
      obtain ⟨_, _, rfl⟩ := own_shape hrows.lst.1
      simp [Value.oneCell']
    have hbn := Blk.new w1 56 #[.int .i64 0, .bool false, .int .i64 0, .int .i64 0, .int .i64 0, .slice none 0 0, .slice none 0 0, .int .i64 0, .bool false, .int .i64 0, .int .i64 0, .int .i64 0, .slice none 0 0]
    have hba := (Below.refl w1.heap.size w1).alloc (Nat.le_refl _) (.cells #[.int .i64 0, .bool false, .int .i64 0, .int .i64 0, .int .i64 0, .slice none 0 0, .slice none 0 0, .int .i64 0, .bool false, .int .i64 0, .int .i64 0, .int .i64 0, .slice none 0 0] 56)
    have hcs : Chg (fun y => y = w1.heap.size) (w1.alloc (.cells #[.int .i64 0, .bool false, .int .i64 0, .int .i64 0, .int .i64 0, .slice none 0 0, .slice none 0 0, .int .i64 0, .bool false, .int .i64 0, .int .i64 0, .int .i64 0, .slice none 0 0] 56)) ((w1.alloc (.cells #[.int .i64 0, .bool false, .int .i64 0, .int .i64 0, .int .i64 0, .slice none 0 0, .slice none 0 0, .int .i64 0, .bool false, .int .i64 0, .int .i64 0, .int .i64 0, .slice none 0 0] 56)).setRow w1.heap.size #[.int .i64 o'.word, .bool o'.ok, .int .i64 o'.n, .int .i64 o'.m, .int .i64 o'.value, pv3, sv3, .int .i64 o'.res.why, .bool o'.res.found, .int .i64 o'.res.key, .int .i64 o'.res.val, .int .i64 o'.res.n, lv3]) := Chg.setRow _ _ _
    have hbb : Below w1.heap.size w1 ((w1.alloc (.cells #[.int .i64 0, .bool false, .int .i64 0, .int .i64 0, .int .i64 0, .slice none 0 0, .slice none 0 0, .int .i64 0, .bool false, .int .i64 0, .int .i64 0, .int .i64 0, .slice none 0 0] 56)).setRow w1.heap.size #[.int .i64 o'.word, .bool o'.ok, .int .i64 o'.n, .int .i64 o'.m, .int .i64 o'.value, pv3, sv3, .int .i64 o'.res.why, .bool o'.res.found, .int .i64 o'.res.key, .int .i64 o'.res.val, .int .i64 o'.res.n, lv3]) := hba.trans (hcs.below (fun y hy => by omega) hba.size)
    have HT := Lib.hid hbn
    have HT2 := Lib.hid (hbn.setRow #[.int .i64 o'.word, .bool o'.ok, .int .i64 o'.n, .int .i64 o'.m, .int .i64 o'.value, pv3, sv3, .int .i64 o'.res.why, .bool o'.res.found, .int .i64 o'.res.key, .int .i64 o'.res.val, .int .i64 o'.res.n, lv3])
    have HONE := Lib.hid hone
    have HR2 := Lib.hid (hrun.below hbb)
    have HROW2 := Lib.hid (hrows.chg (G := fun _ => False) (Chg.of_below hbb) (fun _ _ g => g))
    have HF2 := Lib.hid (H1.out.below hbb)
    have HB2 := Lib.hid (hb1.trans (hbb.mono hz1))
    clear hbn hba hcs hbb hone hrun hrows hb1 H1 HC
    unfold outV
    go_wp2_with (first | ((with_reducible refine (show wpList _ _ _ ((Oper.mk none (.store _ (.tmp 3) _) _ _ _ _) :: _) _ _ from ?_)); refine wpList_store_row rfl 56 (.tmp 3) (.tmp 8) rfl w1.heap.size #[.int .i64 o'.word, .bool o'.ok, .int .i64 o'.n, .int .i64 o'.m, .int .i64 o'.value, pv3, sv3, .int .i64 o'.res.why, .bool o'.res.found, .int .i64 o'.res.key, .int .i64 o'.res.val, .int .i64 o'.res.n, lv3] rfl rfl _ _ HT.out (by kernel_rfl) rfl HONE.out ?_; generalize (w1.alloc (.cells #[.int .i64 0, .bool false, .int .i64 0, .int .i64 0, .int .i64 0, .slice none 0 0, .slice none 0 0, .int .i64 0, .bool false, .int .i64 0, .int .i64 0, .int .i64 0, .slice none 0 0] 56)).setRow w1.heap.size #[.int .i64 o'.word, .bool o'.ok, .int .i64 o'.n, .int .i64 o'.m, .int .i64 o'.value, pv3, sv3, .int .i64 o'.res.why, .bool o'.res.found, .int .i64 o'.res.key, .int .i64 o'.res.val, .int .i64 o'.res.n, lv3] = W at HT2 HR2 HROW2 HF2 HB2 ⊢; clear HT; obtain ⟨xv, tv, pv, sv, lv, rec, laid, hq⟩ := HF2.out; obtain ⟨rtv, rwv, rrec, rlaid, hr⟩ := HR2.out; have hnb : rb ≠ fb := hr.blk.ne_ hq.blk (by decide); have hnt : w1.heap.size ≠ fb := HT2.out.ne_ hq.blk (by decide); have q2 := (HOFF.out ▸ hr.blk.cell 2 : W.cell? ⟨rb, 2, none⟩ = some (.bool true)); have q8 : W.cell? ⟨rb, 8, none⟩ = some (.int .i64 rrec) := hr.blk.cell 8; have q9 : W.cell? ⟨rb, 9, none⟩ = some (.int .i64 rlaid) := hr.blk.cell 9; have c37 : W.cell? ⟨fb, 37, none⟩ = some (.int .i64 rec) := hq.blk.cell 37; have f37 := hq.blk.frozen 37; have b1 := hq.blk.set_ 37 (.int .i64 rrec); have m1 := Chg.set1 W fb 37 (.int .i64 rrec); have r1 : Blk (W.setCell ⟨fb, 37, none⟩ (.int .i64 rrec)) rb _ _ := m1.blk hr.blk hnb; have q91 : (W.setCell ⟨fb, 37, none⟩ (.int .i64 rrec)).cell? ⟨rb, 9, none⟩ = some (.int .i64 rlaid) := r1.cell 9; have c38 : (W.setCell ⟨fb, 37, none⟩ (.int .i64 rrec)).cell? ⟨fb, 38, none⟩ = some (.int .i64 laid) := b1.cell 38; have f38 := b1.frozen 38; have b2 := b1.set_ 38 (.int .i64 rlaid); have m2 := m1.trans (Chg.set1 (W.setCell ⟨fb, 37, none⟩ (.int .i64 rrec)) fb 38 (.int .i64 rlaid)); have r2 : Blk ((W.setCell ⟨fb, 37, none⟩ (.int .i64 rrec)).setCell ⟨fb, 38, none⟩ (.int .i64 rlaid)) rb _ _ := m2.blk hr.blk hnb; have q22 := (HOFF.out ▸ r2.cell 2 : ((W.setCell ⟨fb, 37, none⟩ (.int .i64 rrec)).setCell ⟨fb, 38, none⟩ (.int .i64 rlaid)).cell? ⟨rb, 2, none⟩ = some (.bool true)); skip; have HQ := Lib.hid hq; have HB1 := Lib.hid b2; have HM2 := Lib.hid m2; clear hq hr b1 m1 r1 b2 m2 r2 HF2 HR2))
    go_end0
    have hm := HM2.out
    refine ⟨rfl, ⟨xv, tv, pv, sv, lv, rrec, rlaid, ?_⟩, (Chg.of_below HB2.out).grow hm (fun y hy => .inl hy)⟩
    rw [if_pos rfl, show (done || !true) = done from by cases done <;> rfl]
    exact (HQ.out.own hm HB1.out).mono (fun _ => .inl)
  | false =>
    go_enter Tryz.func90, Tryz.ntmps90
    go_wp2_with (fail)
    with_reducible refine (HC.out).mono ?_
    rintro e w1 ⟨rb, pv3, sv3, lv3, rfl, hrows, hrun, hrb, hb1⟩
    have H1 := Lib.hid (H.out.below hb1)
    have hz1 := hb1.size
    have hone : (#[.int .i64 o'.word, .bool o'.ok, .int .i64 o'.n, .int .i64 o'.m, .int .i64 o'.value, pv3, sv3, .int .i64 o'.res.why, .bool o'.res.found, .int .i64 o'.res.key, .int .i64 o'.res.val, .int .i64 o'.res.n, lv3] : Array Value).all (·.oneCell') = true := by
      obtain ⟨_, _, rfl⟩ := own_shape hrows.prs.1
      obtain ⟨_, _, rfl⟩ := own_shape hrows.sps.1
      obtain ⟨_, _, rfl⟩ := own_shape hrows.lst.1
      simp [Value.oneCell']
    have hbn := Blk.new w1 56 #[.int .i64 0, .bool false, .int .i64 0, .int .i64 0, .int .i64 0, .slice none 0 0, .slice none 0 0, .int .i64 0, .bool false, .int .i64 0, .int .i64 0, .int .i64 0, .slice none 0 0]
    have hba := (Below.refl w1.heap.size w1).alloc (Nat.le_refl _) (.cells #[.int .i64 0, .bool false, .int .i64 0, .int .i64 0, .int .i64 0, .slice none 0 0, .slice none 0 0, .int .i64 0, .bool false, .int .i64 0, .int .i64 0, .int .i64 0, .slice none 0 0] 56)
    have hcs : Chg (fun y => y = w1.heap.size) (w1.alloc (.cells #[.int .i64 0, .bool false, .int .i64 0, .int .i64 0, .int .i64 0, .slice none 0 0, .slice none 0 0, .int .i64 0, .bool false, .int .i64 0, .int .i64 0, .int .i64 0, .slice none 0 0] 56)) ((w1.alloc (.cells #[.int .i64 0, .bool false, .int .i64 0, .int .i64 0, .int .i64 0, .slice none 0 0, .slice none 0 0, .int .i64 0, .bool false, .int .i64 0, .int .i64 0, .int .i64 0, .slice none 0 0] 56)).setRow w1.heap.size #[.int .i64 o'.word, .bool o'.ok, .int .i64 o'.n, .int .i64 o'.m, .int .i64 o'.value, pv3, sv3, .int .i64 o'.res.why, .bool o'.res.found, .int .i64 o'.res.key, .int .i64 o'.res.val, .int .i64 o'.res.n, lv3]) := Chg.setRow _ _ _
    have hbb : Below w1.heap.size w1 ((w1.alloc (.cells #[.int .i64 0, .bool false, .int .i64 0, .int .i64 0, .int .i64 0, .slice none 0 0, .slice none 0 0, .int .i64 0, .bool false, .int .i64 0, .int .i64 0, .int .i64 0, .slice none 0 0] 56)).setRow w1.heap.size #[.int .i64 o'.word, .bool o'.ok, .int .i64 o'.n, .int .i64 o'.m, .int .i64 o'.value, pv3, sv3, .int .i64 o'.res.why, .bool o'.res.found, .int .i64 o'.res.key, .int .i64 o'.res.val, .int .i64 o'.res.n, lv3]) := hba.trans (hcs.below (fun y hy => by omega) hba.size)
    have HT := Lib.hid hbn
    have HT2 := Lib.hid (hbn.setRow #[.int .i64 o'.word, .bool o'.ok, .int .i64 o'.n, .int .i64 o'.m, .int .i64 o'.value, pv3, sv3, .int .i64 o'.res.why, .bool o'.res.found, .int .i64 o'.res.key, .int .i64 o'.res.val, .int .i64 o'.res.n, lv3])
    have HONE := Lib.hid hone
    have HR2 := Lib.hid (hrun.below hbb)
    have HROW2 := Lib.hid (hrows.chg (G := fun _ => False) (Chg.of_below hbb) (fun _ _ g => g))
    have HF2 := Lib.hid (H1.out.below hbb)
    have HB2 := Lib.hid (hb1.trans (hbb.mono hz1))
    clear hbn hba hcs hbb hone hrun hrows hb1 H1 HC
    unfold outV
    go_wp2_with (first | ((with_reducible refine (show wpList _ _ _ ((Oper.mk none (.store _ (.tmp 3) _) _ _ _ _) :: _) _ _ from ?_)); refine wpList_store_row rfl 56 (.tmp 3) (.tmp 8) rfl w1.heap.size #[.int .i64 o'.word, .bool o'.ok, .int .i64 o'.n, .int .i64 o'.m, .int .i64 o'.value, pv3, sv3, .int .i64 o'.res.why, .bool o'.res.found, .int .i64 o'.res.key, .int .i64 o'.res.val, .int .i64 o'.res.n, lv3] rfl rfl _ _ HT.out (by kernel_rfl) rfl HONE.out ?_; generalize (w1.alloc (.cells #[.int .i64 0, .bool false, .int .i64 0, .int .i64 0, .int .i64 0, .slice none 0 0, .slice none 0 0, .int .i64 0, .bool false, .int .i64 0, .int .i64 0, .int .i64 0, .slice none 0 0] 56)).setRow w1.heap.size #[.int .i64 o'.word, .bool o'.ok, .int .i64 o'.n, .int .i64 o'.m, .int .i64 o'.value, pv3, sv3, .int .i64 o'.res.why, .bool o'.res.found, .int .i64 o'.res.key, .int .i64 o'.res.val, .int .i64 o'.res.n, lv3] = W at HT2 HR2 HROW2 HF2 HB2 ⊢; clear HT; obtain ⟨xv, tv, pv, sv, lv, rec, laid, hq⟩ := HF2.out; obtain ⟨rtv, rwv, rrec, rlaid, hr⟩ := HR2.out; have hnb : rb ≠ fb := hr.blk.ne_ hq.blk (by decide); have hnt : w1.heap.size ≠ fb := HT2.out.ne_ hq.blk (by decide); have q2 := (HOFF.out ▸ hr.blk.cell 2 : W.cell? ⟨rb, 2, none⟩ = some (.bool false)); have q8 : W.cell? ⟨rb, 8, none⟩ = some (.int .i64 rrec) := hr.blk.cell 8; have q9 : W.cell? ⟨rb, 9, none⟩ = some (.int .i64 rlaid) := hr.blk.cell 9; have c37 : W.cell? ⟨fb, 37, none⟩ = some (.int .i64 rec) := hq.blk.cell 37; have f37 := hq.blk.frozen 37; have b1 := hq.blk.set_ 37 (.int .i64 rrec); have m1 := Chg.set1 W fb 37 (.int .i64 rrec); have r1 : Blk (W.setCell ⟨fb, 37, none⟩ (.int .i64 rrec)) rb _ _ := m1.blk hr.blk hnb; have q91 : (W.setCell ⟨fb, 37, none⟩ (.int .i64 rrec)).cell? ⟨rb, 9, none⟩ = some (.int .i64 rlaid) := r1.cell 9; have c38 : (W.setCell ⟨fb, 37, none⟩ (.int .i64 rrec)).cell? ⟨fb, 38, none⟩ = some (.int .i64 laid) := b1.cell 38; have f38 := b1.frozen 38; have b2 := b1.set_ 38 (.int .i64 rlaid); have m2 := m1.trans (Chg.set1 (W.setCell ⟨fb, 37, none⟩ (.int .i64 rrec)) fb 38 (.int .i64 rlaid)); have r2 : Blk ((W.setCell ⟨fb, 37, none⟩ (.int .i64 rrec)).setCell ⟨fb, 38, none⟩ (.int .i64 rlaid)) rb _ _ := m2.blk hr.blk hnb; have q22 := (HOFF.out ▸ r2.cell 2 : ((W.setCell ⟨fb, 37, none⟩ (.int .i64 rrec)).setCell ⟨fb, 38, none⟩ (.int .i64 rlaid)).cell? ⟨rb, 2, none⟩ = some (.bool false)); have c23 : ((W.setCell ⟨fb, 37, none⟩ (.int .i64 rrec)).setCell ⟨fb, 38, none⟩ (.int .i64 rlaid)).cell? ⟨fb, 23, none⟩ = some (.bool done) := b2.cell 23; have f23 := b2.frozen 23; have b3 := b2.set_ 23 (.bool true); have m3 := m2.trans (Chg.set1 ((W.setCell ⟨fb, 37, none⟩ (.int .i64 rrec)).setCell ⟨fb, 38, none⟩ (.int .i64 rlaid)) fb 23 (.bool true)); have HT3 := Lib.hid (m3.blk HT2.out hnt); have HTH := Lib.hid (there_blk b3 24 13 (by simp)); have HB3 := Lib.hid b3; have HM3 := Lib.hid m3; clear b3 m3; have HQ := Lib.hid hq; have HB1 := Lib.hid b2; have HM2 := Lib.hid m2; clear hq hr b1 m1 r1 b2 m2 r2 HF2 HR2) | ((with_reducible refine (show wpList _ _ _ ((Oper.mk (some 32) (.load _ _) _ _ _ _) :: _) _ _ from ?_)); refine wpList_load_row rfl 56 (.tmp 3) rfl w1.heap.size rfl _ _ (0, 0) _ HT3.out Tryz.underlying56 rfl (by kernel_rfl) ?_) | ((with_reducible refine (show wpList _ _ _ ((Oper.mk none (.store _ (.tmp 34) _) _ _ _ _) :: _) _ _ from ?_)); refine wpList_store_mid rfl 56 (.tmp 34) (.tmp 32) rfl fb 24 #[.int .i64 o'.word, .bool o'.ok, .int .i64 o'.n, .int .i64 o'.m, .int .i64 o'.value, pv3, sv3, .int .i64 o'.res.why, .bool o'.res.found, .int .i64 o'.res.key, .int .i64 o'.res.val, .int .i64 o'.res.n, lv3] rfl rfl HTH.out (by kernel_rfl) HONE.out ?_))
    go_end0
    have hm := HM3.out.trans (Chg.setCells fb [.int .i64 o'.word, .bool o'.ok, .int .i64 o'.n, .int .i64 o'.m, .int .i64 o'.value, pv3, sv3, .int .i64 o'.res.why, .bool o'.res.found, .int .i64 o'.res.key, .int .i64 o'.res.val, .int .i64 o'.res.n, lv3] 24 _)
    refine ⟨rfl, ⟨xv, tv, pv3, sv3, lv3, rrec, rlaid, ?_⟩, (Chg.of_below HB2.out).grow hm (fun y hy => .inl hy)⟩
    rw [if_neg Bool.false_ne_true, show (done || !false) = true from by cases done <;> rfl]
    have h1 := HQ.out.own HM3.out HB3.out
    have hk : ∀ y, y = fb → ∃ t cs, Blk W y t cs ∧ t ≠ 52 ∧ t ≠ 114 := fun y hy => ⟨_, _, hy ▸ HQ.out.blk, by decide, by decide⟩
    exact ⟨.inl h1.ff, Blk.out h1.blk, hm.own HQ.out.tape (own_blk_not HQ.out.tape HQ.out.blk (by decide)), fun g hg => .inl (HQ.out.ft g hg), (HQ.out.spots.keep hm (fun y hy => by obtain ⟨t, cs, a, b, c⟩ := hk y hy; exact ⟨t, cs, a, c⟩)).mono (fun _ => .inl), (HROW2.out.keep hm hk).mono (fun y hy => .inr (by omega))⟩
end Go.Proofs.YtblajeildolloaaGreat

/- The document's Frame: Step, New. (Printed by genfro.py.) -/
namespace Go.Proofs.YtblajeildolloaaGreat
set_option linter.unusedVariables false
set_option linter.unusedSimpArgs false
open Go.RowKit

section
variable {F G : Nat → Prop} {fb bm : Nat} {x : FX} {T C : List Int} {done : Bool} {o : FOut} {xv tv pv sv lv : Value} {rec laid max : Int} {w w' : World}
theorem FrP.within (h : FrP F fb x T done o w) : FrP (fun y => F y ∧ y < w.heap.size) fb x T done o w := by
  obtain ⟨a, b, c, d, e, f, g, h⟩ := h
  exact ⟨a, b, c, d, e, f, g, ⟨h.ff, h.blk.lt⟩, h.blk, h.tape, fun y hy => ⟨h.ft y hy, own_lt h.tape y hy⟩, h.spots.within, h.rows.prs.within, h.rows.sps.within, h.rows.lst.within⟩
theorem M7.within (h : M7 F bm C max w) : M7 (fun y => F y ∧ y < w.heap.size) bm C max w := by
  obtain ⟨v, a, b, c, h⟩ := h
  exact ⟨v, a, b, c, ⟨h.fb, h.blk.lt⟩, h.blk, h.row, fun y hy => ⟨h.fr y hy, own_lt h.row y hy⟩⟩
theorem FrQ.app {v : Int} {wd w5 : World} {gg cap : Nat} (h : FrQ F fb x T done o xv tv pv sv lv rec laid w) (hb : Below w.heap.size w wd) (hO : w5.ownsRow 0 2 1 (.slice (some ⟨gg, 0, none⟩) (T.length + 1) cap) (T.length + 1) (T.map (Value.int .i64) ++ [.int .i64 v])) (hg : wd.grownBy w5 tv.ownBlock) (hat : tv.ownBlock = some gg ∨ w.heap.size ≤ gg) :
    Hid (w5.cell? ⟨fb, 22, none⟩ = some tv ∧ w5.frozen? ⟨fb, 22, none⟩ = false ∧ FrQ (fun y => F y ∨ w.heap.size ≤ y) fb x (T ++ [v]) done o xv (.slice (some ⟨gg, 0, none⟩) (T.length + 1) cap) pv sv lv rec laid (w5.setCell ⟨fb, 22, none⟩ (.slice (some ⟨gg, 0, none⟩) (T.length + 1) cap)) ∧ Chg (fun y => F y) w (w5.setCell ⟨fb, 22, none⟩ (.slice (some ⟨gg, 0, none⟩) (T.length + 1) cap))) := by
  have hc := (Chg.of_below (F := fun y => tv.ownBlock = some y) hb).trans (Chg.of_grown hg)
  have hbl := hc.blk h.blk (fun e => own_blk_ne h.tape h.blk (by decide) e)
  have hc6 : Chg (fun y => y = fb ∨ tv.ownBlock = some y) w (w5.setCell ⟨fb, 22, none⟩ (.slice (some ⟨gg, 0, none⟩) (T.length + 1) cap)) := (hc.mono (fun _ => .inr)).trans ((Chg.set1 w5 fb 22 _).mono (fun _ => .inl))
  have k : ∀ y, (y = fb ∨ tv.ownBlock = some y) → ∃ t cs, Blk w y t cs ∧ t ≠ 52 ∧ t ≠ 114 := fun y hy => by
    rcases hy with rfl | hy
    · exact ⟨_, _, h.blk, by decide, by decide⟩
    · obtain ⟨cs, hb⟩ := own_blk h.tape hy
      exact ⟨_, cs, hb, by decide, by decide⟩
  refine Lib.hid ⟨hbl.cell 22, hbl.frozen 22, ⟨.inl h.ff, hbl.set_ 22 _, ?_, fun g hg => ?_, (h.spots.keep hc6 (fun y hy => by obtain ⟨t, cs, a, b, c⟩ := k y hy; exact ⟨t, cs, a, c⟩)).mono (fun _ => .inl), (h.rows.keep hc6 k).mono (fun _ => .inl)⟩, hc6.mono (fun y hy => ?_)⟩
  · rw [List.map_append, List.length_append]
    exact (Chg.set1 w5 fb 22 _).own hO (own_blk_not hO hbl (by decide))
  · have hgg : gg = g := by simpa [Value.ownBlock] using hg
    subst hgg
    rcases hat with e | e
    · exact .inl (h.ft gg e)
    · exact .inr e
  · rcases hy with rfl | e
    · exact h.ff
    · exact h.ft y e
end
theorem range_blk {w : World} {g : Nat} {t : TypeId} {cs : Array Value} (h : Blk w g t cs) (o : Nat) (l : List Value) (hl : ∀ j v, l[j]? = some v → cs[o + j]? = some v) : w.rangeAt g o l := fun j v hv => (h.cell (o + j)).trans (hl j v hv)
def StepFPost (F Fm : Nat → Prop) (fb bm : Nat) (x : FX) (T : List Int) (done : Bool) (o : FOut) (C : List Int) (max : Int) (w : World) (e : Ending) (w' : World) : Prop := e = .returned (.bool done) ∧ ∃ F' Fm' : Nat → Prop, FrP F' fb x T done o w' ∧ M7 Fm' bm C max w' ∧ (∀ y, F' y → Fm' y → False) ∧ (∀ y, F' y → F y ∨ w.heap.size ≤ y) ∧ (∀ y, Fm' y → Fm y ∨ w.heap.size ≤ y) ∧ Chg (fun y => F y ∨ Fm y) w w'
set_option maxRecDepth 100000 in
set_option maxHeartbeats 400000 in
theorem stepF_done (F Fm : Nat → Prop) (fb bm : Nat) (x : FX) (T : List Int) (o : FOut) (C : List Int) (max : Int) (w : World) (h : FrP F fb x T true o w) (hm : M7 Fm bm C max w) (hd : ∀ y, F y → Fm y → False) :
    Calls Tryz.prog 31 #[.pointer (some ⟨fb, 0, none⟩), .pointer (some ⟨bm, 0, none⟩)] w (StepFPost F Fm fb bm x T true o C max w) := by
  have c23 : w.cell? ⟨fb, 23, none⟩ = some (.bool true) := by obtain ⟨_, _, _, _, _, _, _, h⟩ := h; exact h.blk.cell 23
  have H : Hid (FrP F fb x T true o w ∧ M7 Fm bm C max w) := Lib.hid ⟨h, hm⟩
  clear h hm
  go_enter Tryz.func31, Tryz.ntmps31
  go_wp2_with (fail)
  go_ret
  exact ⟨rfl, F, Fm, H.out.1, H.out.2, hd, fun y hy => .inl hy, fun y hy => .inl hy, Chg.refl _ _⟩
set_option maxRecDepth 100000 in
set_option maxHeartbeats 4000000 in
theorem stepF_any (N : Nat) (F Fm : Nat → Prop) (fb bm : Nat) (x : FX) (T : List Int) (o o1 o2 : FOut) (s1 s2 : RunS) (C : List Int) (max : Int) (w : World) (hP : PlayC N x) (h : FrP F fb x T false o w) (hm : M7 Fm bm C max w) (hd : ∀ y, F y → Fm y → False)
    (d0 : (RunS.mk T 0 false ask0).Bd) (hf : T.length + 2 < N) (hC : C.length ≤ 1000000) (hm0 : (C.length : Int) ≤ max) (hmx : max ≤ 65536) (v : Int) (C' : List Int) (dn : Bool) (oo : FOut) (hex : exQ max s1.next C = (v, C')) (hv : i64B v) (hq : s1.next.Ok) (hT : T.length ≤ 1000000)
    (hg1 : (x.tree N).go ⟨T, 0, false, ask0⟩ = (o1, s1)) (hoff : s1.off = true) (hg2 : (x.tree N).go ⟨T ++ [v], 0, false, ask0⟩ = (o2, s2)) (hdn : (!s2.off) = dn) (hoo : (if s2.off = true then o else o2) = oo) :
    Calls Tryz.prog 31 #[.pointer (some ⟨fb, 0, none⟩), .pointer (some ⟨bm, 0, none⟩)] w (StepFPost F Fm fb bm x (T ++ [v]) dn oo C' max w) := by
  obtain ⟨i0, hi0, hz0, hz1, hz2⟩ := info_parts info_int64m
  have h := h.within
  have hm := hm.within
  have c23 : w.cell? ⟨fb, 23, none⟩ = some (.bool false) := by obtain ⟨_, _, _, _, _, _, _, h⟩ := h; exact h.blk.cell 23
  have HPC := Lib.hid hP
  have HPL := Lib.hid (hP _ fb T false o o1 s1 w h d0 (by omega) hg1)
  have H := Lib.hid h
  have HM := Lib.hid hm
  have HD := Lib.hid hd
  have HQ := Lib.hid hq
  have HOFF := Lib.hid hoff
  have HG2 := Lib.hid hg2
  have HD2 := Lib.hid (show (RunS.mk (T ++ [v]) 0 false ask0).Bd from ⟨fun y hy => (List.mem_append.1 hy).elim (fun hy => d0.vals y hy) (fun hy => by rw [List.mem_singleton] at hy; rw [hy]; exact hv), by simp; omega, Nat.zero_le _⟩)
  have HEX := Lib.hid hex
  have HDN := Lib.hid hdn
  have HOO := Lib.hid hoo
  clear hP h hm hd hq hoff hg2 hg1 hv hex hdn hoo
  go_enter Tryz.func31, Tryz.ntmps31
  go_wp2_with (fail)
  with_reducible refine (HPL.out).mono ?_
  rintro e w1 ⟨rb, pv3, sv3, lv3, rfl, hrows, hrun, hrb, hb1⟩
  have hzb := hb1.size
  have hone : (#[.int .i64 o1.word, .bool o1.ok, .int .i64 o1.n, .int .i64 o1.m, .int .i64 o1.value, pv3, sv3, .int .i64 o1.res.why, .bool o1.res.found, .int .i64 o1.res.key, .int .i64 o1.res.val, .int .i64 o1.res.n, lv3] : Array Value).all (·.oneCell') = true := by
    obtain ⟨_, _, rfl⟩ := own_shape hrows.prs.1
    obtain ⟨_, _, rfl⟩ := own_shape hrows.sps.1
    obtain ⟨_, _, rfl⟩ := own_shape hrows.lst.1
    simp [Value.oneCell']
  have hbn := Blk.new w1 56 #[.int .i64 0, .bool false, .int .i64 0, .int .i64 0, .int .i64 0, .slice none 0 0, .slice none 0 0, .int .i64 0, .bool false, .int .i64 0, .int .i64 0, .int .i64 0, .slice none 0 0]
  have hba := (Below.refl w1.heap.size w1).alloc (Nat.le_refl _) (.cells #[.int .i64 0, .bool false, .int .i64 0, .int .i64 0, .int .i64 0, .slice none 0 0, .slice none 0 0, .int .i64 0, .bool false, .int .i64 0, .int .i64 0, .int .i64 0, .slice none 0 0] 56)
  have hcs : Chg (fun y => y = w1.heap.size) (w1.alloc (.cells #[.int .i64 0, .bool false, .int .i64 0, .int .i64 0, .int .i64 0, .slice none 0 0, .slice none 0 0, .int .i64 0, .bool false, .int .i64 0, .int .i64 0, .int .i64 0, .slice none 0 0] 56)) ((w1.alloc (.cells #[.int .i64 0, .bool false, .int .i64 0, .int .i64 0, .int .i64 0, .slice none 0 0, .slice none 0 0, .int .i64 0, .bool false, .int .i64 0, .int .i64 0, .int .i64 0, .slice none 0 0] 56)).setRow w1.heap.size #[.int .i64 o1.word, .bool o1.ok, .int .i64 o1.n, .int .i64 o1.m, .int .i64 o1.value, pv3, sv3, .int .i64 o1.res.why, .bool o1.res.found, .int .i64 o1.res.key, .int .i64 o1.res.val, .int .i64 o1.res.n, lv3]) := Chg.setRow _ _ _
  have hbb : Below w1.heap.size w1 ((w1.alloc (.cells #[.int .i64 0, .bool false, .int .i64 0, .int .i64 0, .int .i64 0, .slice none 0 0, .slice none 0 0, .int .i64 0, .bool false, .int .i64 0, .int .i64 0, .int .i64 0, .slice none 0 0] 56)).setRow w1.heap.size #[.int .i64 o1.word, .bool o1.ok, .int .i64 o1.n, .int .i64 o1.m, .int .i64 o1.value, pv3, sv3, .int .i64 o1.res.why, .bool o1.res.found, .int .i64 o1.res.key, .int .i64 o1.res.val, .int .i64 o1.res.n, lv3]) := hba.trans (hcs.below (fun y hy => by omega) hba.size)
  have HT := Lib.hid hbn
  have HONE := Lib.hid hone
  have HR2 := Lib.hid (hrun.below hbb)
  have HB2 := Lib.hid (hb1.trans (hbb.mono hzb))
  have HF2 := Lib.hid (H.out.below HB2.out)
  have HM2 := Lib.hid (HM.out.below HB2.out)
  clear hbn hba hcs hbb hone hrun hrows hb1 HPL
  unfold outV
  go_wp2_with (first | ((with_reducible refine (show wpList _ _ _ ((Oper.mk none (.store _ (.tmp 6) _) _ _ _ _) :: _) _ _ from ?_)); refine wpList_store_row rfl 56 (.tmp 6) (.tmp 15) rfl w1.heap.size #[.int .i64 o1.word, .bool o1.ok, .int .i64 o1.n, .int .i64 o1.m, .int .i64 o1.value, pv3, sv3, .int .i64 o1.res.why, .bool o1.res.found, .int .i64 o1.res.key, .int .i64 o1.res.val, .int .i64 o1.res.n, lv3] rfl rfl _ _ HT.out (by kernel_rfl) rfl HONE.out ?_; generalize (w1.alloc (.cells #[.int .i64 0, .bool false, .int .i64 0, .int .i64 0, .int .i64 0, .slice none 0 0, .slice none 0 0, .int .i64 0, .bool false, .int .i64 0, .int .i64 0, .int .i64 0, .slice none 0 0] 56)).setRow w1.heap.size #[.int .i64 o1.word, .bool o1.ok, .int .i64 o1.n, .int .i64 o1.m, .int .i64 o1.value, pv3, sv3, .int .i64 o1.res.why, .bool o1.res.found, .int .i64 o1.res.key, .int .i64 o1.res.val, .int .i64 o1.res.n, lv3] = W at HR2 HF2 HM2 HB2 ⊢; clear HT HONE))
  obtain ⟨xv, tv, pv, sv, lv, rec, laid, hq⟩ := HF2.out
  obtain ⟨rtv, rwv, rrec, rlaid, hr⟩ := HR2.out
  obtain ⟨tA, tc, rfl⟩ := own_shape hq.tape
  obtain ⟨qA, qc, rfl⟩ := own_shape hr.ws
  have c22 : W.cell? ⟨fb, 22, none⟩ = some (.slice tA T.length tc) := hq.blk.cell 22
  have r3 : W.cell? ⟨rb, 3, none⟩ = some (.int .i64 s1.next.kind) := hr.blk.cell 3
  have r4 : W.cell? ⟨rb, 4, none⟩ = some (.int .i64 s1.next.a) := hr.blk.cell 4
  have r5 : W.cell? ⟨rb, 5, none⟩ = some (.int .i64 s1.next.x) := hr.blk.cell 5
  have r6 : W.cell? ⟨rb, 6, none⟩ = some (.int .i64 s1.next.y) := hr.blk.cell 6
  have r7 : W.cell? ⟨rb, 7, none⟩ = some (.slice qA s1.next.ws.length qc) := hr.blk.cell 7
  have hqd := hq.below (drawn_bl (Drawn.of W 1) _)
  have DOC : Hid (Calls Tryz.prog 96 #[.pointer (some ⟨bm, 0, none⟩), .agg #[.int .i64 s1.next.kind, .int .i64 s1.next.a, .int .i64 s1.next.x, .int .i64 s1.next.y, .slice qA s1.next.ws.length qc]] W.drew fun e w' => e = .returned (.int .i64 v) ∧ M7 (fun y => (Fm y ∧ y < w.heap.size) ∨ W.heap.size ≤ y) bm C' max w' ∧ Chg (fun y => Fm y ∧ y < w.heap.size) W.drew w') := Lib.hid ((do_any (fun y => Fm y ∧ y < w.heap.size) bm C max s1.next _ W.drew (HM2.out.below (drawn_bl (Drawn.of W 1) _)) hC hm0 hmx (own_below hr.ws (drawn_bl (Drawn.of W 1) _)) HQ.out).mono fun e w' hp => by
    unfold DoPost at hp
    rw [HEX.out] at hp
    exact hp)
  have hWz : w.heap.size ≤ W.heap.size := HB2.out.size
  have HWZ := Lib.hid hWz
  have SLOT : Hid (∀ w2, Chg (fun y => Fm y ∧ y < w.heap.size) W.drew w2 → w2.cell? ⟨fb, 22, none⟩ = some (.slice tA T.length tc) ∧ (w2.alloc (.cells #[.int .i64 v] 2)).ownsRow 0 2 1 (.slice tA T.length tc) T.length (T.map (Value.int .i64)) ∧ (∀ (j : Nat) (u : Value), ([.int .i64 v] : List Value)[j]? = some u → (w2.alloc (.cells #[.int .i64 v] 2)).cell? ((⟨w2.heap.size, 0, none⟩ : Addr).add j) = some u) ∧ FrQ (fun y => F y ∧ y < w.heap.size) fb x T false o xv (.slice tA T.length tc) pv sv lv rec laid w2 ∧ W.heap.size ≤ w2.heap.size) := Lib.hid (fun w2 hc2 => by
    have hq2 := hqd.chg hc2 (fun y h1 h2 => HD.out y h1.1 h2.1)
    refine ⟨hq2.blk.cell 22, own_below hq2.tape ((Below.refl _ _).alloc (Nat.le_refl _) _), fun j u hu => ?_, hq2, hc2.size⟩
    have e : (⟨w2.heap.size, 0, none⟩ : Addr).add j = ⟨w2.heap.size, j, none⟩ := by unfold Addr.add; split <;> simp_all
    rw [e]
    have := (Blk.new w2 2 #[.int .i64 v]).cell j
    exact this.trans (by simpa using hu))
  have n1 := World.new_ne W ⟨fb, 22, none⟩ c22
  clear hq hr hqd hWz HR2 HF2
  go_region_law (first | (refine step_append_lies _ (by rfl) _ _ _ (by rfl) 0 2 i0 _ 1 8 Tryz.underlying22 hi0 hz0 hz1 hz2 rfl (by omega) (.slice tA T.length tc) T.length (T.map (Value.int .i64)) (by rfl) SF.out.2.1 ⟨w2.heap.size, 0, none⟩ 1 1 [.int .i64 v] (by rfl) (by rfl) SF.out.2.2.1 (by simp [Value.oneCell']) (by omega) (by unfold maxLen; omega) (by omega) (by omega) (w2.heap.size + 1) (by simp) ?_; intro gg cap w5 hO5 hg5 hat hlt5; have K5 := SF.out.2.2.2.1.app ((Below.refl _ _).alloc (Nat.le_refl _) _) hO5 hg5 (hat.imp id (fun e => by omega)); have c5 := K5.out.1; have f5 := K5.out.2.1; clear hO5 hg5 hat hlt5) | (go_simp; go_at_call 96; (with_reducible refine (DOC.out).mono ?_); rintro e w2 ⟨rfl, hm2, hc2⟩; have SF := Lib.hid (SLOT.out w2 hc2); have MF := Lib.hid hm2; have CF := Lib.hid hc2; have c22b := SF.out.1; have n2 := World.new_ne w2 ⟨fb, 22, none⟩ c22b; have hbl2 : fb < w2.heap.size := World.block_lt_of_cell? w2 _ c22b; clear hm2 hc2))
  all_goals
    have hP := K5.out.2.2
    have HSZ := Lib.hid SF.out.2.2.2.2
    clear K5 c5 f5 SF c22b n2 hbl2 n1 c22 r3 r4 r5 r6 r7 SLOT DOC
    revert hP
    generalize w5.setCell ⟨fb, 22, none⟩ (.slice (some ⟨gg, 0, none⟩) (T.length + 1) cap) = w6
    rintro ⟨hq6, hc6⟩
    have HW6 : Hid (FrP (fun y => (F y ∧ y < w.heap.size) ∨ w2.heap.size ≤ y) fb x (T ++ [v]) false o w6) := Lib.hid ⟨_, _, _, _, _, _, _, hq6⟩
    have HC6 := Lib.hid hc6
    have HM6 : Hid (M7 (fun y => ((Fm y ∧ y < w.heap.size) ∨ W.heap.size ≤ y) ∧ y < w2.heap.size) bm C' max w6) := Lib.hid (MF.out.within.chg hc6 (fun y h1 h2 => by
      rcases h1.1 with h3 | h3
      · exact HD.out y h2.1 h3.1
      · have := HWZ.out; omega))
    clear hq6 hc6 MF
    go_wp2_with (fail)
    with_reducible refine (settle_any N x HPC.out _ fb (T ++ [v]) false o o2 s2 w6 HW6.out HD2.out (by simp; omega) HG2.out).mono ?_
    rintro e w7 ⟨rfl, hf7, hc7⟩
    have hff : F fb := by obtain ⟨_, _, _, _, _, _, _, h⟩ := H.out; exact h.ff.1
    have HM7 := Lib.hid (HM6.out.chg hc7 (fun y h1 h2 => by
      have : y = fb := h2
      subst this
      rcases h1.1 with h3 | h3
      · exact HD.out y hff h3.1
      · have := H.out.lt; have := HWZ.out; omega))
    rw [HOO.out, show (false || !s2.off) = dn from by rw [← HDN.out]; rfl] at hf7
    have d23 : w7.cell? ⟨fb, 23, none⟩ = some (.bool dn) := by obtain ⟨_, _, _, _, _, _, _, h⟩ := hf7; exact h.blk.cell 23
    have HF7 := Lib.hid hf7
    have HC7 := Lib.hid hc7
    have HFF := Lib.hid hff
    clear hf7 hc7 hff
    go_wp2_with (fail)
    go_ret
    have z1 := HWZ.out
    have z2 := HSZ.out
    have z6 := HC6.out.size
    refine ⟨rfl, _, _, HF7.out, HM7.out, fun y h1 h2 => ?_, fun y h1 => ?_, fun y h1 => ?_, ?_⟩
    · rcases h1 with (h1 | h1) | h1
      · rcases h2.1 with h3 | h3
        · exact HD.out y h1.1 h3.1
        · omega
      · omega
      · omega
    · rcases h1 with (h1 | h1) | h1
      · exact .inl h1.1
      · exact .inr (by omega)
      · exact .inr (by omega)
    · rcases h1.1 with h3 | h3
      · exact .inl h3.1
      · exact .inr (by omega)
    · exact (((Chg.of_below HB2.out).trans (Chg.of_below (drawn_bl (Drawn.of W 1) _))).trans (CF.out.mono (fun y hy => .inr hy.1))).trans ((HC6.out.mono (fun y hy => .inl hy.1)).trans (HC7.out.mono (fun y hy => .inl (hy ▸ HFF.out))))
def NewFPost (G : Nat → Prop) (x : FX) (o' : FOut) (off : Bool) (w : World) (e : Ending) (w' : World) : Prop := ∃ fb, e = .returned (.pointer (some ⟨fb, 0, none⟩)) ∧ FrP (fun y => G y ∨ w.heap.size ≤ y) fb x [] (!off) (if off = true then FOut.zero else o') w' ∧ w.heap.size ≤ fb ∧ Below w.heap.size w w'
set_option maxRecDepth 100000 in
set_option maxHeartbeats 4000000 in
theorem newF_any (N : Nat) (G : Nat → Prop) (x : FX) (xv : Value) (o' : FOut) (s' : RunS) (w : World) (hP : PlayC N x) (hsp : PrP G 114 xv x.spots w) (hf : 1 < N) (hg : (x.tree N).go ⟨[], 0, false, ask0⟩ = (o', s')) :
    Calls Tryz.prog 29 #[.int .i64 x.proc, .agg #[.int .i64 x.a, .int .i64 x.b, .int .i64 0, .int .i64 x.p, .int .i64 0, .int .i64 x.w.lo, .int .i64 x.w.hi, .bool x.w.back, .int .i64 x.w.most, .bool x.w.values, .slice none 0 0, .slice none 0 0, xv, .slice none 0 0, .slice none 0 0, .int .i64 0, .int .i64 0, .int .i64 0, .int .i64 x.op.kind, .int .i64 x.op.key, .int .i64 x.op.val]] w (NewFPost G x o' s'.off w) := by
  obtain ⟨xA, xc, rfl⟩ := own_shape hsp.1
  have hba := (Below.refl w.heap.size w).alloc (Nat.le_refl _) (.cells #[.int .i64 x.a, .int .i64 x.b, .int .i64 0, .int .i64 x.p, .int .i64 0, .int .i64 x.w.lo, .int .i64 x.w.hi, .bool x.w.back, .int .i64 x.w.most, .bool x.w.values, .slice none 0 0, .slice none 0 0, .slice xA x.spots.length xc, .slice none 0 0, .slice none 0 0, .int .i64 0, .int .i64 0, .int .i64 0, .int .i64 x.op.kind, .int .i64 x.op.key, .int .i64 x.op.val] 50)
  have hza : (w.alloc (.cells #[.int .i64 x.a, .int .i64 x.b, .int .i64 0, .int .i64 x.p, .int .i64 0, .int .i64 x.w.lo, .int .i64 x.w.hi, .bool x.w.back, .int .i64 x.w.most, .bool x.w.values, .slice none 0 0, .slice none 0 0, .slice xA x.spots.length xc, .slice none 0 0, .slice none 0 0, .int .i64 0, .int .i64 0, .int .i64 0, .int .i64 x.op.kind, .int .i64 x.op.key, .int .i64 x.op.val] 50)).heap.size = w.heap.size + 1 := by simp
  have hbb := hba.alloc hba.size (.cells #[.int .i64 x.proc, .int .i64 x.a, .int .i64 x.b, .int .i64 0, .int .i64 x.p, .int .i64 0, .int .i64 x.w.lo, .int .i64 x.w.hi, .bool x.w.back, .int .i64 x.w.most, .bool x.w.values, .slice none 0 0, .slice none 0 0, .slice xA x.spots.length xc, .slice none 0 0, .slice none 0 0, .int .i64 0, .int .i64 0, .int .i64 0, .int .i64 x.op.kind, .int .i64 x.op.key, .int .i64 x.op.val, .slice none 0 0, .bool false, .int .i64 0, .bool false, .int .i64 0, .int .i64 0, .int .i64 0, .slice none 0 0, .slice none 0 0, .int .i64 0, .bool false, .int .i64 0, .int .i64 0, .int .i64 0, .slice none 0 0, .int .i64 0, .int .i64 0] 58)
  have hfr : FrP (fun y => G y ∨ w.heap.size ≤ y) (w.heap.size + 1) x [] false FOut.zero ((w.alloc (.cells #[.int .i64 x.a, .int .i64 x.b, .int .i64 0, .int .i64 x.p, .int .i64 0, .int .i64 x.w.lo, .int .i64 x.w.hi, .bool x.w.back, .int .i64 x.w.most, .bool x.w.values, .slice none 0 0, .slice none 0 0, .slice xA x.spots.length xc, .slice none 0 0, .slice none 0 0, .int .i64 0, .int .i64 0, .int .i64 0, .int .i64 x.op.kind, .int .i64 x.op.key, .int .i64 x.op.val] 50)).alloc (.cells #[.int .i64 x.proc, .int .i64 x.a, .int .i64 x.b, .int .i64 0, .int .i64 x.p, .int .i64 0, .int .i64 x.w.lo, .int .i64 x.w.hi, .bool x.w.back, .int .i64 x.w.most, .bool x.w.values, .slice none 0 0, .slice none 0 0, .slice xA x.spots.length xc, .slice none 0 0, .slice none 0 0, .int .i64 0, .int .i64 0, .int .i64 0, .int .i64 x.op.kind, .int .i64 x.op.key, .int .i64 x.op.val, .slice none 0 0, .bool false, .int .i64 0, .bool false, .int .i64 0, .int .i64 0, .int .i64 0, .slice none 0 0, .slice none 0 0, .int .i64 0, .bool false, .int .i64 0, .int .i64 0, .int .i64 0, .slice none 0 0, .int .i64 0, .int .i64 0] 58)) := by
    have hb := Blk.new (w.alloc (.cells #[.int .i64 x.a, .int .i64 x.b, .int .i64 0, .int .i64 x.p, .int .i64 0, .int .i64 x.w.lo, .int .i64 x.w.hi, .bool x.w.back, .int .i64 x.w.most, .bool x.w.values, .slice none 0 0, .slice none 0 0, .slice xA x.spots.length xc, .slice none 0 0, .slice none 0 0, .int .i64 0, .int .i64 0, .int .i64 0, .int .i64 x.op.kind, .int .i64 x.op.key, .int .i64 x.op.val] 50)) 58 #[.int .i64 x.proc, .int .i64 x.a, .int .i64 x.b, .int .i64 0, .int .i64 x.p, .int .i64 0, .int .i64 x.w.lo, .int .i64 x.w.hi, .bool x.w.back, .int .i64 x.w.most, .bool x.w.values, .slice none 0 0, .slice none 0 0, .slice xA x.spots.length xc, .slice none 0 0, .slice none 0 0, .int .i64 0, .int .i64 0, .int .i64 0, .int .i64 x.op.kind, .int .i64 x.op.key, .int .i64 x.op.val, .slice none 0 0, .bool false, .int .i64 0, .bool false, .int .i64 0, .int .i64 0, .int .i64 0, .slice none 0 0, .slice none 0 0, .int .i64 0, .bool false, .int .i64 0, .int .i64 0, .int .i64 0, .slice none 0 0, .int .i64 0, .int .i64 0]
    rw [hza] at hb
    exact ⟨_, .slice none 0 0, .slice none 0 0, .slice none 0 0, .slice none 0 0, 0, 0, .inr (by omega), hb, World.ownsRow_nil _ _ _ _, fun g hg => absurd hg (by simp [Value.ownBlock]), (hsp.chg (G := fun _ => False) (Chg.of_below (hbb.mono (Nat.le_refl _))) (fun _ _ g => g)).mono (fun _ => .inl), OutRows.nil rfl rfl rfl⟩
  have hd0 : (RunS.mk [] 0 false ask0).Bd := ⟨fun y hy => (List.not_mem_nil hy).elim, by simp, Nat.zero_le _⟩
  have HP := Lib.hid hP
  have HFR := Lib.hid hfr
  have HBB := Lib.hid hbb
  have HD0 := Lib.hid hd0
  have HG := Lib.hid hg
  have hbt := Blk.new w 50 #[.int .i64 x.a, .int .i64 x.b, .int .i64 0, .int .i64 x.p, .int .i64 0, .int .i64 x.w.lo, .int .i64 x.w.hi, .bool x.w.back, .int .i64 x.w.most, .bool x.w.values, .slice none 0 0, .slice none 0 0, .slice xA x.spots.length xc, .slice none 0 0, .slice none 0 0, .int .i64 0, .int .i64 0, .int .i64 0, .int .i64 x.op.kind, .int .i64 x.op.key, .int .i64 x.op.val]
  have HBT := Lib.hid hbt
  have RA := Lib.hid (range_blk hbt 0 [.int .i64 x.a, .int .i64 x.b, .int .i64 0, .int .i64 x.p, .int .i64 0, .int .i64 x.w.lo, .int .i64 x.w.hi, .bool x.w.back, .int .i64 x.w.most, .bool x.w.values, .slice none 0 0, .slice none 0 0, .slice xA x.spots.length xc, .slice none 0 0, .slice none 0 0, .int .i64 0, .int .i64 0, .int .i64 0, .int .i64 x.op.kind, .int .i64 x.op.key, .int .i64 x.op.val] (fun j v hv => by simpa using hv))
  clear hP hfr hbb hba hd0 hg hza hsp hbt
  go_enter Tryz.func29, Tryz.ntmps29
  go_wp2_with (first | ((with_reducible refine (show wpList _ _ _ ((Oper.mk (some 7) (.load _ _) _ _ _ _) :: _) _ _ from ?_)); refine wpList_load_row rfl 50 (.tmp 3) rfl w.heap.size rfl _ _ (0, 0) _ HBT.out Tryz.underlying50 rfl (by kernel_rfl) ?_))
  generalize (w.alloc (.cells #[.int .i64 x.a, .int .i64 x.b, .int .i64 0, .int .i64 x.p, .int .i64 0, .int .i64 x.w.lo, .int .i64 x.w.hi, .bool x.w.back, .int .i64 x.w.most, .bool x.w.values, .slice none 0 0, .slice none 0 0, .slice xA x.spots.length xc, .slice none 0 0, .slice none 0 0, .int .i64 0, .int .i64 0, .int .i64 0, .int .i64 x.op.kind, .int .i64 x.op.key, .int .i64 x.op.val] 50)).alloc (.cells #[.int .i64 x.proc, .int .i64 x.a, .int .i64 x.b, .int .i64 0, .int .i64 x.p, .int .i64 0, .int .i64 x.w.lo, .int .i64 x.w.hi, .bool x.w.back, .int .i64 x.w.most, .bool x.w.values, .slice none 0 0, .slice none 0 0, .slice xA x.spots.length xc, .slice none 0 0, .slice none 0 0, .int .i64 0, .int .i64 0, .int .i64 0, .int .i64 x.op.kind, .int .i64 x.op.key, .int .i64 x.op.val, .slice none 0 0, .bool false, .int .i64 0, .bool false, .int .i64 0, .int .i64 0, .int .i64 0, .slice none 0 0, .slice none 0 0, .int .i64 0, .bool false, .int .i64 0, .int .i64 0, .int .i64 0, .slice none 0 0, .int .i64 0, .int .i64 0] 58) = W at HFR HBB ⊢
  with_reducible refine (settle_any N x HP.out _ (w.heap.size + 1) [] false FOut.zero o' s' W HFR.out HD0.out (by simpa using hf) HG.out).mono ?_
  rintro e w2 ⟨rfl, hf2, hc2⟩
  have HF2 := Lib.hid hf2
  have HC2 := Lib.hid hc2
  clear hf2 hc2
  go_wp2_with (fail)
  go_ret
  have hz := HBB.out.size
  refine ⟨w.heap.size + 1, rfl, ?_, by omega, HBB.out.trans (HC2.out.below (fun y hy => by omega) hz)⟩
  have := HF2.out.mono (G := fun y => G y ∨ w.heap.size ≤ y) (fun y hy => hy.elim id (fun h => .inr (by omega)))
  simpa using this
end Go.Proofs.YtblajeildolloaaGreat

/- ordinatelaw15.at: an Inner with these keys, in a memory of its own. -/
namespace Go.Proofs.YtblajeildolloaaGreat
set_option linter.unusedVariables false
set_option linter.unusedSimpArgs false
open Go.RowKit

theorem bump_eq {c : Int} (h0 : 0 ≤ c) (h1 : c ≤ 1000000000) : bump c = c + 1 := by unfold bump wrap64; omega
def fillA (m k : Nat) : Array Value := ((List.range m).map fun x => Value.int .i64 (if x < k then 57 else 0)).toArray
theorem fillA_made (m : Nat) : madeCells #[Value.int .i64 0] m = fillA m 0 := by
  apply Array.ext
  · simp [fillA, madeCells]
  · intro i h1 h2
    simp [fillA, madeCells, Nat.mod_one]
theorem fillA_at {m k x : Nat} (h : x < m) : (fillA m k)[x]? = some (.int .i64 (if x < k then 57 else 0)) := by simp [fillA, h]
theorem fillA_set {m k : Nat} (h : k < m) : (fillA m k).setIfInBounds k (.int .i64 57) = fillA m (k + 1) := by
  apply Array.ext
  · simp [fillA]
  · intro i h1 h2
    have hi : i < m := by simpa [fillA] using h2
    by_cases e : k = i
    · subst e; simp [fillA, h]
    · rw [Array.getElem_setIfInBounds_ne (by simpa [fillA] using hi) e]
      have : (i < k ↔ i < k + 1) := by omega
      simp [fillA, this]
theorem fillA_ints {w : World} {g m : Nat} {t : TypeId} (h : Blk w g t (fillA m m)) : IntsAt w (g + 1) (some ⟨g, 0, none⟩) (List.replicate m 57) := by
  refine ⟨by simp, fun _ => ⟨_, rfl, Nat.lt_succ_self _, fun j u hu => ?_⟩⟩
  have e : (⟨g, 0, none⟩ : Addr).add j = ⟨g, j, none⟩ := by unfold Addr.add; split <;> simp_all
  rw [e, h.cell j]
  rw [List.map_replicate, List.getElem?_replicate] at hu
  split at hu
  · rename_i hj
    rw [fillA_at hj, if_pos hj]
    exact hu
  · cases hu
def innerL (q : List Int) : List Int := [(q.length : Int) + 1, 0, 0, 0, 0] ++ q ++ List.replicate (q.length + 1) 57
def atL (q : List Int) : List Int := beginL ++ innerL q
theorem innerL_len (q : List Int) : (innerL q).length = 2 * q.length + 6 := by simp [innerL]; omega
def AtPost (q : List Int) (w : World) (e : Ending) (w' : World) : Prop := ∃ v, e = .returned (.tuple #[.pointer (some ⟨w.heap.size, 0, none⟩), .int .i64 8]) ∧ MemP w.heap.size w.heap.size v (atL q) 2000 3 0 0 w' ∧ Below w.heap.size w w'
def FillRel (m : Nat) (w : World) (i : Value) (wr : World) : Prop := ∃ k : Nat, k ≤ m ∧ i = .int .i64 k ∧ Blk wr w.heap.size 2 (fillA m k) ∧ Below w.heap.size w wr
set_option maxRecDepth 100000 in
set_option maxHeartbeats 2000000 in
theorem at_any (A : Option Addr) (c N : Nat) (q : List Int) (w : World) (hN : N = q.length) (hq : IntsAt w w.heap.size A q) (hl : q.length ≤ 80) :
    Calls Tryz.prog 23 #[.slice A N c] w (AtPost q w) := by
  subst hN
  obtain ⟨i0, hi0, hz0, hz1, hz2⟩ := info_parts info_int64m
  have hmk : ∀ u : World, (Instr.makeSlice 22 (.int .i64 ((q.length : Int) + 1)) (.int .i64 ((q.length : Int) + 1))).run Tryz.prog u = .ok (.slice (some ⟨u.heap.size, 0, none⟩) (q.length + 1) (q.length + 1)) (u.alloc (.cells (fillA (q.length + 1) 0) 2)) := by
    intro u
    have := run_make (P := Tryz.prog) u 22 2 i0 (.int .i64 0) Tryz.underlying22 hi0 hz0 .i64 .i64 ((q.length : Int) + 1) ((q.length : Int) + 1) (by omega) (by omega) (by rw [hz2]; omega) (by omega)
    have e : ((q.length : Int) + 1).toNat = q.length + 1 := by omega
    rw [e, hz1, Nat.mul_one] at this
    have e2 : (Value.int .i64 0).cells = #[Value.int .i64 0] := rfl
    rw [e2, fillA_made] at this
    exact this
  have HQ := Lib.hid hq
  clear hq
  go_enter Tryz.func23, Tryz.ntmps23
  go_wp2_with (fail)
  with_reducible refine (memNew_any 2000 _ (by omega) (by omega)).mono ?_
  rintro e w1 ⟨rfl, h1, hB1⟩
  have H1 := Lib.hid h1
  have hz1' : w.heap.size < w1.heap.size := h1.blk.lt
  clear h1
  go_wp2_with (fail)
  with_reducible refine (begin_any _ _ 2000 0 0 0 _ H1.out (by omega) (by omega)).mono ?_
  rintro e w2 ⟨rfl, v2, h2, o2, g2⟩
  have H2 := Lib.hid h2
  have hB2 := hB1.trans (o2.below (by simp) (by omega))
  have G2 := Lib.hid g2
  have hz2' : w.heap.size < w2.heap.size := h2.blk.lt
  clear h2 o2 g2 H1 hB1
  go_wp2_with (fail)
  go_loopw [7] (fun i wr => FillRel (q.length + 1) w2 i wr) (fun i _ => q.length + 1 - (intOf i).toNat)
  case atStart => unfold FillRel; exact ⟨0, by omega, rfl, Blk.new w2 _ _, (Below.refl _ _).alloc (Nat.le_refl _) _⟩
  case round =>
    obtain ⟨k, k1, rfl, hb, hB⟩ := hrel
    have hsz := hB.size
    by_cases hlt : k < q.length + 1
    · have hc : wr.cell? ⟨w2.heap.size, k, none⟩ = some (.int .i64 0) := by rw [hb.cell k, fillA_at hlt]; simp
      have hf := hb.frozen k
      have hb2 := hb.set_ k (.int .i64 57)
      rw [fillA_set hlt] at hb2
      have HB := Lib.hid hb2
      have hB3 : Below w2.heap.size w2 (wr.setCell ⟨w2.heap.size, k, none⟩ (.int .i64 57)) := hB.setCell (p := ⟨w2.heap.size, k, none⟩) (by simp) _
      clear hb hb2
      go_wp2_with (fail)
      go_roundw
      case rel => unfold FillRel; exact ⟨k + 1, by omega, by go_num, HB.out, hB3⟩
      case measure => simp [intOf]; omega
    · have ek : k = q.length + 1 := by omega
      subst ek
      have hI := (fillA_ints hb).more (show w2.heap.size + 1 ≤ wr.heap.size from hb.lt)
      have HI := Lib.hid hI
      have HM := Lib.hid (H2.out.below hB)
      have hB3 := hB2.trans (hB.mono (by omega))
      have HQ3 := Lib.hid ((HQ.out.below hB3).more hB3.size)
      clear hb hI H2 hmk
      go_wp2_with (fail)
      with_reducible refine (innerW_any 0 A c q _ _ (List.replicate (q.length + 1) 57) q.length (q.length + 1) _ rfl (by simp) HQ3.out HI.out (by simp) (by omega)).mono ?_
      rintro e w4 ⟨v4, rfl, hO, hb4⟩
      have hO4 : w4.ownsRow wr.heap.size 2 1 v4 (innerL q).length ((innerL q).map (Value.int .i64)) := by
        have e : [((List.replicate (q.length + 1) (57 : Int)).length : Int), 0, 0, 0, 0] ++ q ++ List.replicate (q.length + 1) 57 = innerL q := by simp [innerL]
        rw [e] at hO
        exact hO
      have hlen := innerL_len q
      have HLEN := Lib.hid hlen
      obtain ⟨A4, c4, rfl⟩ := own_shape hO4
      have hA4 : ∀ ad, A4 = some ad → ad.block ≠ w.heap.size := fun ad ha => by
        subst ha
        have := (hO4.lt ad.block rfl).1
        omega
      have HM4 := Lib.hid (HM.out.below hb4)
      have HQ4 : Hid (IntsAt w4 w4.heap.size A4 (innerL q)) := Lib.hid (Reads.of_own hO4)
      have hB4 := hB3.trans (hb4.mono (by omega))
      have hlo : 0 < (innerL q).length := by omega
      have hhi : (innerL q).length ≤ 166 := by omega
      clear hO hb4 hO4 hlen HM HI HQ3
      generalize hLq : (innerL q).length = nL at hlo hhi HLEN ⊢
      have HLq := Lib.hid hLq
      clear hLq
      go_wp2_with (fail)
      with_reducible refine (make_ok _ _ v2 beginL 2000 _ 0 0 _ HM4.out (by simp [beginL]) (by omega) A4 c4 (innerL q) nL HLq.out.symm HQ4.out hA4 (by rw [HLq.out]; exact hlo) (by rw [HLq.out]; simp [beginL]; omega)).mono ?_
      rintro e w5 ⟨rfl, v5, h5, m5, _⟩
      have hB5 := hB4.trans (m5.below (Nat.le_refl _) (by have := hB4.size; omega) (fun g hg => by have := G2.out g hg; omega))
      have H5 := Lib.hid h5
      clear h5 m5 HM4 HQ4
      go_wp2_with (fail)
      go_ret2
      have h5 := H5.out
      rw [bump_eq (c := 0) (by omega) (by omega), bump_eq (c := 0 + 1) (by omega) (by omega), bump_eq (c := 0 + 1 + 1) (by omega) (by omega)] at h5
      exact ⟨v5, rfl, h5, hB5⟩
end Go.Proofs.YtblajeildolloaaGreat
