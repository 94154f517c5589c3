/- The frame of walk: onward, ahead, meet. -/
import Derived.Test.YthmcakobpjnnmaaWalk
namespace Go.Proofs.Ythmcakobpjnnmaa
set_option linter.unusedVariables false
set_option linter.unusedSimpArgs false
open Go.RowKit

/-- How long the slice is that lies at a place. -/
def lenAt (w : World) (b o : Nat) : Nat := match w.cell? ⟨b, o, none⟩ with
  | some (.slice _ n _) => n
  | _ => 0
theorem LvP.lenAt {F : Nat → Prop} {lv : Value} {L : List (Int × Int × Int)} {w : World} {b o : Nat} (h : LvP F lv L w) (hc : w.cell? ⟨b, o, none⟩ = some lv) : lenAt w b o = L.length := by
  obtain ⟨A, c, rfl⟩ := own_shape h.1
  unfold Go.Proofs.Ythmcakobpjnnmaa.lenAt
  rw [hc]
def headL : List (Int × Int × Int) → Int × Int × Int
  | [] => (0, 0, 0)
  | x :: _ => x
def hasL : List (Int × Int × Int) → Bool
  | [] => false
  | _ :: _ => true
def topV (L : List (Int × Int × Int)) : Array Value := #[.int .i64 (headL L).1, .int .i64 (headL L).2.1, .int .i64 (headL L).2.2]
theorem topL_any (b o : Nat) (lv : Value) (L : List (Int × Int × Int)) (w : World) (F : Nat → Prop) (hc : w.cell? ⟨b, o, none⟩ = some lv) (h : LvP F lv L w) (hl : L.length ≤ 1000000) :
    Calls Try.prog 118 #[.pointer (some ⟨b, o, none⟩)] w (TopPost (headL L) (hasL L) w) := by
  cases L with
  | nil => exact topL_nil b o lv w F hc h
  | cons x L => exact topL_cons b o lv x L w F hc h (by simp at hl; omega)
theorem WalkQ.within {F : Nat → Prop} {b : Nat} {s : WS} {rv pv lv prv sv : Value} {w : World} (h : WalkQ F b s rv pv lv prv sv w) : WalkQ (fun x => F x ∧ x < w.heap.size) b s rv pv lv prv sv w := by
  refine ⟨⟨h.fb, h.blk.lt⟩, h.blk, h.route.within, ?_, h.lev.within, h.prs.within, h.sps.within⟩
  have hp := h.peek
  generalize s.peek = o at hp
  cases o with
  | none => exact hp
  | some p => obtain ⟨pb, h1, h2, h3⟩ := hp; exact ⟨pb, h1, ⟨h2, h3.blk.lt⟩, h3⟩
theorem WalkQ.turned {F : Nat → Prop} {b : Nat} {s : WS} {rv pv lv prv sv lv' : Value} {L : List (Int × Int × Int)} {w w' : World} (h : WalkQ F b s rv pv lv prv sv w) (hb : Blk w' b 109 #[.int .i64 s.next, .int .i64 s.lo, .int .i64 s.hi, .bool s.back, .bool s.values, .int .i64 s.most, .int .i64 s.n, rv, pv, lv', .int .i64 s.at_, .int .i64 s.key, prv, sv]) (hlv : LvP F lv' L w') (hc : Chg (fun y => y = b ∨ lv.ownBlock = some y) w w') : WalkQ F b { s with levels := L } rv pv lv' prv sv w' := by
  have k : ∀ T : TypeId, 109 ≠ T → 122 ≠ T → ∀ x, (x = b ∨ lv.ownBlock = some x) → ∃ t cs, Blk w x t cs ∧ t ≠ T := fun T h1 h2 x hx => by
    rcases hx with rfl | hx
    · exact ⟨_, _, h.blk, h1⟩
    · obtain ⟨cs, hb⟩ := own_blk h.lev.1 hx
      exact ⟨_, cs, hb, h2⟩
  exact ⟨h.fb, hb, h.route.keep hc (k _ (by decide) (by decide)), h.peek.keep hc (k _ (by decide) (by decide)), hlv, h.prs.keep hc (k _ (by decide) (by decide)), h.sps.keep hc (k _ (by decide) (by decide))⟩
def PopW (F : Nat → Prop) (b : Nat) (s : WS) (rv pv lv prv sv : Value) (l : Int × Int × Int) (L : List (Int × Int × Int)) (w : World) (e : Ending) (w' : World) : Prop :=
  e = .returned (.tuple #[.agg #[.int .i64 l.1, .int .i64 l.2.1, .int .i64 l.2.2], .bool true]) ∧ ∃ lv', WalkQ F b { s with levels := L } rv pv lv' prv sv w' ∧ lv'.ownBlock = lv.ownBlock ∧ Chg (fun y => y = b ∨ lv.ownBlock = some y) w w'
theorem popW_any (F : Nat → Prop) (b : Nat) (s : WS) (rv pv lv prv sv : Value) (l : Int × Int × Int) (L : List (Int × Int × Int)) (w : World) (h : WalkQ F b s rv pv lv prv sv w) (hs : s.levels = l :: L) (hl : L.length ≤ 1000000) :
    Calls Try.prog 119 #[.pointer (some ⟨b, 9, none⟩)] w (PopW F b s rv pv lv prv sv l L w) := by
  refine (popL_cons F b 9 109 _ lv l L w h.blk (by decide) rfl (hs ▸ h.lev) hl).mono ?_
  rintro e w' ⟨he, lv', hb, hlv, ho, hc⟩
  exact ⟨he, lv', h.turned hb hlv hc, ho, hc⟩
def OnRel (F : Nat → Prop) (b : Nat) (s : WS) (w : World) (p ok : Value) (wr : World) : Prop := ∃ (L : List (Int × Int × Int)) (z : Nat) (rv pv lv prv sv : Value), p = .pointer (some ⟨z, 0, none⟩) ∧ ok = .bool (hasL L) ∧ Blk wr z 122 (topV L) ∧ WalkQ F b { s with levels := L } rv pv lv prv sv wr ∧ (∀ g, lv.ownBlock = some g → g ≠ z) ∧ popTo s.back L = popTo s.back s.levels ∧ L.length ≤ 1000000 ∧ (∀ l ∈ L, levelB l) ∧ w.heap.size ≤ z ∧ Chg (fun x => F x) w wr
set_option maxRecDepth 100000 in
set_option maxHeartbeats 2000000 in
theorem onwardW_any (F : Nat → Prop) (b : Nat) (s : WS) (w : World) (h : WalkP F b s w) (hll : s.levels.length ≤ 1000000) (hlv : ∀ l ∈ s.levels, levelB l) :
    Calls Try.prog 109 #[.pointer (some ⟨b, 0, none⟩)] w (WPost F b s.onward w) := by
  obtain ⟨rv, pv, lv, prv, sv, h⟩ := h
  have c9 : w.cell? ⟨b, 9, none⟩ = some lv := h.blk.cell 9
  have H := Lib.hid h
  have C9 := Lib.hid c9
  clear h c9
  go_enter Try.func109, Try.ntmps109
  go_wp2_with (fail)
  with_reducible refine (topL_any b 9 lv s.levels _ F C9.out H.out.lev hll).mono ?_
  rintro e w1 ⟨rfl, hb1⟩
  have hx := Blk.new w1 122 (topV s.levels)
  have hb2 := hb1.alloc hb1.size (.cells (topV s.levels) 122)
  have hR : OnRel F b s w (.pointer (some ⟨w1.heap.size, 0, none⟩)) (.bool (hasL s.levels)) (w1.alloc (.cells (topV s.levels) 122)) := ⟨s.levels, w1.heap.size, rv, pv, lv, prv, sv, rfl, rfl, hx, H.out.below hb2, fun g hg => by have := own_lt H.out.lev.1 g hg; have := hb1.size; omega, rfl, hll, hlv, hb1.size, Chg.of_below hb2⟩
  have HR := Lib.hid hR
  clear hR
  clear hx hb1 hb2 H C9
  go_wp2_with (fail)
  change Code.wp _ _ _ _ (w1.alloc (.cells (topV s.levels) 122))
  generalize w1.alloc (.cells (topV s.levels) 122) = w2 at HR ⊢
  go_loopw [2, 3] (fun p ok wr => OnRel F b s w p ok wr) (fun _ _ wr => lenAt wr b 9)
  case atStart => exact HR.out
  case round =>
    obtain ⟨L, z, rv, pv, lv, prv, sv, rfl, rfl, hz, hq, hne, hpo, hle, hlb, hzw, hch⟩ := hrel
    clear HR
    have c9 : wr.cell? ⟨b, 9, none⟩ = some lv := hq.blk.cell 9
    cases L with
    | nil =>
      have hpe : popTo s.back s.levels = [] := hpo.symm
      have HS := Lib.hid (show s.onward = { s with levels := [], next := 6 } by unfold WS.onward; rw [hpe]; rfl)
      have c0 : wr.cell? ⟨b, 0, none⟩ = some (.int .i64 s.next) := hq.blk.cell 0
      have f0 := hq.blk.frozen 0
      have o1 : Chg (fun y => y = b) wr (wr.setCell ⟨b, 0, none⟩ (.int .i64 6)) := Chg.of_mv (F := fun y => y = b) (Mv.set1 wr b 0 _) rfl
      have HX : Hid (WalkP (fun x => F x ∨ w.heap.size ≤ x) b { s with levels := [], next := 6 } (wr.setCell ⟨b, 0, none⟩ (.int .i64 6))) := Lib.hid ⟨rv, pv, lv, prv, sv, (hq.own o1 (s' := { s with levels := [], next := 6 }) (hq.blk.set_ 0 _) rfl rfl rfl rfl rfl).mono (fun _ => .inl)⟩
      have HC := Lib.hid (hch.trans (o1.mono (fun x hx => hx ▸ hq.fb)))
      have hok : hasL ([] : List (Int × Int × Int)) = false := rfl
      rw [hok]
      clear hq hch o1 hz hne hpo hpe hok
      go_wp2_with (fail)
      go_end0
      rw [HS.out]
      exact ⟨rfl, HX.out, HC.out⟩
    | cons l L =>
      have hok : hasL (l :: L) = true := rfl
      have z0 : wr.cell? ⟨z, 0, none⟩ = some (.int .i64 l.1) := hz.cell 0
      have z1 : wr.cell? ⟨z, 1, none⟩ = some (.int .i64 l.2.1) := hz.cell 1
      have z2 : wr.cell? ⟨z, 2, none⟩ = some (.int .i64 l.2.2) := hz.cell 2
      have c3 : wr.cell? ⟨b, 3, none⟩ = some (.bool s.back) := hq.blk.cell 3
      obtain ⟨l0, l1, l2⟩ := hlb l (by simp)
      rw [hok]
      cases hm : more s.back l with
      | true =>
        have hpe : popTo s.back s.levels = l :: L := by rw [← hpo]; unfold popTo; rw [if_pos hm]
        have HS := Lib.hid (show s.onward = { s with levels := l :: L, next := 5 } by unfold WS.onward; rw [hpe]; rfl)
        have c0 : wr.cell? ⟨b, 0, none⟩ = some (.int .i64 s.next) := hq.blk.cell 0
        have f0 := hq.blk.frozen 0
        have o1 : Chg (fun y => y = b) wr (wr.setCell ⟨b, 0, none⟩ (.int .i64 5)) := Chg.of_mv (F := fun y => y = b) (Mv.set1 wr b 0 _) rfl
        have HX : Hid (WalkP (fun x => F x ∨ w.heap.size ≤ x) b { s with levels := l :: L, next := 5 } (wr.setCell ⟨b, 0, none⟩ (.int .i64 5))) := Lib.hid ⟨rv, pv, lv, prv, sv, (hq.own o1 (s' := { s with levels := l :: L, next := 5 }) (hq.blk.set_ 0 _) rfl rfl rfl rfl rfl).mono (fun _ => .inl)⟩
        have HC := Lib.hid (hch.trans (o1.mono (fun x hx => hx ▸ hq.fb)))
        unfold more at hm
        clear hq hch o1 hz hne hpo hpe hok
        cases hbk : s.back with
        | true =>
          rw [hbk] at c3 hm
          have hm2 : 0 < l.2.2 := of_decide_eq_true (by simpa using hm)
          clear hbk hm
          go_wp2_with (fail)
          refine bodyPost_ret (results_none rfl _ _ _) rfl ?_
          rw [HS.out]
          exact ⟨rfl, HX.out, HC.out⟩
        | false =>
          rw [hbk] at c3 hm
          have hm2 : l.2.2 + 1 < l.2.1 := of_decide_eq_true (by simpa using hm)
          clear hbk hm
          go_wp2_with (fail)
          refine bodyPost_ret (results_none rfl _ _ _) rfl ?_
          rw [HS.out]
          exact ⟨rfl, HX.out, HC.out⟩
      | false =>
        have hpe : popTo s.back L = popTo s.back s.levels := by
          rw [← hpo]
          show _ = (if more s.back l = true then l :: L else popTo s.back L)
          rw [if_neg (by rw [hm]; exact Bool.false_ne_true)]
        unfold more at hm
        have HQ := Lib.hid hq
        have HZ := Lib.hid hz
        have HLe := Lib.hid (hq.lev.lenAt c9)
        have HPE := Lib.hid hpe
        have HCH := Lib.hid hch
        have HNE := Lib.hid hne
        have HLB := Lib.hid hlb
        clear hpe hch hne hlb
        clear hq hz hpo hok
        have hll3 : L.length ≤ 1000000 := by simp at hle; omega
        cases hbk : s.back with
        | true =>
          rw [hbk] at c3 hm
          have hm2 : ¬ 0 < l.2.2 := of_decide_eq_false (by simpa using hm)
          clear hm
          go_wp2_with (fail)
          with_reducible refine (popW_any F b _ rv pv lv prv sv l L _ HQ.out rfl hll3).mono ?_
          rintro e w3 ⟨rfl, lv3, hq3, ho3, hc3⟩
          have HQ3 := Lib.hid hq3
          clear hq3
          have hz3 : Blk w3 z 122 (topV (l :: L)) := hc3.blk HZ.out (fun e => by
            rcases e with e | e
            · exact HZ.out.ne_ HQ.out.blk (by decide) e
            · exact HNE.out _ e rfl)
          have hC3 := HCH.out.trans (hc3.mono (fun y hy => by
            rcases hy with rfl | e
            · exact HQ.out.fb
            · exact HQ.out.lev.2 _ e))
          have y0 : w3.cell? ⟨z, 0, none⟩ = some (.int .i64 l.1) := hz3.cell 0
          have y1 : w3.cell? ⟨z, 1, none⟩ = some (.int .i64 l.2.1) := hz3.cell 1
          have y2 : w3.cell? ⟨z, 2, none⟩ = some (.int .i64 l.2.2) := hz3.cell 2
          have hzl := hz3.lt
          have HC3 := Lib.hid hC3
          have HO3 := Lib.hid ho3
          clear hC3 ho3
          clear z0 z1 z2 c3 c9 hz3 hc3
          go_wp2_with (fail)
          have hn4 := Blk.new w3 122 #[.int .i64 l.1, .int .i64 l.2.1, .int .i64 l.2.2]
          have hb4 := (Below.refl w3.heap.size w3).alloc (Nat.le_refl _) (.cells #[.int .i64 l.1, .int .i64 l.2.1, .int .i64 l.2.2] 122)
          have HQ4 := Lib.hid (HQ3.out.below hb4)
          have hs4 : (w3.alloc (.cells #[.int .i64 l.1, .int .i64 l.2.1, .int .i64 l.2.2] 122)).heap.size = w3.heap.size + 1 := by simp
          with_reducible refine (topL_any b 9 lv3 L _ F (HQ4.out.blk.cell 9) HQ4.out.lev hll3).mono ?_
          rintro e w5 ⟨rfl, hb5⟩
          have HQ5 := Lib.hid (HQ4.out.below hb5)
          have hn5 := hn4.below hb5 (by rw [hs4]; omega)
          have HB5 := Lib.hid (hb4.trans (hb5.mono (by rw [hs4]; omega)))
          have HN5 := Lib.hid hn5
          have v0 : w5.cell? ⟨w3.heap.size, 0, none⟩ = some (.int .i64 l.1) := hn5.cell 0
          have v1 : w5.cell? ⟨w3.heap.size, 1, none⟩ = some (.int .i64 l.2.1) := hn5.cell 1
          have v2 : w5.cell? ⟨w3.heap.size, 2, none⟩ = some (.int .i64 l.2.2) := hn5.cell 2
          have g0 := hn5.frozen 0
          have g1 := hn5.frozen 1
          have g2 := hn5.frozen 2
          clear hn4 hb4 HQ4 hb5 hn5 hs4 y0 y1 y2 hzl
          go_wp2_with (fail)
          have hz3 := HC3.out.size
          have hch6 : Chg (fun y => y = w3.heap.size) w5 (((w5.setCell ⟨w3.heap.size, 0, none⟩ (.int .i64 (headL L).1)).setCell ⟨w3.heap.size, 1, none⟩ (.int .i64 (headL L).2.1)).setCell ⟨w3.heap.size, 2, none⟩ (.int .i64 (headL L).2.2)) := Chg.of_mv (F := fun y => y = w3.heap.size) (((Mv.set1 w5 w3.heap.size 0 _).trans_ (Mv.set1 _ w3.heap.size 1 _)).trans_ (Mv.set1 _ w3.heap.size 2 _)) rfl
          have hq6 := ((HQ3.out.within.below HB5.out).chg hch6 (fun x hx e => by have := hx.2; omega)).mono (fun x hx => hx.1)
          have hb6 := ((HN5.out.set_ 0 (.int .i64 (headL L).1)).set_ 1 (.int .i64 (headL L).2.1)).set_ 2 (.int .i64 (headL L).2.2)
          refine ⟨⟨L, w3.heap.size, rv, pv, lv3, prv, sv, rfl, rfl, hb6, hq6, fun g hg => ?_, HPE.out, hll3, fun x hx => HLB.out x (List.mem_cons_of_mem _ hx), hz3, ?_⟩, ?_⟩
          · have := own_lt HQ3.out.lev.1 g hg; omega
          · exact (HC3.out.trans (Chg.of_below HB5.out)).grow hch6 (fun x hx => .inr (by omega))
          · rw [HLe.out, hq6.lev.lenAt (hq6.blk.cell 9)]
            exact Nat.lt_succ_self _
        | false =>
          rw [hbk] at c3 hm
          have hm2 : ¬ l.2.2 + 1 < l.2.1 := of_decide_eq_false (by simpa using hm)
          clear hm
          go_wp2_with (fail)
          with_reducible refine (popW_any F b _ rv pv lv prv sv l L _ HQ.out rfl hll3).mono ?_
          rintro e w3 ⟨rfl, lv3, hq3, ho3, hc3⟩
          have HQ3 := Lib.hid hq3
          clear hq3
          have hz3 : Blk w3 z 122 (topV (l :: L)) := hc3.blk HZ.out (fun e => by
            rcases e with e | e
            · exact HZ.out.ne_ HQ.out.blk (by decide) e
            · exact HNE.out _ e rfl)
          have hC3 := HCH.out.trans (hc3.mono (fun y hy => by
            rcases hy with rfl | e
            · exact HQ.out.fb
            · exact HQ.out.lev.2 _ e))
          have y0 : w3.cell? ⟨z, 0, none⟩ = some (.int .i64 l.1) := hz3.cell 0
          have y1 : w3.cell? ⟨z, 1, none⟩ = some (.int .i64 l.2.1) := hz3.cell 1
          have y2 : w3.cell? ⟨z, 2, none⟩ = some (.int .i64 l.2.2) := hz3.cell 2
          have hzl := hz3.lt
          have HC3 := Lib.hid hC3
          have HO3 := Lib.hid ho3
          clear hC3 ho3
          clear z0 z1 z2 c3 c9 hz3 hc3
          go_wp2_with (fail)
          have hn4 := Blk.new w3 122 #[.int .i64 l.1, .int .i64 l.2.1, .int .i64 l.2.2]
          have hb4 := (Below.refl w3.heap.size w3).alloc (Nat.le_refl _) (.cells #[.int .i64 l.1, .int .i64 l.2.1, .int .i64 l.2.2] 122)
          have HQ4 := Lib.hid (HQ3.out.below hb4)
          have hs4 : (w3.alloc (.cells #[.int .i64 l.1, .int .i64 l.2.1, .int .i64 l.2.2] 122)).heap.size = w3.heap.size + 1 := by simp
          with_reducible refine (topL_any b 9 lv3 L _ F (HQ4.out.blk.cell 9) HQ4.out.lev hll3).mono ?_
          rintro e w5 ⟨rfl, hb5⟩
          have HQ5 := Lib.hid (HQ4.out.below hb5)
          have hn5 := hn4.below hb5 (by rw [hs4]; omega)
          have HB5 := Lib.hid (hb4.trans (hb5.mono (by rw [hs4]; omega)))
          have HN5 := Lib.hid hn5
          have v0 : w5.cell? ⟨w3.heap.size, 0, none⟩ = some (.int .i64 l.1) := hn5.cell 0
          have v1 : w5.cell? ⟨w3.heap.size, 1, none⟩ = some (.int .i64 l.2.1) := hn5.cell 1
          have v2 : w5.cell? ⟨w3.heap.size, 2, none⟩ = some (.int .i64 l.2.2) := hn5.cell 2
          have g0 := hn5.frozen 0
          have g1 := hn5.frozen 1
          have g2 := hn5.frozen 2
          clear hn4 hb4 HQ4 hb5 hn5 hs4 y0 y1 y2 hzl
          go_wp2_with (fail)
          have hz3 := HC3.out.size
          have hch6 : Chg (fun y => y = w3.heap.size) w5 (((w5.setCell ⟨w3.heap.size, 0, none⟩ (.int .i64 (headL L).1)).setCell ⟨w3.heap.size, 1, none⟩ (.int .i64 (headL L).2.1)).setCell ⟨w3.heap.size, 2, none⟩ (.int .i64 (headL L).2.2)) := Chg.of_mv (F := fun y => y = w3.heap.size) (((Mv.set1 w5 w3.heap.size 0 _).trans_ (Mv.set1 _ w3.heap.size 1 _)).trans_ (Mv.set1 _ w3.heap.size 2 _)) rfl
          have hq6 := ((HQ3.out.within.below HB5.out).chg hch6 (fun x hx e => by have := hx.2; omega)).mono (fun x hx => hx.1)
          have hb6 := ((HN5.out.set_ 0 (.int .i64 (headL L).1)).set_ 1 (.int .i64 (headL L).2.1)).set_ 2 (.int .i64 (headL L).2.2)
          refine ⟨⟨L, w3.heap.size, rv, pv, lv3, prv, sv, rfl, rfl, hb6, hq6, fun g hg => ?_, HPE.out, hll3, fun x hx => HLB.out x (List.mem_cons_of_mem _ hx), hz3, ?_⟩, ?_⟩
          · have := own_lt HQ3.out.lev.1 g hg; omega
          · exact (HC3.out.trans (Chg.of_below HB5.out)).grow hch6 (fun x hx => .inr (by omega))
          · rw [HLe.out, hq6.lev.lenAt (hq6.blk.cell 9)]
            exact Nat.lt_succ_self _
end Go.Proofs.Ythmcakobpjnnmaa
