import Derived.Test.YtblajeildolloaaGreatWalk
import Derived.Deep.RegionLaw
import Derived.Test.YtblajeildolloaaGreatSeekT
namespace Go.Proofs.YtblajeildolloaaGreat
set_option linter.unusedVariables false
set_option linter.unusedSimpArgs false
open Go.RowKit
/- The frame of walk: onward, ahead, meet. -/

/-- How long the slice is that lies at a place. -/
def lenAt (w : World) (b o : Nat) : Nat := match w.cell? ⟨b, o, none⟩ with
  | some (.slice _ n _) => n
  | _ => 0
theorem LvP.lenAt {F : Nat → Prop} {lv : Value} {L : List (Int × Int × Int)} {w : World} {b o : Nat} (h : LvP F lv L w) (hc : w.cell? ⟨b, o, none⟩ = some lv) : lenAt w b o = L.length := by
  obtain ⟨A, c, rfl⟩ := own_shape h.1
  unfold Go.Proofs.YtblajeildolloaaGreat.lenAt
  rw [hc]
def headL : List (Int × Int × Int) → Int × Int × Int
  | [] => (0, 0, 0)
  | x :: _ => x
def hasL : List (Int × Int × Int) → Bool
  | [] => false
  | _ :: _ => true
def topV (L : List (Int × Int × Int)) : Array Value := #[.int .i64 (headL L).1, .int .i64 (headL L).2.1, .int .i64 (headL L).2.2]
theorem topL_any (b o : Nat) (lv : Value) (L : List (Int × Int × Int)) (w : World) (F : Nat → Prop) (hc : w.cell? ⟨b, o, none⟩ = some lv) (h : LvP F lv L w) (hl : L.length ≤ 1000000) :
    Calls Tryz.prog 183 #[.pointer (some ⟨b, o, none⟩)] w (TopPost (headL L) (hasL L) w) := by
  cases L with
  | nil => exact topL_nil b o lv w F hc h
  | cons x L => exact topL_cons b o lv x L w F hc h (by simp at hl; omega)
theorem WalkQ.within {F : Nat → Prop} {b : Nat} {s : WS} {rv pv lv prv sv : Value} {w : World} (h : WalkQ F b s rv pv lv prv sv w) : WalkQ (fun x => F x ∧ x < w.heap.size) b s rv pv lv prv sv w := by
  refine ⟨⟨h.fb, h.blk.lt⟩, h.blk, h.route.within, ?_, h.lev.within, h.prs.within, h.sps.within⟩
  have hp := h.peek
  generalize s.peek = o at hp
  cases o with
  | none => exact hp
  | some p => obtain ⟨pb, h1, h2, h3⟩ := hp; exact ⟨pb, h1, ⟨h2, h3.blk.lt⟩, h3⟩
theorem WalkQ.turned {F : Nat → Prop} {b : Nat} {s : WS} {rv pv lv prv sv lv' : Value} {L : List (Int × Int × Int)} {w w' : World} (h : WalkQ F b s rv pv lv prv sv w) (hb : Blk w' b 181 #[.int .i64 s.next, .int .i64 s.lo, .int .i64 s.hi, .bool s.back, .bool s.values, .int .i64 s.most, .int .i64 s.n, rv, pv, lv', .int .i64 s.at_, .int .i64 s.key, prv, sv]) (hlv : LvP F lv' L w') (hc : Chg (fun y => y = b ∨ lv.ownBlock = some y) w w') : WalkQ F b { s with levels := L } rv pv lv' prv sv w' := by
  have k : ∀ T : TypeId, 181 ≠ T → 184 ≠ T → ∀ x, (x = b ∨ lv.ownBlock = some x) → ∃ t cs, Blk w x t cs ∧ t ≠ T := fun T h1 h2 x hx => by
    rcases hx with rfl | hx
    · exact ⟨_, _, h.blk, h1⟩
    · obtain ⟨cs, hb⟩ := own_blk h.lev.1 hx
      exact ⟨_, cs, hb, h2⟩
  exact ⟨h.fb, hb, h.route.keep hc (k _ (by decide) (by decide)), h.peek.keep hc (k _ (by decide) (by decide)), hlv, h.prs.keep hc (k _ (by decide) (by decide)), h.sps.keep hc (k _ (by decide) (by decide))⟩
def PopW (F : Nat → Prop) (b : Nat) (s : WS) (rv pv lv prv sv : Value) (l : Int × Int × Int) (L : List (Int × Int × Int)) (w : World) (e : Ending) (w' : World) : Prop :=
  e = .returned (.tuple #[.agg #[.int .i64 l.1, .int .i64 l.2.1, .int .i64 l.2.2], .bool true]) ∧ ∃ lv', WalkQ F b { s with levels := L } rv pv lv' prv sv w' ∧ lv'.ownBlock = lv.ownBlock ∧ Chg (fun y => y = b ∨ lv.ownBlock = some y) w w'
theorem popW_any (F : Nat → Prop) (b : Nat) (s : WS) (rv pv lv prv sv : Value) (l : Int × Int × Int) (L : List (Int × Int × Int)) (w : World) (h : WalkQ F b s rv pv lv prv sv w) (hs : s.levels = l :: L) (hl : L.length ≤ 1000000) :
    Calls Tryz.prog 184 #[.pointer (some ⟨b, 9, none⟩)] w (PopW F b s rv pv lv prv sv l L w) := by
  refine (popL_cons F b 9 181 _ lv l L w h.blk (by decide) rfl (hs ▸ h.lev) hl).mono ?_
  rintro e w' ⟨he, lv', hb, hlv, ho, hc⟩
  exact ⟨he, lv', h.turned hb hlv hc, ho, hc⟩
def OnRel (F : Nat → Prop) (b : Nat) (s : WS) (w : World) (p ok : Value) (wr : World) : Prop := ∃ (L : List (Int × Int × Int)) (z : Nat) (rv pv lv prv sv : Value), p = .pointer (some ⟨z, 0, none⟩) ∧ ok = .bool (hasL L) ∧ Blk wr z 184 (topV L) ∧ WalkQ F b { s with levels := L } rv pv lv prv sv wr ∧ (∀ g, lv.ownBlock = some g → g ≠ z) ∧ popTo s.back L = popTo s.back s.levels ∧ L.length ≤ 1000000 ∧ (∀ l ∈ L, levelB l) ∧ w.heap.size ≤ z ∧ Chg (fun x => F x) w wr
set_option maxRecDepth 100000 in
set_option maxHeartbeats 2000000 in
theorem onwardW_any (F : Nat → Prop) (b : Nat) (s : WS) (w : World) (h : WalkP F b s w) (hll : s.levels.length ≤ 1000000) (hlv : ∀ l ∈ s.levels, levelB l) :
    Calls Tryz.prog 132 #[.pointer (some ⟨b, 0, none⟩)] w (WPost F b s.onward w) := by
  obtain ⟨rv, pv, lv, prv, sv, h⟩ := h
  have c9 : w.cell? ⟨b, 9, none⟩ = some lv := h.blk.cell 9
  have H := Lib.hid h
  have C9 := Lib.hid c9
  clear h c9
  go_enter Tryz.func132, Tryz.ntmps132
  go_wp2_with (fail)
  with_reducible refine (topL_any b 9 lv s.levels _ F C9.out H.out.lev hll).mono ?_
  rintro e w1 ⟨rfl, hb1⟩
  have hx := Blk.new w1 184 (topV s.levels)
  have hb2 := hb1.alloc hb1.size (.cells (topV s.levels) 184)
  have hR : OnRel F b s w (.pointer (some ⟨w1.heap.size, 0, none⟩)) (.bool (hasL s.levels)) (w1.alloc (.cells (topV s.levels) 184)) := ⟨s.levels, w1.heap.size, rv, pv, lv, prv, sv, rfl, rfl, hx, H.out.below hb2, fun g hg => by have := own_lt H.out.lev.1 g hg; have := hb1.size; omega, rfl, hll, hlv, hb1.size, Chg.of_below hb2⟩
  have HR := Lib.hid hR
  clear hR
  clear hx hb1 hb2 H C9
  go_wp2_with (fail)
  change Code.wp _ _ _ _ (w1.alloc (.cells (topV s.levels) 184))
  generalize w1.alloc (.cells (topV s.levels) 184) = w2 at HR ⊢
  go_loopw [2, 3] (fun p ok wr => OnRel F b s w p ok wr) (fun _ _ wr => lenAt wr b 9)
  case atStart => exact HR.out
  case round =>
    obtain ⟨L, z, rv, pv, lv, prv, sv, rfl, rfl, hz, hq, hne, hpo, hle, hlb, hzw, hch⟩ := hrel
    clear HR
    have c9 : wr.cell? ⟨b, 9, none⟩ = some lv := hq.blk.cell 9
    cases L with
    | nil =>
      have hpe : popTo s.back s.levels = [] := hpo.symm
      have HS := Lib.hid (show s.onward = { s with levels := [], next := 6 } by unfold WS.onward; rw [hpe]; rfl)
      have c0 : wr.cell? ⟨b, 0, none⟩ = some (.int .i64 s.next) := hq.blk.cell 0
      have f0 := hq.blk.frozen 0
      have o1 : Chg (fun y => y = b) wr (wr.setCell ⟨b, 0, none⟩ (.int .i64 6)) := Chg.of_mv (F := fun y => y = b) (Mv.set1 wr b 0 _) rfl
      have HX : Hid (WalkP (fun x => F x ∨ w.heap.size ≤ x) b { s with levels := [], next := 6 } (wr.setCell ⟨b, 0, none⟩ (.int .i64 6))) := Lib.hid ⟨rv, pv, lv, prv, sv, (hq.own o1 (s' := { s with levels := [], next := 6 }) (hq.blk.set_ 0 _) rfl rfl rfl rfl rfl).mono (fun _ => .inl)⟩
      have HC := Lib.hid (hch.trans (o1.mono (fun x hx => hx ▸ hq.fb)))
      have hok : hasL ([] : List (Int × Int × Int)) = false := rfl
      rw [hok]
      clear hq hch o1 hz hne hpo hpe hok
      go_wp2_with (fail)
      go_end0
      rw [HS.out]
      exact ⟨rfl, HX.out, HC.out⟩
    | cons l L =>
      have hok : hasL (l :: L) = true := rfl
      have z0 : wr.cell? ⟨z, 0, none⟩ = some (.int .i64 l.1) := hz.cell 0
      have z1 : wr.cell? ⟨z, 1, none⟩ = some (.int .i64 l.2.1) := hz.cell 1
      have z2 : wr.cell? ⟨z, 2, none⟩ = some (.int .i64 l.2.2) := hz.cell 2
      have c3 : wr.cell? ⟨b, 3, none⟩ = some (.bool s.back) := hq.blk.cell 3
      obtain ⟨l0, l1, l2⟩ := hlb l (by simp)
      rw [hok]
      cases hm : more s.back l with
      | true =>
        have hpe : popTo s.back s.levels = l :: L := by rw [← hpo]; unfold popTo; rw [if_pos hm]
        have HS := Lib.hid (show s.onward = { s with levels := l :: L, next := 5 } by unfold WS.onward; rw [hpe]; rfl)
        have c0 : wr.cell? ⟨b, 0, none⟩ = some (.int .i64 s.next) := hq.blk.cell 0
        have f0 := hq.blk.frozen 0
        have o1 : Chg (fun y => y = b) wr (wr.setCell ⟨b, 0, none⟩ (.int .i64 5)) := Chg.of_mv (F := fun y => y = b) (Mv.set1 wr b 0 _) rfl
        have HX : Hid (WalkP (fun x => F x ∨ w.heap.size ≤ x) b { s with levels := l :: L, next := 5 } (wr.setCell ⟨b, 0, none⟩ (.int .i64 5))) := Lib.hid ⟨rv, pv, lv, prv, sv, (hq.own o1 (s' := { s with levels := l :: L, next := 5 }) (hq.blk.set_ 0 _) rfl rfl rfl rfl rfl).mono (fun _ => .inl)⟩
        have HC := Lib.hid (hch.trans (o1.mono (fun x hx => hx ▸ hq.fb)))
        unfold more at hm
        clear hq hch o1 hz hne hpo hpe hok
        cases hbk : s.back with
        | true =>
          rw [hbk] at c3 hm
          have hm2 : 0 < l.2.2 := of_decide_eq_true (by simpa using hm)
          clear hbk hm
          go_wp2_with (fail)
          refine bodyPost_ret (results_none rfl _ _ _) rfl ?_
          rw [HS.out]
          exact ⟨rfl, HX.out, HC.out⟩
        | false =>
          rw [hbk] at c3 hm
          have hm2 : l.2.2 + 1 < l.2.1 := of_decide_eq_true (by simpa using hm)
          clear hbk hm
          go_wp2_with (fail)
          refine bodyPost_ret (results_none rfl _ _ _) rfl ?_
          rw [HS.out]
          exact ⟨rfl, HX.out, HC.out⟩
      | false =>
        have hpe : popTo s.back L = popTo s.back s.levels := by
          rw [← hpo]
          show _ = (if more s.back l = true then l :: L else popTo s.back L)
          rw [if_neg (by rw [hm]; exact Bool.false_ne_true)]
        unfold more at hm
        have HQ := Lib.hid hq
        have HZ := Lib.hid hz
        have HLe := Lib.hid (hq.lev.lenAt c9)
        have HPE := Lib.hid hpe
        have HCH := Lib.hid hch
        have HNE := Lib.hid hne
        have HLB := Lib.hid hlb
        clear hpe hch hne hlb
        clear hq hz hpo hok
        have hll3 : L.length ≤ 1000000 := by simp at hle; omega
        cases hbk : s.back with
        | true =>
          rw [hbk] at c3 hm
          have hm2 : ¬ 0 < l.2.2 := of_decide_eq_false (by simpa using hm)
          clear hm
          go_wp2_with (fail)
          with_reducible refine (popW_any F b _ rv pv lv prv sv l L _ HQ.out rfl hll3).mono ?_
          rintro e w3 ⟨rfl, lv3, hq3, ho3, hc3⟩
          have HQ3 := Lib.hid hq3
          clear hq3
          have hz3 : Blk w3 z 184 (topV (l :: L)) := hc3.blk HZ.out (fun e => by
            rcases e with e | e
            · exact HZ.out.ne_ HQ.out.blk (by decide) e
            · exact HNE.out _ e rfl)
          have hC3 := HCH.out.trans (hc3.mono (fun y hy => by
            rcases hy with rfl | e
            · exact HQ.out.fb
            · exact HQ.out.lev.2 _ e))
          have y0 : w3.cell? ⟨z, 0, none⟩ = some (.int .i64 l.1) := hz3.cell 0
          have y1 : w3.cell? ⟨z, 1, none⟩ = some (.int .i64 l.2.1) := hz3.cell 1
          have y2 : w3.cell? ⟨z, 2, none⟩ = some (.int .i64 l.2.2) := hz3.cell 2
          have hzl := hz3.lt
          have HC3 := Lib.hid hC3
          have HO3 := Lib.hid ho3
          clear hC3 ho3
          clear z0 z1 z2 c3 c9 hz3 hc3
          go_wp2_with (fail)
          have hn4 := Blk.new w3 184 #[.int .i64 l.1, .int .i64 l.2.1, .int .i64 l.2.2]
          have hb4 := (Below.refl w3.heap.size w3).alloc (Nat.le_refl _) (.cells #[.int .i64 l.1, .int .i64 l.2.1, .int .i64 l.2.2] 184)
          have HQ4 := Lib.hid (HQ3.out.below hb4)
          have hs4 : (w3.alloc (.cells #[.int .i64 l.1, .int .i64 l.2.1, .int .i64 l.2.2] 184)).heap.size = w3.heap.size + 1 := by simp
          with_reducible refine (topL_any b 9 lv3 L _ F (HQ4.out.blk.cell 9) HQ4.out.lev hll3).mono ?_
          rintro e w5 ⟨rfl, hb5⟩
          have HQ5 := Lib.hid (HQ4.out.below hb5)
          have hn5 := hn4.below hb5 (by rw [hs4]; omega)
          have HB5 := Lib.hid (hb4.trans (hb5.mono (by rw [hs4]; omega)))
          have HN5 := Lib.hid hn5
          have v0 : w5.cell? ⟨w3.heap.size, 0, none⟩ = some (.int .i64 l.1) := hn5.cell 0
          have v1 : w5.cell? ⟨w3.heap.size, 1, none⟩ = some (.int .i64 l.2.1) := hn5.cell 1
          have v2 : w5.cell? ⟨w3.heap.size, 2, none⟩ = some (.int .i64 l.2.2) := hn5.cell 2
          have g0 := hn5.frozen 0
          have g1 := hn5.frozen 1
          have g2 := hn5.frozen 2
          clear hn4 hb4 HQ4 hb5 hn5 hs4 y0 y1 y2 hzl
          go_wp2_with (fail)
          have hz3 := HC3.out.size
          have hch6 : Chg (fun y => y = w3.heap.size) w5 (((w5.setCell ⟨w3.heap.size, 0, none⟩ (.int .i64 (headL L).1)).setCell ⟨w3.heap.size, 1, none⟩ (.int .i64 (headL L).2.1)).setCell ⟨w3.heap.size, 2, none⟩ (.int .i64 (headL L).2.2)) := Chg.of_mv (F := fun y => y = w3.heap.size) (((Mv.set1 w5 w3.heap.size 0 _).trans_ (Mv.set1 _ w3.heap.size 1 _)).trans_ (Mv.set1 _ w3.heap.size 2 _)) rfl
          have hq6 := ((HQ3.out.within.below HB5.out).chg hch6 (fun x hx e => by have := hx.2; omega)).mono (fun x hx => hx.1)
          have hb6 := ((HN5.out.set_ 0 (.int .i64 (headL L).1)).set_ 1 (.int .i64 (headL L).2.1)).set_ 2 (.int .i64 (headL L).2.2)
          refine ⟨⟨L, w3.heap.size, rv, pv, lv3, prv, sv, rfl, rfl, hb6, hq6, fun g hg => ?_, HPE.out, hll3, fun x hx => HLB.out x (List.mem_cons_of_mem _ hx), hz3, ?_⟩, ?_⟩
          · have := own_lt HQ3.out.lev.1 g hg; omega
          · exact (HC3.out.trans (Chg.of_below HB5.out)).grow hch6 (fun x hx => .inr (by omega))
          · rw [HLe.out, hq6.lev.lenAt (hq6.blk.cell 9)]
            exact Nat.lt_succ_self _
        | false =>
          rw [hbk] at c3 hm
          have hm2 : ¬ l.2.2 + 1 < l.2.1 := of_decide_eq_false (by simpa using hm)
          clear hm
          go_wp2_with (fail)
          with_reducible refine (popW_any F b _ rv pv lv prv sv l L _ HQ.out rfl hll3).mono ?_
          rintro e w3 ⟨rfl, lv3, hq3, ho3, hc3⟩
          have HQ3 := Lib.hid hq3
          clear hq3
          have hz3 : Blk w3 z 184 (topV (l :: L)) := hc3.blk HZ.out (fun e => by
            rcases e with e | e
            · exact HZ.out.ne_ HQ.out.blk (by decide) e
            · exact HNE.out _ e rfl)
          have hC3 := HCH.out.trans (hc3.mono (fun y hy => by
            rcases hy with rfl | e
            · exact HQ.out.fb
            · exact HQ.out.lev.2 _ e))
          have y0 : w3.cell? ⟨z, 0, none⟩ = some (.int .i64 l.1) := hz3.cell 0
          have y1 : w3.cell? ⟨z, 1, none⟩ = some (.int .i64 l.2.1) := hz3.cell 1
          have y2 : w3.cell? ⟨z, 2, none⟩ = some (.int .i64 l.2.2) := hz3.cell 2
          have hzl := hz3.lt
          have HC3 := Lib.hid hC3
          have HO3 := Lib.hid ho3
          clear hC3 ho3
          clear z0 z1 z2 c3 c9 hz3 hc3
          go_wp2_with (fail)
          have hn4 := Blk.new w3 184 #[.int .i64 l.1, .int .i64 l.2.1, .int .i64 l.2.2]
          have hb4 := (Below.refl w3.heap.size w3).alloc (Nat.le_refl _) (.cells #[.int .i64 l.1, .int .i64 l.2.1, .int .i64 l.2.2] 184)
          have HQ4 := Lib.hid (HQ3.out.below hb4)
          have hs4 : (w3.alloc (.cells #[.int .i64 l.1, .int .i64 l.2.1, .int .i64 l.2.2] 184)).heap.size = w3.heap.size + 1 := by simp
          with_reducible refine (topL_any b 9 lv3 L _ F (HQ4.out.blk.cell 9) HQ4.out.lev hll3).mono ?_
          rintro e w5 ⟨rfl, hb5⟩
          have HQ5 := Lib.hid (HQ4.out.below hb5)
          have hn5 := hn4.below hb5 (by rw [hs4]; omega)
          have HB5 := Lib.hid (hb4.trans (hb5.mono (by rw [hs4]; omega)))
          have HN5 := Lib.hid hn5
          have v0 : w5.cell? ⟨w3.heap.size, 0, none⟩ = some (.int .i64 l.1) := hn5.cell 0
          have v1 : w5.cell? ⟨w3.heap.size, 1, none⟩ = some (.int .i64 l.2.1) := hn5.cell 1
          have v2 : w5.cell? ⟨w3.heap.size, 2, none⟩ = some (.int .i64 l.2.2) := hn5.cell 2
          have g0 := hn5.frozen 0
          have g1 := hn5.frozen 1
          have g2 := hn5.frozen 2
          clear hn4 hb4 HQ4 hb5 hn5 hs4 y0 y1 y2 hzl
          go_wp2_with (fail)
          have hz3 := HC3.out.size
          have hch6 : Chg (fun y => y = w3.heap.size) w5 (((w5.setCell ⟨w3.heap.size, 0, none⟩ (.int .i64 (headL L).1)).setCell ⟨w3.heap.size, 1, none⟩ (.int .i64 (headL L).2.1)).setCell ⟨w3.heap.size, 2, none⟩ (.int .i64 (headL L).2.2)) := Chg.of_mv (F := fun y => y = w3.heap.size) (((Mv.set1 w5 w3.heap.size 0 _).trans_ (Mv.set1 _ w3.heap.size 1 _)).trans_ (Mv.set1 _ w3.heap.size 2 _)) rfl
          have hq6 := ((HQ3.out.within.below HB5.out).chg hch6 (fun x hx e => by have := hx.2; omega)).mono (fun x hx => hx.1)
          have hb6 := ((HN5.out.set_ 0 (.int .i64 (headL L).1)).set_ 1 (.int .i64 (headL L).2.1)).set_ 2 (.int .i64 (headL L).2.2)
          refine ⟨⟨L, w3.heap.size, rv, pv, lv3, prv, sv, rfl, rfl, hb6, hq6, fun g hg => ?_, HPE.out, hll3, fun x hx => HLB.out x (List.mem_cons_of_mem _ hx), hz3, ?_⟩, ?_⟩
          · have := own_lt HQ3.out.lev.1 g hg; omega
          · exact (HC3.out.trans (Chg.of_below HB5.out)).grow hch6 (fun x hx => .inr (by omega))
          · rw [HLe.out, hq6.lev.lenAt (hq6.blk.cell 9)]
            exact Nat.lt_succ_self _
/- The frame of walk: ahead, meet, found. -/

theorem WPost.pre {F : Nat → Prop} {b : Nat} {s' : WS} {w w1 : World} (hc : Chg (fun x => F x) w w1) {e : Ending} {w' : World} (h : WPost F b s' w1 e w') : WPost F b s' w e w' :=
  ⟨h.1, h.2.1.mono (fun x hx => hx.imp id (fun y => Nat.le_trans hc.size y)), hc.trans h.2.2⟩
theorem WPost.grown {F : Nat → Prop} {b : Nat} {s' : WS} {w w1 : World} {e : Ending} {w' : World} (h : WPost (fun x => F x ∨ w.heap.size ≤ x) b s' w1 e w') (hc : Chg (fun x => F x) w w1) : WPost F b s' w e w' :=
  ⟨h.1, h.2.1.mono (fun x hx => hx.elim id (fun y => .inr (Nat.le_trans hc.size y))), hc.grow h.2.2 (fun x hx => hx)⟩
theorem WalkP.fin {F : Nat → Prop} {b : Nat} {s : WS} {w : World} (h : WalkP F b s w) (n : Int) : WPost F b { s with next := n } w (.returned (.tuple #[])) (w.setCell ⟨b, 0, none⟩ (.int .i64 n)) := by
  obtain ⟨rv, pv, lv, prv, sv, h⟩ := h
  have o := Chg.of_mv (F := fun y => y = b) (Mv.set1 w b 0 (.int .i64 n)) rfl
  exact ⟨rfl, ⟨rv, pv, lv, prv, sv, (h.own o (s' := { s with next := n }) (h.blk.set_ 0 _) rfl rfl rfl rfl rfl).mono (fun _ => .inl)⟩, o.mono (fun x hx => hx ▸ h.fb)⟩
section
variable (F : Nat → Prop) (b : Nat) (s : WS) (w : World)
set_option maxHeartbeats 1000000 in
theorem aheadW_any (h : WalkP F b s w) (hl : s.levels ≠ []) (hll : s.levels.length ≤ 1000000) (hlv : ∀ l ∈ s.levels, levelB l) :
    Calls Tryz.prog 135 #[.pointer (some ⟨b, 0, none⟩)] w fun e w' => e = .returned (.int .i64 s.ahead) ∧ Below w.heap.size w w' := by
  obtain ⟨rv, pv, lv, prv, sv, h⟩ := h
  obtain ⟨x, L, hL⟩ := List.exists_cons_of_ne_nil hl
  have hS : s.ahead = if s.back = true then keyAtI x.1 x.2.2 else keyAtI x.1 (x.2.2 + 1) := by unfold WS.ahead WS.top; rw [hL]; rfl
  have hlev := h.lev
  rw [hL] at hlev hll hlv
  obtain ⟨l0, l1, l2⟩ := hlv x (by simp)
  have c9 : w.cell? ⟨b, 9, none⟩ = some lv := h.blk.cell 9
  have H := Lib.hid h
  have HS := Lib.hid hS
  have HL := Lib.hid hlev
  have C9 := Lib.hid c9
  clear h hS hlev c9
  have go : ∀ w1, Below w.heap.size w w1 → Hid (Below w.heap.size w (w1.alloc (.cells #[.int .i64 x.1, .int .i64 x.2.1, .int .i64 x.2.2] 184)) ∧ Blk (w1.alloc (.cells #[.int .i64 x.1, .int .i64 x.2.1, .int .i64 x.2.2] 184)) w1.heap.size 184 #[.int .i64 x.1, .int .i64 x.2.1, .int .i64 x.2.2] ∧ (w1.alloc (.cells #[.int .i64 x.1, .int .i64 x.2.1, .int .i64 x.2.2] 184)).cell? ⟨b, 3, none⟩ = some (.bool s.back)) := fun w1 hb1 => by
    have hb2 := hb1.alloc hb1.size (.cells #[.int .i64 x.1, .int .i64 x.2.1, .int .i64 x.2.2] 184)
    exact Lib.hid ⟨hb2, Blk.new w1 184 _, (H.out.blk.below hb2 H.out.blk.lt).cell 3⟩
  have GO := Lib.hid go
  clear hl hL hlv go
  cases hbk : s.back with
  | true =>
    rw [hbk] at GO HS
    go_enter Tryz.func135, Tryz.ntmps135
    go_wp2_with (fail)
    with_reducible refine (topL_cons b 9 lv x L _ F C9.out HL.out (by simp at hll; omega)).mono ?_
    rintro e w1 ⟨rfl, hb1⟩
    obtain ⟨hb2, hx, c3⟩ := (GO.out w1 hb1).out
    have x0 := hx.cell 0
    have x2 := hx.cell 2
    simp only [List.getElem?_toArray, List.getElem?_cons_zero, List.getElem?_cons_succ] at x0 x2
    have HB2 := Lib.hid hb2
    clear hb2
    clear hx hb1
    go_wp2_with (fail)
    with_reducible refine (keyat_any _ _ _).mono ?_
    rintro e w3 ⟨rfl, hb3⟩
    have HB3 := Lib.hid (HB2.out.trans (hb3.mono HB2.out.size))
    clear hb3
    go_wp2_with (fail)
    go_ret
    rw [HS.out]
    exact ⟨rfl, HB3.out⟩
  | false =>
    rw [hbk] at GO HS
    go_enter Tryz.func135, Tryz.ntmps135
    go_wp2_with (fail)
    with_reducible refine (topL_cons b 9 lv x L _ F C9.out HL.out (by simp at hll; omega)).mono ?_
    rintro e w1 ⟨rfl, hb1⟩
    obtain ⟨hb2, hx, c3⟩ := (GO.out w1 hb1).out
    have x0 := hx.cell 0
    have x2 := hx.cell 2
    simp only [List.getElem?_toArray, List.getElem?_cons_zero, List.getElem?_cons_succ] at x0 x2
    have HB2 := Lib.hid hb2
    clear hb2
    clear hx hb1
    go_wp2_with (fail)
    with_reducible refine (keyat_any _ _ _).mono ?_
    rintro e w3 ⟨rfl, hb3⟩
    have HB3 := Lib.hid (HB2.out.trans (hb3.mono HB2.out.size))
    clear hb3
    go_wp2_with (fail)
    go_ret
    rw [HS.out]
    exact ⟨rfl, HB3.out⟩
set_option maxHeartbeats 1000000 in
theorem meetW_any (x : Int) (h : WalkP F b s w) (hll : s.levels.length ≤ 1000000) (hlv : ∀ l ∈ s.levels, levelB l) (x0 : -9223372036854775808 ≤ x) (x1 : x ≤ 9223372036854775807) :
    Calls Tryz.prog 131 #[.pointer (some ⟨b, 0, none⟩), .int .i64 x] w (WPost F b (s.meet x) w) := by
  obtain ⟨rv, pv, lv, prv, sv, h⟩ := h
  have c0 : w.cell? ⟨b, 0, none⟩ = some (.int .i64 s.next) := h.blk.cell 0
  have c10 : w.cell? ⟨b, 10, none⟩ = some (.int .i64 s.at_) := h.blk.cell 10
  have f0 := h.blk.frozen 0
  have f10 := h.blk.frozen 10
  have o := Chg.of_mv (F := fun y => y = b) (Mv.set1 w b 10 (.int .i64 (wAt x))) rfl
  have H5 : Hid (WalkP F b { s with at_ := wAt x } (w.setCell ⟨b, 10, none⟩ (.int .i64 (wAt x)))) := Lib.hid ⟨rv, pv, lv, prv, sv, h.own o (s' := { s with at_ := wAt x }) (h.blk.set_ 10 _) rfl rfl rfl rfl rfl⟩
  have O5 := Lib.hid (o.mono (fun x hx => hx ▸ h.fb) : Chg (fun x => F x) w _)
  clear o h
  by_cases k2 : wKind x = 2
  · have HM := Lib.hid (show s.meet x = { s with at_ := wAt x, next := 2 } from if_pos k2)
    have e2 : (wKind x == 2) = true := by simpa using k2
    clear k2
    go_enter Tryz.func131, Tryz.ntmps131
    go_wp2_with (fail)
    with_reducible refine (refAt_any x _ x0 x1).mono ?_
    rintro e w1 ⟨rfl, rfl⟩
    go_wp2_with (fail)
    with_reducible refine (kind_any x _ x0 x1).mono ?_
    rintro e w1 ⟨rfl, rfl⟩
    go_wp2_with (fail)
    go_end0
    rw [HM.out]
    exact (H5.out.fin 2).pre O5.out
  · have e2 : (wKind x == 2) = false := by simpa using k2
    by_cases k3 : wKind x = 3
    · have HM := Lib.hid (show s.meet x = WS.enter { s with at_ := wAt x } (wAt x) by unfold WS.meet; rw [if_neg k2, if_pos k3])
      have e3 : (wKind x == 3) = true := by simpa using k3
      clear k2 k3
      go_enter Tryz.func131, Tryz.ntmps131
      go_wp2_with (fail)
      with_reducible refine (refAt_any x _ x0 x1).mono ?_
      rintro e w1 ⟨rfl, rfl⟩
      go_wp2_with (fail)
      with_reducible refine (kind_any x _ x0 x1).mono ?_
      rintro e w1 ⟨rfl, rfl⟩
      go_wp2_with (fail)
      with_reducible refine (enterW_any F b _ (wAt x) _ H5.out).mono ?_
      rintro e w2 hp
      have HP := Lib.hid hp
      obtain ⟨rfl, _, _⟩ := hp
      go_wp2_with (fail)
      go_end0
      rw [HM.out]
      exact HP.out.pre O5.out
    · have e3 : (wKind x == 3) = false := by simpa using k3
      by_cases k4 : wKind x = 4
      · have HM := Lib.hid (show s.meet x = { s with at_ := wAt x, next := 4 } by unfold WS.meet; rw [if_neg k2, if_neg k3, if_pos k4])
        have e4 : (wKind x == 4) = true := by simpa using k4
        clear k2 k3 k4
        go_enter Tryz.func131, Tryz.ntmps131
        go_wp2_with (fail)
        with_reducible refine (refAt_any x _ x0 x1).mono ?_
        rintro e w1 ⟨rfl, rfl⟩
        go_wp2_with (fail)
        with_reducible refine (kind_any x _ x0 x1).mono ?_
        rintro e w1 ⟨rfl, rfl⟩
        go_wp2_with (fail)
        go_end0
        rw [HM.out]
        exact (H5.out.fin 4).pre O5.out
      · have HM := Lib.hid (show s.meet x = WS.onward { s with at_ := wAt x } by unfold WS.meet; rw [if_neg k2, if_neg k3, if_neg k4])
        have e4 : (wKind x == 4) = false := by simpa using k4
        clear k2 k3 k4
        go_enter Tryz.func131, Tryz.ntmps131
        go_wp2_with (fail)
        with_reducible refine (refAt_any x _ x0 x1).mono ?_
        rintro e w1 ⟨rfl, rfl⟩
        go_wp2_with (fail)
        with_reducible refine (kind_any x _ x0 x1).mono ?_
        rintro e w1 ⟨rfl, rfl⟩
        go_wp2_with (fail)
        with_reducible refine (onwardW_any F b _ _ H5.out hll hlv).mono ?_
        rintro e w2 hp
        have HP := Lib.hid hp
        obtain ⟨rfl, _, _⟩ := hp
        go_wp2_with (fail)
        go_end0
        rw [HM.out]
        exact HP.out.pre O5.out
theorem cellsP_snoc (L : List (Int × Int)) (x : Int × Int) : cellsP (L ++ [x]) = cellsP L ++ [.int .i64 x.1, .int .i64 x.2] := by simp [cellsP]
def AppP (F : Nat → Prop) (b : Nat) (s : WS) (v : Int) (rv pv lv sv : Value) (w : World) (gg cap : Nat) (w5 : World) : Prop :=
  WalkQ (fun x => F x ∨ w.heap.size ≤ x) b { s with pairs := s.pairs ++ [(s.key, v)] } rv pv lv (.slice (some ⟨gg, 0, none⟩) (s.pairs.length + 1) cap) sv (w5.setCell ⟨b, 12, none⟩ (.slice (some ⟨gg, 0, none⟩) (s.pairs.length + 1) cap)) ∧ Chg (fun x => F x) w (w5.setCell ⟨b, 12, none⟩ (.slice (some ⟨gg, 0, none⟩) (s.pairs.length + 1) cap))
theorem WalkQ.appp {F : Nat → Prop} {b : Nat} {s : WS} {v : Int} {rv pv lv prv sv : Value} {w wd : World} (h : WalkQ F b s rv pv lv prv sv w) (hb : Below w.heap.size w wd) {gg cap : Nat} {w5 : World} (hO : w5.ownsRow 0 52 2 (.slice (some ⟨gg, 0, none⟩) (s.pairs.length + 1) cap) (s.pairs.length + 1) (cellsP s.pairs ++ [.int .i64 s.key, .int .i64 v])) (hg : wd.grownBy w5 prv.ownBlock) (hat : prv.ownBlock = some gg ∨ w.heap.size ≤ gg) :
    Hid (w5.cell? ⟨b, 12, none⟩ = some prv ∧ w5.frozen? ⟨b, 12, none⟩ = false ∧ AppP F b s v rv pv lv sv w gg cap w5) := by
  have hc := (Chg.of_below (F := fun y => prv.ownBlock = some y) hb).trans (Chg.of_grown hg)
  have hbl := hc.blk h.blk (fun e => own_blk_ne h.prs.1 h.blk (by decide) e)
  have hc6 : Chg (fun y => y = b ∨ prv.ownBlock = some y) w (w5.setCell ⟨b, 12, none⟩ (.slice (some ⟨gg, 0, none⟩) (s.pairs.length + 1) cap)) := (hc.mono (fun _ => .inr)).trans ((Chg.of_mv (F := fun y => y = b) (Mv.set1 w5 b 12 _) rfl).mono (fun _ => .inl))
  have k : ∀ T : TypeId, 181 ≠ T → 52 ≠ T → ∀ x, (x = b ∨ prv.ownBlock = some x) → ∃ t cs, Blk w x t cs ∧ t ≠ T := fun T h1 h2 x hx => by
    rcases hx with rfl | hx
    · exact ⟨_, _, h.blk, h1⟩
    · obtain ⟨cs, hb⟩ := own_blk h.prs.1 hx
      exact ⟨_, cs, hb, h2⟩
  have hn : PrP (fun x => F x ∨ w.heap.size ≤ x) 52 (.slice (some ⟨gg, 0, none⟩) (s.pairs.length + 1) cap) (s.pairs ++ [(s.key, v)]) (w5.setCell ⟨b, 12, none⟩ (.slice (some ⟨gg, 0, none⟩) (s.pairs.length + 1) cap)) := by
    refine ⟨?_, fun g hg => ?_⟩
    · rw [cellsP_snoc, List.length_append]
      exact ownsRow_setCell_other hO (a := ⟨b, 12, none⟩) (fun e => own_blk_ne hO hbl (by decide) (by simpa using e)) _
    · have hgg : gg = g := by simpa [Value.ownBlock] using hg
      subst hgg
      rcases hat with e | e
      · exact .inl (h.prs.2 gg e)
      · exact .inr e
  have k' := fun T h1 h2 => k T h1 h2
  refine Lib.hid ⟨hbl.cell 12, hbl.frozen 12, ⟨.inl h.fb, hbl.set_ 12 _, (h.route.keep hc6 (k _ (by decide) (by decide))).mono (fun _ => .inl), (h.peek.keep hc6 (k _ (by decide) (by decide))).mono (fun _ => .inl), (h.lev.keep hc6 (k _ (by decide) (by decide))).mono (fun _ => .inl), hn, (h.sps.keep hc6 (k _ (by decide) (by decide))).mono (fun _ => .inl)⟩, hc6.mono (fun x hx => ?_)⟩
  rcases hx with rfl | e
  · exact h.fb
  · exact h.prs.2 x e
def AppS (F : Nat → Prop) (b : Nat) (s : WS) (x : Int) (rv pv lv prv : Value) (w : World) (gg cap : Nat) (w5 : World) : Prop :=
  WalkQ (fun x => F x ∨ w.heap.size ≤ x) b { s with spots := s.spots ++ [(s.slot, x)] } rv pv lv prv (.slice (some ⟨gg, 0, none⟩) (s.spots.length + 1) cap) (w5.setCell ⟨b, 13, none⟩ (.slice (some ⟨gg, 0, none⟩) (s.spots.length + 1) cap)) ∧ Chg (fun x => F x) w (w5.setCell ⟨b, 13, none⟩ (.slice (some ⟨gg, 0, none⟩) (s.spots.length + 1) cap))
theorem WalkQ.apps {F : Nat → Prop} {b : Nat} {s : WS} {x : Int} {rv pv lv prv sv : Value} {w wd : World} (h : WalkQ F b s rv pv lv prv sv w) (hb : Below w.heap.size w wd) {gg cap : Nat} {w5 : World} (hO : w5.ownsRow 0 114 2 (.slice (some ⟨gg, 0, none⟩) (s.spots.length + 1) cap) (s.spots.length + 1) (cellsP s.spots ++ [.int .i64 s.slot, .int .i64 x])) (hg : wd.grownBy w5 sv.ownBlock) (hat : sv.ownBlock = some gg ∨ w.heap.size ≤ gg) :
    Hid (w5.cell? ⟨b, 13, none⟩ = some sv ∧ w5.frozen? ⟨b, 13, none⟩ = false ∧ AppS F b s x rv pv lv prv w gg cap w5) := by
  have hc := (Chg.of_below (F := fun y => sv.ownBlock = some y) hb).trans (Chg.of_grown hg)
  have hbl := hc.blk h.blk (fun e => own_blk_ne h.sps.1 h.blk (by decide) e)
  have hc6 : Chg (fun y => y = b ∨ sv.ownBlock = some y) w (w5.setCell ⟨b, 13, none⟩ (.slice (some ⟨gg, 0, none⟩) (s.spots.length + 1) cap)) := (hc.mono (fun _ => .inr)).trans ((Chg.of_mv (F := fun y => y = b) (Mv.set1 w5 b 13 _) rfl).mono (fun _ => .inl))
  have k : ∀ T : TypeId, 181 ≠ T → 114 ≠ T → ∀ x, (x = b ∨ sv.ownBlock = some x) → ∃ t cs, Blk w x t cs ∧ t ≠ T := fun T h1 h2 x hx => by
    rcases hx with rfl | hx
    · exact ⟨_, _, h.blk, h1⟩
    · obtain ⟨cs, hb⟩ := own_blk h.sps.1 hx
      exact ⟨_, cs, hb, h2⟩
  have hn : PrP (fun x => F x ∨ w.heap.size ≤ x) 114 (.slice (some ⟨gg, 0, none⟩) (s.spots.length + 1) cap) (s.spots ++ [(s.slot, x)]) (w5.setCell ⟨b, 13, none⟩ (.slice (some ⟨gg, 0, none⟩) (s.spots.length + 1) cap)) := by
    refine ⟨?_, fun g hg => ?_⟩
    · rw [cellsP_snoc, List.length_append]
      exact ownsRow_setCell_other hO (a := ⟨b, 13, none⟩) (fun e => own_blk_ne hO hbl (by decide) (by simpa using e)) _
    · have hgg : gg = g := by simpa [Value.ownBlock] using hg
      subst hgg
      rcases hat with e | e
      · exact .inl (h.sps.2 gg e)
      · exact .inr e
  have k' := fun T h1 h2 => k T h1 h2
  refine Lib.hid ⟨hbl.cell 13, hbl.frozen 13, ⟨.inl h.fb, hbl.set_ 13 _, (h.route.keep hc6 (k _ (by decide) (by decide))).mono (fun _ => .inl), (h.peek.keep hc6 (k _ (by decide) (by decide))).mono (fun _ => .inl), (h.lev.keep hc6 (k _ (by decide) (by decide))).mono (fun _ => .inl), (h.prs.keep hc6 (k _ (by decide) (by decide))).mono (fun _ => .inl), hn⟩, hc6.mono (fun x hx => ?_)⟩
  rcases hx with rfl | e
  · exact h.fb
  · exact h.sps.2 x e
def WS.full' (s : WS) (n : Nat) : Bool := decide (0 < s.most) && decide (s.most ≤ (n : Int))
theorem WS.found_split (s : WS) (v : Int) : (s.full' (s.pairs.length + 1) = true → s.found v = { s with pairs := s.pairs ++ [(s.key, v)], next := 6 }) ∧ (s.full' (s.pairs.length + 1) = false → s.found v = WS.onward { s with pairs := s.pairs ++ [(s.key, v)] }) := by
  have e : WS.full { s with pairs := s.pairs ++ [(s.key, v)] } = s.full' (s.pairs.length + 1) := by
    unfold WS.full WS.full'; simp only [List.length_append, List.length_cons, List.length_nil]
  unfold WS.found
  rw [e]
  exact ⟨fun h => if_pos h, fun h => if_neg (by rw [h]; exact Bool.false_ne_true)⟩
set_option maxRecDepth 100000 in
set_option maxHeartbeats 2000000 in
theorem foundW_any (v : Int) (h : WalkP F b s w) (hll : s.levels.length ≤ 1000000) (hlv : ∀ l ∈ s.levels, levelB l) (hpl : s.pairs.length ≤ 1000000) (hm0 : -9223372036854775808 ≤ s.most) (hm1 : s.most ≤ 9223372036854775807) :
    Calls Tryz.prog 133 #[.pointer (some ⟨b, 0, none⟩), .int .i64 v] w (WPost F b (s.found v) w) := by
  obtain ⟨i0, hi0, hz0, hz1, hz2⟩ := info_parts info_pair
  obtain ⟨rv, pv, lv, prv, sv, h⟩ := h
  have c11 : w.cell? ⟨b, 11, none⟩ = some (.int .i64 s.key) := h.blk.cell 11
  have c12 : w.cell? ⟨b, 12, none⟩ = some prv := h.blk.cell 12
  obtain ⟨A, c, rfl⟩ := own_shape h.prs.1
  have n1 := World.new_ne w ⟨b, 12, none⟩ c12
  have hbl := h.blk.lt
  have HAl := Lib.hid ((Below.refl w.heap.size w).alloc (Nat.le_refl _) (.cells #[.int .i64 s.key, .int .i64 v] 52))
  have HAd : Hid (Below w.heap.size w (w.alloc (.cells #[.int .i64 s.key, .int .i64 v] 52)).drew) := Lib.hid (HAl.out.trans (drawn_bl (Drawn.of _ 1) _))
  have HLd : Hid ((w.alloc (.cells #[.int .i64 s.key, .int .i64 v] 52)).drew.ownsRow 0 52 2 (.slice A s.pairs.length c) s.pairs.length (cellsP s.pairs)) := Lib.hid (own_below h.prs.1 HAd.out)
  have HRd : Hid (∀ (j : Nat) (u : Value), ([.int .i64 s.key, .int .i64 v] : List Value)[j]? = some u → (w.alloc (.cells #[.int .i64 s.key, .int .i64 v] 52)).drew.cell? ((⟨w.heap.size, 0, none⟩ : Addr).add j) = some u) := Lib.hid (fun j u hu => by
    have e : (⟨w.heap.size, 0, none⟩ : Addr).add j = ⟨w.heap.size, j, none⟩ := by unfold Addr.add; split <;> simp_all
    rw [e]
    have := (Blk.new w 52 #[.int .i64 s.key, .int .i64 v]).cell j
    exact this.trans (by simpa using hu))
  have H := Lib.hid h
  have hsl : s.pairs = s.pairs := rfl
  clear h hsl
  go_enter Tryz.func133, Tryz.ntmps133
  go_wp2_with (fail)
  go_region_law (first | (refine step_append_lies _ (by rfl) _ _ _ (by rfl) 0 52 i0 _ 2 16 Tryz.underlying40 hi0 hz0 hz1 hz2 rfl (by omega) (.slice A s.pairs.length c) s.pairs.length (cellsP s.pairs) (by rfl) HLd.out ⟨w.heap.size, 0, none⟩ 1 1 [.int .i64 s.key, .int .i64 v] (by rfl) (by rfl) HRd.out (by simp [Value.oneCell']) (by omega) (by unfold maxLen; omega) (by omega) (by omega) (w.heap.size + 1) (by simp) ?_; intro gg cap w5 hO5 hg5 hat hlt5; have K5 := H.out.appp HAd.out hO5 hg5 (hat.imp id (fun e => by omega)); have c5 := K5.out.1; have f5 := K5.out.2.1; clear hO5 hg5 hat hlt5))
  all_goals
    have hP := K5.out.2.2
    clear K5 c5 f5 HAl HAd HLd HRd n1 c11 c12 H
    revert hP
    unfold AppP
    generalize w5.setCell ⟨b, 12, none⟩ (.slice (some ⟨gg, 0, none⟩) (s.pairs.length + 1) cap) = w6
    rintro ⟨hq, hc⟩
    have d12 : w6.cell? ⟨b, 12, none⟩ = some (.slice (some ⟨gg, 0, none⟩) (s.pairs.length + 1) cap) := hq.blk.cell 12
    have d5 : w6.cell? ⟨b, 5, none⟩ = some (.int .i64 s.most) := hq.blk.cell 5
    have d0 : w6.cell? ⟨b, 0, none⟩ = some (.int .i64 s.next) := hq.blk.cell 0
    have g0 := hq.blk.frozen 0
    have HP : Hid (∀ k, WalkP (fun x => F x ∨ w.heap.size ≤ x) b { s with pairs := s.pairs ++ [(s.key, v)] } (w6.drewN k)) := Lib.hid (fun k => ⟨_, _, _, _, _, hq.below (drawn_bl ⟨k, rfl⟩ _)⟩)
    have HC : Hid (∀ k, Chg (fun x => F x) w (w6.drewN k)) := Lib.hid (fun k => hc.trans (Chg.of_below (drawn_bl ⟨k, rfl⟩ _)))
    have HF := Lib.hid (WS.found_split s v)
    clear hq hc
    by_cases hm : 0 < s.most
    · by_cases hk : s.most ≤ (s.pairs.length : Int) + 1
      · have HS := Lib.hid (HF.out.1 (by unfold WS.full'; simp [hm, hk]))
        go_wp2_with (fail)
        go_quiet (fail)
        go_wp2_with (fail)
        refine bodyPost_ret (results_none rfl _ _ _) rfl ?_
        rw [HS.out]
        exact ((HP.out _).fin 6).grown (HC.out _)
      · have HS := Lib.hid (HF.out.2 (by unfold WS.full'; simp [hm, hk]))
        go_wp2_with (fail)
        go_quiet (fail)
        go_wp2_with (fail)
        with_reducible refine (onwardW_any _ b _ _ (HP.out _) hll hlv).mono ?_
        rintro e w8 hp
        have HW := Lib.hid (hp.grown (HC.out _))
        obtain ⟨rfl, _, _⟩ := hp
        go_wp2_with (fail)
        go_end0
        rw [HS.out]
        exact HW.out
    · have HS := Lib.hid (HF.out.2 (by unfold WS.full'; simp [hm]))
      have hm3 : decide (0 < s.most) = false := decide_eq_false hm
      clear hm
      go_wp2_with (fail)
      go_quiet (fail)
      go_wp2_with (fail)
      with_reducible refine (onwardW_any _ b _ _ (HP.out _) hll hlv).mono ?_
      rintro e w8 hp
      have HW := Lib.hid (hp.grown (HC.out _))
      obtain ⟨rfl, _, _⟩ := hp
      go_wp2_with (fail)
      go_end0
      rw [HS.out]
      exact HW.out
end
/- The frame of walk: bound. -/

theorem WPost.mono {F G : Nat → Prop} {b : Nat} {s' : WS} {w : World} {e : Ending} {w' : World} (h : WPost F b s' w e w') (hs : ∀ x, F x → G x) : WPost G b s' w e w' := ⟨h.1, h.2.1.mono (fun x hx => hx.imp (hs x) id), h.2.2.mono hs⟩
section
variable (F : Nat → Prop) (b : Nat) (s : WS)
theorem pushW_any (n d i : Int) (w : World) (h : WalkP F b s w) (hl : s.levels.length ≤ 1000000) :
    Calls Tryz.prog 128 #[.pointer (some ⟨b, 9, none⟩), .agg #[.int .i64 n, .int .i64 d, .int .i64 i]] w (WPost F b { s with levels := (n, d, i) :: s.levels } w) := by
  obtain ⟨rv, pv, lv, prv, sv, h⟩ := h
  refine (pushL_any F b 9 181 _ lv n d i s.levels w h.blk (by decide) rfl h.lev hl).mono ?_
  rintro e w' ⟨he, lv', hb, hlv, hc⟩
  refine ⟨he, ⟨rv, pv, lv', prv, sv, (h.mono (fun x hx => Or.inl hx)).turned hb hlv hc⟩, hc.mono (fun x hx => ?_)⟩
  rcases hx with rfl | e
  · exact h.fb
  · exact h.lev.2 x e
set_option maxRecDepth 100000 in
set_option maxHeartbeats 2000000 in
theorem boundW_in (w : World) (q : Int) (h : WalkP F b s w) (hF : ∀ x, F x → x < w.heap.size) (l : Int × Int × Int) (L : List (Int × Int × Int)) (hs : s.levels = l :: L) (hll : L.length < 1000000) (hlv : ∀ l ∈ s.levels, levelB l) (hm : more s.back l = true) :
    Calls Tryz.prog 134 #[.pointer (some ⟨b, 0, none⟩), .int .i64 q] w (WPost F b (s.bound q) w) := by
  obtain ⟨rv, pv, lv, prv, sv, h⟩ := h
  obtain ⟨l0, l1, l2⟩ := hlv l (by rw [hs]; simp)
  have hlL : ∀ x ∈ L, levelB x := fun x hx => hlv x (by rw [hs]; exact List.mem_cons_of_mem _ hx)
  have hbd : s.bound q = if s.back = true then (if s.lo < q then WS.look { s with levels := (l.1, l.2.1, l.2.2 - 1) :: L } else WS.onward { s with levels := L }) else (if q ≤ s.hi then WS.look { s with levels := (l.1, l.2.1, l.2.2 + 1) :: L } else WS.onward { s with levels := L }) := by unfold WS.bound WS.top; rw [hs]; rfl
  have H := Lib.hid h
  have HS := Lib.hid hs
  have HLL := Lib.hid hlL
  have HBD := Lib.hid hbd
  have HF := Lib.hid hF
  clear h hs hlL hbd hF
  clear hlv
  go_enter Tryz.func134, Tryz.ntmps134
  go_wp2_with (fail)
  with_reducible refine (popW_any F b _ rv pv lv prv sv l L _ H.out HS.out (by omega)).mono ?_
  rintro e w1 ⟨rfl, lv', hq, ho, hc⟩
  have hC1 := hc.mono (G := fun x => F x) (fun x hx => by
    rcases hx with rfl | e
    · exact H.out.fb
    · exact H.out.lev.2 x e)
  have GO : Hid (∀ i : Int, Blk (w1.alloc (.cells #[.int .i64 l.1, .int .i64 l.2.1, .int .i64 i] 184)) w1.heap.size 184 #[.int .i64 l.1, .int .i64 l.2.1, .int .i64 i] ∧ WalkQ F b { s with levels := L } rv pv lv' prv sv (w1.alloc (.cells #[.int .i64 l.1, .int .i64 l.2.1, .int .i64 i] 184))) := Lib.hid (fun i => ⟨Blk.new w1 184 _, hq.below ((Below.refl w1.heap.size w1).alloc (Nat.le_refl _) _)⟩)
  have HC2 : Hid (∀ i : Int, Chg (fun x => F x) w (w1.alloc (.cells #[.int .i64 l.1, .int .i64 l.2.1, .int .i64 i] 184))) := Lib.hid (fun i => hC1.trans (Chg.of_below ((Below.refl w1.heap.size w1).alloc (Nat.le_refl _) _)))
  have c1 : (w1.alloc (.cells #[.int .i64 l.1, .int .i64 l.2.1, .int .i64 l.2.2] 184)).cell? ⟨b, 1, none⟩ = some (.int .i64 s.lo) := (GO.out l.2.2).2.blk.cell 1
  have c2 : (w1.alloc (.cells #[.int .i64 l.1, .int .i64 l.2.1, .int .i64 l.2.2] 184)).cell? ⟨b, 2, none⟩ = some (.int .i64 s.hi) := (GO.out l.2.2).2.blk.cell 2
  have c3 : (w1.alloc (.cells #[.int .i64 l.1, .int .i64 l.2.1, .int .i64 l.2.2] 184)).cell? ⟨b, 3, none⟩ = some (.bool s.back) := (GO.out l.2.2).2.blk.cell 3
  have HFz : Hid (¬ F w1.heap.size) := Lib.hid (fun e => by have := HF.out _ e; have := hc.size; omega)
  clear hq hc ho hC1 H
  unfold more at hm
  cases hbk : s.back with
  | true =>
    rw [hbk] at c3 hm
    have hm2 : 0 < l.2.2 := of_decide_eq_true (by simpa using hm)
    clear hm
    by_cases hq1 : s.lo < q
    · have HS2 := Lib.hid (HBD.out.trans ((if_pos hbk).trans (if_pos hq1)))
      have HQz := Lib.hid ((GO.out (l.2.2 - 1)).2)
      have hxz := (GO.out (l.2.2 - 1)).1
      have HPd : Hid (WalkP (fun x => F x) b { s with levels := L } (w1.alloc (.cells #[.int .i64 l.1, .int .i64 l.2.1, .int .i64 (l.2.2 - 1)] 184)).drew) := Lib.hid ⟨_, _, _, _, _, HQz.out.below (drawn_bl (Drawn.of _ 1) _)⟩
      have HBd : Hid (Blk (w1.alloc (.cells #[.int .i64 l.1, .int .i64 l.2.1, .int .i64 (l.2.2 - 1)] 184)).drew w1.heap.size 184 #[.int .i64 l.1, .int .i64 l.2.1, .int .i64 (l.2.2 - 1)]) := Lib.hid (hxz.below (drawn_bl (Drawn.of _ 1) _) hxz.lt)
      have z0 : (w1.alloc (.cells #[.int .i64 l.1, .int .i64 l.2.1, .int .i64 (l.2.2 - 1)] 184)).cell? ⟨w1.heap.size, 0, none⟩ = some (.int .i64 l.1) := hxz.cell 0
      have z1 : (w1.alloc (.cells #[.int .i64 l.1, .int .i64 l.2.1, .int .i64 (l.2.2 - 1)] 184)).cell? ⟨w1.heap.size, 1, none⟩ = some (.int .i64 l.2.1) := hxz.cell 1
      have z2 : (w1.alloc (.cells #[.int .i64 l.1, .int .i64 l.2.1, .int .i64 (l.2.2 - 1)] 184)).cell? ⟨w1.heap.size, 2, none⟩ = some (.int .i64 (l.2.2 - 1)) := hxz.cell 2
      clear hxz
      go_wp2_with (fail)
      go_region_held3 (fun w' => w'.cell? ⟨w1.heap.size, 0, none⟩ = some (.int .i64 l.1) ∧ w'.cell? ⟨w1.heap.size, 1, none⟩ = some (.int .i64 l.2.1) ∧ w'.cell? ⟨w1.heap.size, 2, none⟩ = some (.int .i64 (l.2.2 - 1))) (first | go_keep | exact ⟨HB3.out.cell 0, HB3.out.cell 1, HB3.out.cell 2⟩) (first | (go_at_call 128; (with_reducible refine (pushW_any F b _ l.1 l.2.1 (l.2.2 - 1) _ HPd.out (by simp; omega)).mono ?_); rintro e w3 ⟨rfl, hp3, hc3⟩; have HB3 := Lib.hid (hc3.blk HBd.out HFz.out); have HP3 := Lib.hid hp3; have HC3 := Lib.hid hc3; clear hp3 hc3))
      have HC4 := Lib.hid ((HC2.out (l.2.2 - 1)).trans ((Chg.of_below (F := fun x => F x) (drawn_bl (Drawn.of _ 1) _)).trans HC3.out))
      go_wp2_with (fail)
      with_reducible refine (lookW_any _ b _ _ HP3.out (by simp) (by simp; omega)).mono ?_
      rintro e w4 hp
      have HC5 := Lib.hid (HC4.out.grow hp.2.2 (fun x hx => hx.imp id (fun y => by have := (HC2.out (l.2.2 - 1)).size; have hdz : (w1.alloc (.cells #[.int .i64 l.1, .int .i64 l.2.1, .int .i64 (l.2.2 - 1)] 184)).drew.heap.size = (w1.alloc (.cells #[.int .i64 l.1, .int .i64 l.2.1, .int .i64 (l.2.2 - 1)] 184)).heap.size := rfl; omega)))
      have HP4 := Lib.hid hp.2.1
      obtain ⟨rfl, _, _⟩ := hp
      go_wp2_with (fail)
      go_end0
      rw [HS2.out]
      refine ⟨rfl, HP4.out.mono (fun x hx => ?_), HC5.out⟩
      rcases hx with hx | hx
      · refine hx.imp id (fun y => ?_)
        have := (HC2.out (l.2.2 - 1)).size
        have hdz : (w1.alloc (.cells #[.int .i64 l.1, .int .i64 l.2.1, .int .i64 (l.2.2 - 1)] 184)).drew.heap.size = (w1.alloc (.cells #[.int .i64 l.1, .int .i64 l.2.1, .int .i64 (l.2.2 - 1)] 184)).heap.size := rfl
        omega
      · exact .inr (Nat.le_trans HC4.out.size hx)
    · have HS2 := Lib.hid (HBD.out.trans ((if_pos hbk).trans (if_neg hq1)))
      have HPz : Hid (WalkP (fun x => F x) b { s with levels := L } (w1.alloc (.cells #[.int .i64 l.1, .int .i64 l.2.1, .int .i64 l.2.2] 184))) := Lib.hid ⟨_, _, _, _, _, (GO.out l.2.2).2⟩
      go_wp2_with (fail)
      with_reducible refine (onwardW_any F b _ _ HPz.out (by simp; omega) HLL.out).mono ?_
      rintro e w4 hp
      have HW := Lib.hid (hp.pre (HC2.out l.2.2))
      obtain ⟨rfl, _, _⟩ := hp
      go_wp2_with (fail)
      refine bodyPost_ret (results_none rfl _ _ _) rfl ?_
      rw [HS2.out]
      exact HW.out
  | false =>
    rw [hbk] at c3 hm
    have hm2 : l.2.2 + 1 < l.2.1 := of_decide_eq_true (by simpa using hm)
    clear hm
    by_cases hq1 : q ≤ s.hi
    · have HS2 := Lib.hid (HBD.out.trans ((if_neg (by rw [hbk]; exact Bool.false_ne_true)).trans (if_pos hq1)))
      have HQz := Lib.hid ((GO.out (l.2.2 + 1)).2)
      have hxz := (GO.out (l.2.2 + 1)).1
      have HPd : Hid (WalkP (fun x => F x) b { s with levels := L } (w1.alloc (.cells #[.int .i64 l.1, .int .i64 l.2.1, .int .i64 (l.2.2 + 1)] 184)).drew) := Lib.hid ⟨_, _, _, _, _, HQz.out.below (drawn_bl (Drawn.of _ 1) _)⟩
      have HBd : Hid (Blk (w1.alloc (.cells #[.int .i64 l.1, .int .i64 l.2.1, .int .i64 (l.2.2 + 1)] 184)).drew w1.heap.size 184 #[.int .i64 l.1, .int .i64 l.2.1, .int .i64 (l.2.2 + 1)]) := Lib.hid (hxz.below (drawn_bl (Drawn.of _ 1) _) hxz.lt)
      have z0 : (w1.alloc (.cells #[.int .i64 l.1, .int .i64 l.2.1, .int .i64 (l.2.2 + 1)] 184)).cell? ⟨w1.heap.size, 0, none⟩ = some (.int .i64 l.1) := hxz.cell 0
      have z1 : (w1.alloc (.cells #[.int .i64 l.1, .int .i64 l.2.1, .int .i64 (l.2.2 + 1)] 184)).cell? ⟨w1.heap.size, 1, none⟩ = some (.int .i64 l.2.1) := hxz.cell 1
      have z2 : (w1.alloc (.cells #[.int .i64 l.1, .int .i64 l.2.1, .int .i64 (l.2.2 + 1)] 184)).cell? ⟨w1.heap.size, 2, none⟩ = some (.int .i64 (l.2.2 + 1)) := hxz.cell 2
      clear hxz
      go_wp2_with (fail)
      go_region_held3 (fun w' => w'.cell? ⟨w1.heap.size, 0, none⟩ = some (.int .i64 l.1) ∧ w'.cell? ⟨w1.heap.size, 1, none⟩ = some (.int .i64 l.2.1) ∧ w'.cell? ⟨w1.heap.size, 2, none⟩ = some (.int .i64 (l.2.2 + 1))) (first | go_keep | exact ⟨HB3.out.cell 0, HB3.out.cell 1, HB3.out.cell 2⟩) (first | (go_at_call 128; (with_reducible refine (pushW_any F b _ l.1 l.2.1 (l.2.2 + 1) _ HPd.out (by simp; omega)).mono ?_); rintro e w3 ⟨rfl, hp3, hc3⟩; have HB3 := Lib.hid (hc3.blk HBd.out HFz.out); have HP3 := Lib.hid hp3; have HC3 := Lib.hid hc3; clear hp3 hc3))
      have HC4 := Lib.hid ((HC2.out (l.2.2 + 1)).trans ((Chg.of_below (F := fun x => F x) (drawn_bl (Drawn.of _ 1) _)).trans HC3.out))
      go_wp2_with (fail)
      with_reducible refine (lookW_any _ b _ _ HP3.out (by simp) (by simp; omega)).mono ?_
      rintro e w4 hp
      have HC5 := Lib.hid (HC4.out.grow hp.2.2 (fun x hx => hx.imp id (fun y => by have := (HC2.out (l.2.2 + 1)).size; have hdz : (w1.alloc (.cells #[.int .i64 l.1, .int .i64 l.2.1, .int .i64 (l.2.2 + 1)] 184)).drew.heap.size = (w1.alloc (.cells #[.int .i64 l.1, .int .i64 l.2.1, .int .i64 (l.2.2 + 1)] 184)).heap.size := rfl; omega)))
      have HP4 := Lib.hid hp.2.1
      obtain ⟨rfl, _, _⟩ := hp
      go_wp2_with (fail)
      go_end0
      rw [HS2.out]
      refine ⟨rfl, HP4.out.mono (fun x hx => ?_), HC5.out⟩
      rcases hx with hx | hx
      · refine hx.imp id (fun y => ?_)
        have := (HC2.out (l.2.2 + 1)).size
        have hdz : (w1.alloc (.cells #[.int .i64 l.1, .int .i64 l.2.1, .int .i64 (l.2.2 + 1)] 184)).drew.heap.size = (w1.alloc (.cells #[.int .i64 l.1, .int .i64 l.2.1, .int .i64 (l.2.2 + 1)] 184)).heap.size := rfl
        omega
      · exact .inr (Nat.le_trans HC4.out.size hx)
    · have HS2 := Lib.hid (HBD.out.trans ((if_neg (by rw [hbk]; exact Bool.false_ne_true)).trans (if_neg hq1)))
      have HPz : Hid (WalkP (fun x => F x) b { s with levels := L } (w1.alloc (.cells #[.int .i64 l.1, .int .i64 l.2.1, .int .i64 l.2.2] 184))) := Lib.hid ⟨_, _, _, _, _, (GO.out l.2.2).2⟩
      go_wp2_with (fail)
      with_reducible refine (onwardW_any F b _ _ HPz.out (by simp; omega) HLL.out).mono ?_
      rintro e w4 hp
      have HW := Lib.hid (hp.pre (HC2.out l.2.2))
      obtain ⟨rfl, _, _⟩ := hp
      go_wp2_with (fail)
      refine bodyPost_ret (results_none rfl _ _ _) rfl ?_
      rw [HS2.out]
      exact HW.out
theorem boundW_any (w : World) (q : Int) (h : WalkP F b s w) (l : Int × Int × Int) (L : List (Int × Int × Int)) (hs : s.levels = l :: L) (hll : L.length < 1000000) (hlv : ∀ l ∈ s.levels, levelB l) (hm : more s.back l = true) :
    Calls Tryz.prog 134 #[.pointer (some ⟨b, 0, none⟩), .int .i64 q] w (WPost F b (s.bound q) w) :=
  (boundW_in _ b s w q h.within (fun x hx => hx.2) l L hs hll hlv hm).mono fun e w' h => h.mono (fun x hx => hx.1)
end
/- The frame of walk: Step, all but where it routes and peeks. -/

def WSPost (F : Nat → Prop) (b bm : Nat) (s : WS) (B : Nat) (v : Value) (C : List Int) (size count odd ref : Int) (w : World) (e : Ending) (w' : World) : Prop :=
  e = .returned (.bool ((s.step (rdC C)).next == 6)) ∧ WalkP (fun x => F x ∨ w.heap.size ≤ x) b (s.step (rdC C)) w' ∧ MemP B bm v C size (cntO s.acc count) (oddO C s.acc odd) ref w' ∧ Chg (fun x => F x ∨ x = bm) w w'
theorem keyAtI_bdW {n i : Int} : 0 ≤ keyAtI n i ∧ keyAtI n i ≤ 3298534883332 := by
  unfold keyAtI
  split
  · rename_i h
    have h1 := nearB_yes h.1; have h2 := nearB_yes h.2
    omega
  · omega
theorem WS.ahead_bd (s : WS) : -9223372036854775808 ≤ s.ahead ∧ s.ahead ≤ 9223372036854775807 := by
  unfold WS.ahead
  split
  · have := keyAtI_bdW (n := s.top.1) (i := s.top.2.2); omega
  · have := keyAtI_bdW (n := s.top.1) (i := s.top.2.2 + 1); omega
/-- A walk's blocks are none of the memory's. -/
def Off (F : Nat → Prop) (bm : Nat) (v : Value) : Prop := ¬ F bm ∧ ∀ g, v.ownBlock = some g → ¬ F g
section
variable {F : Nat → Prop} {b bm : Nat} {s : WS} {B : Nat} {v : Value} {C : List Int} {size count odd ref : Int} {rv pv lv prv sv : Value} {w w1 : World}
theorem WalkQ.mem (hm : MemP B bm v C size count odd ref w) (hq : WalkQ F b s rv pv lv prv sv w) (m : Mv bm none w w1) : WalkQ F b s rv pv lv prv sv w1 := by
  have k := Chg.of_mv (F := fun y => y = bm) m rfl
  obtain ⟨a1, a2, a3, a4, a5⟩ := hq.rest k (fun y hy => by subst hy; exact ⟨_, _, hm.blk, .inr rfl⟩)
  exact ⟨hq.fb, k.blk hq.blk (fun e => hq.blk.ne_ hm.blk (by decide) e), a1, a2, a3, a4, a5⟩
/-- A method's end, seen from the step's beginning. -/
theorem WPost.out {s' : WS} {e : Ending} {w' : World} (hm : MemP B bm v C size count odd ref w1) (o : Chg (fun x => F x ∨ x = bm) w w1) (hO : Off F bm v) (h : WPost F b s' w1 e w') : WalkP (fun x => F x ∨ w.heap.size ≤ x) b s' w' ∧ MemP B bm v C size count odd ref w' ∧ Chg (fun x => F x ∨ x = bm) w w' :=
  ⟨h.2.1.mono (fun x hx => hx.imp id (fun y => Nat.le_trans o.size y)), hm.chg h.2.2 hO.1 hO.2, o.trans (h.2.2.mono (fun _ => .inl))⟩
end
section
variable (F : Nat → Prop) (b bm : Nat) (s : WS) (B : Nat) (v : Value) (C : List Int) (size count odd ref : Int) (w : World)
set_option maxRecDepth 100000 in
set_option maxHeartbeats 1000000 in
theorem stepW6_any (h : WalkP F b s w) (hm : MemP B bm v C size count odd ref w) (hn : s.next = 6) : Calls Tryz.prog 61 #[.pointer (some ⟨b, 0, none⟩), .pointer (some ⟨bm, 0, none⟩)] w (WSPost F b bm s B v C size count odd ref w) := by
  have hs := Lib.hid (WS.step6 (R := rdC C) hn)
  have ha := Lib.hid (WS.acc6 hn)
  have HH := Lib.hid h
  obtain ⟨rv, pv, lv, prv, sv, h⟩ := h
  have c0 : w.cell? ⟨b, 0, none⟩ = some (.int .i64 6) := by rw [← hn]; exact h.blk.cell 0
  have HM := Lib.hid hm
  clear hm
  clear h hn
  go_enter Tryz.func61, Tryz.ntmps61
  go_wp2_with (fail)
  with_reducible refine (doneW_any _ _ _ _ HH.out).mono ?_
  rintro e w2 ⟨rfl, rfl⟩
  go_wp2_with (fail)
  go_ret
  unfold WSPost
  rw [hs.out, ha.out]
  exact ⟨rfl, HH.out.mono (fun _ => .inl), HM.out, Chg.refl _ _⟩
variable (h : WalkP F b s w) (hm : MemP B bm v C size count odd ref w) (hO : Off F bm v) (hI : s.Inv) (hC : C.length ≤ 1000000) (hw : ∀ i, i < C.length → -9223372036854775808 ≤ keyAt C i ∧ keyAt C i ≤ 9223372036854775807) (hll : s.levels.length < 1000000) (hpl : s.pairs.length ≤ 1000000)
include h hm hO hI hC hw hll hpl
omit hll hpl in
set_option maxRecDepth 100000 in
set_option maxHeartbeats 1000000 in
theorem stepW4_any (hn : s.next = 4) : Calls Tryz.prog 61 #[.pointer (some ⟨b, 0, none⟩), .pointer (some ⟨bm, 0, none⟩)] w (WSPost F b bm s B v C size count odd ref w) := by
  have hs := Lib.hid (WS.step4 (R := rdC C) hn)
  have ha := Lib.hid (WS.acc4 hn)
  obtain ⟨rv, pv, lv, prv, sv, h⟩ := h
  have c0 : w.cell? ⟨b, 0, none⟩ = some (.int .i64 4) := by rw [← hn]; exact h.blk.cell 0
  have c10 : w.cell? ⟨b, 10, none⟩ = some (.int .i64 s.at_) := h.blk.cell 10
  have a0 := hI.a0
  have a1 := hI.a1
  have HQ := Lib.hid (fun (w1 : World) (m : Mv bm none w w1) => h.mem hm m)
  have hR := rdC_bd hw
  have HM := Lib.hid hm
  have HO := Lib.hid hO
  clear hm hO
  clear hI hn h
  go_enter Tryz.func61, Tryz.ntmps61
  go_wp2_with (fail)
  with_reducible refine (read_any B bm v C size count odd ref s.at_ _ HM.out hC (by omega) (by omega)).mono ?_
  rintro e w2 ⟨rfl, hm2, m2⟩
  have H2 : Hid (WalkP F b s w2) := Lib.hid ⟨_, _, _, _, _, HQ.out w2 m2⟩
  have HM2 := Lib.hid hm2.read
  have O2 : Hid (Chg (fun x => F x ∨ x = bm) w w2) := Lib.hid (Chg.of_mv m2 (.inr rfl))
  clear hm2 m2 c0 c10 HM HQ
  have hr := hR s.at_
  obtain ⟨x, hx⟩ : ∃ x, rdC C s.at_ = x := ⟨_, rfl⟩
  rw [hx] at hr hs ⊢
  clear hx
  go_wp2_with (fail)
  with_reducible refine (refAt_any x _ hr.1 hr.2).mono ?_
  rintro e w3 ⟨rfl, rfl⟩
  go_wp2_with (fail)
  with_reducible refine (enterW_any F b s (wAt x) _ H2.out).mono ?_
  rintro e w3 hp
  have HX := Lib.hid (hp.out HM2.out O2.out HO.out)
  obtain ⟨rfl, _, _⟩ := hp
  go_wp2_with (fail)
  with_reducible refine (doneW_any _ _ _ _ HX.out.1).mono ?_
  rintro e w4 ⟨rfl, rfl⟩
  go_wp2_with (fail)
  go_ret
  unfold WSPost
  rw [hs.out, ha.out]
  exact ⟨rfl, HX.out⟩
omit hw in
set_option maxRecDepth 100000 in
set_option maxHeartbeats 1000000 in
theorem stepW3_any (hn : s.next = 3) : Calls Tryz.prog 61 #[.pointer (some ⟨b, 0, none⟩), .pointer (some ⟨bm, 0, none⟩)] w (WSPost F b bm s B v C size count odd ref w) := by
  have hs := Lib.hid (WS.step3 (R := rdC C) hn)
  have ha := Lib.hid (WS.acc3 hn)
  obtain ⟨rv, pv, lv, prv, sv, h⟩ := h
  have c0 : w.cell? ⟨b, 0, none⟩ = some (.int .i64 3) := by rw [← hn]; exact h.blk.cell 0
  have c10 : w.cell? ⟨b, 10, none⟩ = some (.int .i64 s.at_) := h.blk.cell 10
  have a0 := hI.a0
  have a1 := hI.a1
  have hm0 := hI.most0
  have hm1 := hI.most1
  have HLV := Lib.hid hI.lv
  have HQ := Lib.hid (fun (w1 : World) (m : Mv bm none w w1) => h.mem hm m)
  have HM := Lib.hid hm
  have HO := Lib.hid hO
  clear hm hO
  clear hI hn h
  go_enter Tryz.func61, Tryz.ntmps61
  go_wp2_with (fail)
  with_reducible refine (read_any B bm v C size count odd ref (s.at_ + 1) _ HM.out hC (by omega) (by omega)).mono ?_
  rintro e w2 ⟨rfl, hm2, m2⟩
  have H2 : Hid (WalkP F b s w2) := Lib.hid ⟨_, _, _, _, _, HQ.out w2 m2⟩
  have HM2 := Lib.hid hm2.read
  have O2 : Hid (Chg (fun x => F x ∨ x = bm) w w2) := Lib.hid (Chg.of_mv m2 (.inr rfl))
  clear hm2 m2 c0 c10 HM HQ
  obtain ⟨x, hx⟩ : ∃ x, rdC C (s.at_ + 1) = x := ⟨_, rfl⟩
  rw [hx] at hs ⊢
  clear hx
  go_wp2_with (fail)
  with_reducible refine (foundW_any F b s _ x H2.out (by omega) HLV.out hpl hm0 hm1).mono ?_
  rintro e w3 hp
  have HX := Lib.hid (hp.out HM2.out O2.out HO.out)
  obtain ⟨rfl, _, _⟩ := hp
  go_wp2_with (fail)
  with_reducible refine (doneW_any _ _ _ _ HX.out.1).mono ?_
  rintro e w4 ⟨rfl, rfl⟩
  go_wp2_with (fail)
  go_ret
  unfold WSPost
  rw [hs.out, ha.out]
  exact ⟨rfl, HX.out⟩
omit hpl hw in
set_option maxRecDepth 100000 in
set_option maxHeartbeats 1000000 in
theorem stepW5_any (hn : s.next = 5) : Calls Tryz.prog 61 #[.pointer (some ⟨b, 0, none⟩), .pointer (some ⟨bm, 0, none⟩)] w (WSPost F b bm s B v C size count odd ref w) := by
  have hs := Lib.hid (WS.step5 (R := rdC C) hn)
  have ha := Lib.hid (WS.acc5 hn)
  obtain ⟨l, L, hl, hmo⟩ : ∃ l ls, s.levels = l :: ls ∧ more s.back l = true := by
    rcases hI.st with ⟨e, _⟩ | ⟨e, _⟩ | e | e | e | ⟨_, q⟩ | e <;> first | exact q | omega
  have HH := Lib.hid h
  obtain ⟨rv, pv, lv, prv, sv, h⟩ := h
  have c0 : w.cell? ⟨b, 0, none⟩ = some (.int .i64 5) := by rw [← hn]; exact h.blk.cell 0
  have HLV := Lib.hid hI.lv
  have hab : -9223372036854775808 ≤ s.ahead ∧ s.ahead ≤ 9223372036854775807 := WS.ahead_bd s
  have hlL : L.length < 1000000 := by rw [hl] at hll; simp at hll; omega
  have hne : s.levels ≠ [] := by rw [hl]; simp
  have HM := Lib.hid hm
  have HO := Lib.hid hO
  have HL := Lib.hid hl
  have HMO := Lib.hid hmo
  have HN := Lib.hid hn
  have HNE := Lib.hid hne
  clear hm hO hl hmo hn hne
  clear hI h
  go_enter Tryz.func61, Tryz.ntmps61
  go_wp2_with (fail)
  with_reducible refine (aheadW_any F b s _ HH.out HNE.out (by omega) HLV.out).mono ?_
  rintro e w1 ⟨rfl, hb1⟩
  have HM1 := Lib.hid (HM.out.below hb1)
  have H1 := Lib.hid (HH.out.below hb1)
  have HB1 := Lib.hid hb1
  clear hb1 c0 HM HH
  go_wp2_with (fail)
  with_reducible refine (read_any B bm v C size count odd ref s.ahead _ HM1.out hC hab.1 hab.2).mono ?_
  rintro e w2 ⟨rfl, hm2, m2⟩
  have H2 : Hid (WalkP F b s w2) := Lib.hid (by obtain ⟨rv, pv, lv, prv, sv, h⟩ := H1.out; exact ⟨_, _, _, _, _, h.mem HM1.out m2⟩)
  have HM2 := Lib.hid hm2.read
  have O2 : Hid (Chg (fun x => F x ∨ x = bm) w w2) := Lib.hid ((Chg.of_below HB1.out).trans (Chg.of_mv m2 (.inr rfl)))
  clear hm2 m2 HM1 H1 HB1
  obtain ⟨x, hx⟩ : ∃ x, rdC C s.ahead = x := ⟨_, rfl⟩
  rw [hx] at hs ⊢
  clear hx
  go_wp2_with (fail)
  with_reducible refine (boundW_any F b s _ x H2.out l L HL.out hlL HLV.out HMO.out).mono ?_
  rintro e w3 hp
  have HX := Lib.hid (hp.out HM2.out O2.out HO.out)
  obtain ⟨rfl, _, _⟩ := hp
  go_wp2_with (fail)
  with_reducible refine (doneW_any _ _ _ _ HX.out.1).mono ?_
  rintro e w4 ⟨rfl, rfl⟩
  go_wp2_with (fail)
  go_ret
  unfold WSPost
  rw [hs.out, ha.out]
  exact ⟨rfl, HX.out⟩
set_option maxRecDepth 100000 in
set_option maxHeartbeats 1000000 in
theorem stepW2_any (hn : s.next = 2) : Calls Tryz.prog 61 #[.pointer (some ⟨b, 0, none⟩), .pointer (some ⟨bm, 0, none⟩)] w (WSPost F b bm s B v C size count odd ref w) := by
  have hs := Lib.hid (WS.step2 (R := rdC C) hn)
  have ha := Lib.hid (WS.acc2 hn)
  obtain ⟨rv, pv, lv, prv, sv, h⟩ := h
  have c0 : w.cell? ⟨b, 0, none⟩ = some (.int .i64 2) := by rw [← hn]; exact h.blk.cell 0
  have c10 : w.cell? ⟨b, 10, none⟩ = some (.int .i64 s.at_) := h.blk.cell 10
  have ew : IntKind.i64.wrap s.at_ = s.at_ := IntWalk.i64_in _ ⟨by have := hI.a0; omega, by have := hI.a1; omega⟩
  have a0 := hI.a0
  have a1 := hI.a1
  have hm0 := hI.most0
  have hm1 := hI.most1
  have HLV := Lib.hid hI.lv
  have HQ := Lib.hid (fun (w1 : World) (m : Mv bm none w w1) => h.mem hm m)
  have HM := Lib.hid hm
  have HO := Lib.hid hO
  clear hm hO
  clear hI hn h
  go_enter Tryz.func61, Tryz.ntmps61
  go_wp2_with (fail)
  with_reducible refine (read_any B bm v C size count odd ref s.at_ _ HM.out hC (by omega) (by omega)).mono ?_
  rintro e w2 ⟨rfl, hm2, m2⟩
  have hq2 := HQ.out w2 m2
  have hR2 := rdC_bd hw s.at_
  obtain ⟨x, hx⟩ : ∃ x, rdC C s.at_ = x := ⟨_, rfl⟩
  rw [hx] at hs hR2 ⊢
  have c11 : w2.cell? ⟨b, 11, none⟩ = some (.int .i64 s.key) := hq2.blk.cell 11
  have f11 := hq2.blk.frozen 11
  have o3 : Chg (fun y => y = b) w2 (w2.setCell ⟨b, 11, none⟩ (.int .i64 x)) := Chg.of_mv (F := fun y => y = b) (Mv.set1 w2 b 11 (.int .i64 x)) rfl
  have hq3 := hq2.own o3 (s' := { s with key := x }) (hq2.blk.set_ 11 _) rfl rfl rfl rfl rfl
  have HQ3 := Lib.hid hq3
  have HM3 := Lib.hid (hm2.read.chg (o3.mono (fun y hy => hy ▸ hq2.fb : ∀ y, y = b → F y)) HO.out.1 HO.out.2)
  have O3 : Hid (Chg (fun x => F x ∨ x = bm) w (w2.setCell ⟨b, 11, none⟩ (.int .i64 x))) := Lib.hid ((Chg.of_mv m2 (.inr rfl)).trans (o3.mono (fun y hy => .inl (hy ▸ hq2.fb))))
  clear hm2 m2 hq2 hq3 o3 HQ HM hx ew a0 a1
  go_wp2_with (fail)
  generalize w2.setCell ⟨b, 11, none⟩ (.int .i64 x) = w3 at HQ3 HM3 O3 ⊢
  clear c11 f11
  have c11 : w3.cell? ⟨b, 11, none⟩ = some (.int .i64 x) := HQ3.out.blk.cell 11
  have c1 : w3.cell? ⟨b, 1, none⟩ = some (.int .i64 s.lo) := HQ3.out.blk.cell 1
  have c2 : w3.cell? ⟨b, 2, none⟩ = some (.int .i64 s.hi) := HQ3.out.blk.cell 2
  have c4 : w3.cell? ⟨b, 4, none⟩ = some (.bool s.values) := HQ3.out.blk.cell 4
  have c0 : w3.cell? ⟨b, 0, none⟩ = some (.int .i64 s.next) := HQ3.out.blk.cell 0
  have f0 := HQ3.out.blk.frozen 0
  have HD : Hid (∀ k, WalkP F b { s with key := x } (w3.drewN k) ∧ MemP B bm v C size (bump count) (if 1 ≤ s.at_ ∧ s.at_ ≤ C.length then odd else bump odd) ref (w3.drewN k) ∧ Chg (fun x => F x ∨ x = bm) w (w3.drewN k)) := Lib.hid (fun k => ⟨⟨_, _, _, _, _, HQ3.out.below (drawn_bl ⟨k, rfl⟩ _)⟩, HM3.out.below (drawn_bl ⟨k, rfl⟩ _), O3.out.trans (Chg.of_below (drawn_bl ⟨k, rfl⟩ _))⟩)
  clear HQ3 HM3 O3
  by_cases hx1 : x < s.lo
  · have HS := Lib.hid (hs.out.trans (if_pos (.inl hx1)))
    go_wp2_with (fail)
    go_quiet (fail)
    go_wp2_with (fail)
    with_reducible refine (onwardW_any F b _ _ (HD.out _).1 (Nat.le_of_lt hll) HLV.out).mono ?_
    rintro e w5 hp
    have HX := Lib.hid (hp.out (HD.out _).2.1 (HD.out _).2.2 HO.out)
    obtain ⟨rfl, _, _⟩ := hp
    go_wp2_with (fail)
    with_reducible refine (doneW_any _ _ _ _ HX.out.1).mono ?_
    rintro e w4 ⟨rfl, rfl⟩
    go_wp2_with (fail)
    go_ret
    unfold WSPost
    rw [HS.out, ha.out]
    exact ⟨rfl, HX.out⟩
  · have hx1' : decide (x < s.lo) = false := decide_eq_false hx1
    by_cases hx2 : s.hi < x
    · have HS := Lib.hid (hs.out.trans (if_pos (.inr hx2)))
      clear hx1
      go_wp2_with (fail)
      go_quiet (fail)
      go_wp2_with (fail)
      with_reducible refine (onwardW_any F b _ _ (HD.out _).1 (Nat.le_of_lt hll) HLV.out).mono ?_
      rintro e w5 hp
      have HX := Lib.hid (hp.out (HD.out _).2.1 (HD.out _).2.2 HO.out)
      obtain ⟨rfl, _, _⟩ := hp
      go_wp2_with (fail)
      with_reducible refine (doneW_any _ _ _ _ HX.out.1).mono ?_
      rintro e w4 ⟨rfl, rfl⟩
      go_wp2_with (fail)
      go_ret
      unfold WSPost
      rw [HS.out, ha.out]
      exact ⟨rfl, HX.out⟩
    · have HS := Lib.hid (hs.out.trans (if_neg (by omega)))
      clear hx1
      cases hv : s.values with
      | true =>
        rw [hv] at c4
        have HS2 := Lib.hid (HS.out.trans (if_pos hv))
        clear hv
        go_wp2_with (fail)
        go_quiet (fail)
        go_wp2_with (fail)
        have hp := (HD.out nq).1.fin 3
        have HX := Lib.hid (hp.out (HD.out nq).2.1 (HD.out nq).2.2 HO.out)
        clear hp
        with_reducible refine (doneW_any _ _ _ _ HX.out.1).mono ?_
        rintro e w4 ⟨rfl, rfl⟩
        go_wp2_with (fail)
        go_ret
        unfold WSPost
        rw [HS2.out, ha.out]
        exact ⟨rfl, HX.out⟩
      | false =>
        rw [hv] at c4
        have HS2 := Lib.hid (HS.out.trans (if_neg (by rw [hv]; exact Bool.false_ne_true)))
        clear hv
        go_wp2_with (fail)
        go_quiet (fail)
        go_wp2_with (fail)
        with_reducible refine (foundW_any F b _ _ 0 (HD.out _).1 (Nat.le_of_lt hll) HLV.out hpl hm0 hm1).mono ?_
        rintro e w5 hp
        have HX := Lib.hid (hp.out (HD.out _).2.1 (HD.out _).2.2 HO.out)
        obtain ⟨rfl, _, _⟩ := hp
        go_wp2_with (fail)
        with_reducible refine (doneW_any _ _ _ _ HX.out.1).mono ?_
        rintro e w4 ⟨rfl, rfl⟩
        go_wp2_with (fail)
        go_ret
        unfold WSPost
        rw [HS2.out, ha.out]
        exact ⟨rfl, HX.out⟩
end
end Go.Proofs.YtblajeildolloaaGreat
