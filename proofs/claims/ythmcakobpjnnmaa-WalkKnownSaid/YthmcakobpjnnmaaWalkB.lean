/- The frame of walk: bound. -/
import Derived.Test.YthmcakobpjnnmaaWalkS
namespace Go.Proofs.Ythmcakobpjnnmaa
set_option linter.unusedVariables false
set_option linter.unusedSimpArgs false
open Go.RowKit

theorem WPost.mono {F G : Nat → Prop} {b : Nat} {s' : WS} {w : World} {e : Ending} {w' : World} (h : WPost F b s' w e w') (hs : ∀ x, F x → G x) : WPost G b s' w e w' := ⟨h.1, h.2.1.mono (fun x hx => hx.imp (hs x) id), h.2.2.mono hs⟩
section
variable (F : Nat → Prop) (b : Nat) (s : WS)
theorem pushW_any (n d i : Int) (w : World) (h : WalkP F b s w) (hl : s.levels.length ≤ 1000000) :
    Calls Try.prog 105 #[.pointer (some ⟨b, 9, none⟩), .agg #[.int .i64 n, .int .i64 d, .int .i64 i]] w (WPost F b { s with levels := (n, d, i) :: s.levels } w) := by
  obtain ⟨rv, pv, lv, prv, sv, h⟩ := h
  refine (pushL_any F b 9 109 _ lv n d i s.levels w h.blk (by decide) rfl h.lev hl).mono ?_
  rintro e w' ⟨he, lv', hb, hlv, hc⟩
  refine ⟨he, ⟨rv, pv, lv', prv, sv, (h.mono (fun x hx => Or.inl hx)).turned hb hlv hc⟩, hc.mono (fun x hx => ?_)⟩
  rcases hx with rfl | e
  · exact h.fb
  · exact h.lev.2 x e
set_option maxRecDepth 100000 in
set_option maxHeartbeats 2000000 in
theorem boundW_in (w : World) (q : Int) (h : WalkP F b s w) (hF : ∀ x, F x → x < w.heap.size) (l : Int × Int × Int) (L : List (Int × Int × Int)) (hs : s.levels = l :: L) (hll : L.length < 1000000) (hlv : ∀ l ∈ s.levels, levelB l) (hm : more s.back l = true) :
    Calls Try.prog 111 #[.pointer (some ⟨b, 0, none⟩), .int .i64 q] w (WPost F b (s.bound q) w) := by
  obtain ⟨rv, pv, lv, prv, sv, h⟩ := h
  obtain ⟨l0, l1, l2⟩ := hlv l (by rw [hs]; simp)
  have hlL : ∀ x ∈ L, levelB x := fun x hx => hlv x (by rw [hs]; exact List.mem_cons_of_mem _ hx)
  have hbd : s.bound q = if s.back = true then (if s.lo < q then WS.look { s with levels := (l.1, l.2.1, l.2.2 - 1) :: L } else WS.onward { s with levels := L }) else (if q ≤ s.hi then WS.look { s with levels := (l.1, l.2.1, l.2.2 + 1) :: L } else WS.onward { s with levels := L }) := by unfold WS.bound WS.top; rw [hs]; rfl
  have H := Lib.hid h
  have HS := Lib.hid hs
  have HLL := Lib.hid hlL
  have HBD := Lib.hid hbd
  have HF := Lib.hid hF
  clear h hs hlL hbd hF
  clear hlv
  go_enter Try.func111, Try.ntmps111
  go_wp2_with (fail)
  with_reducible refine (popW_any F b _ rv pv lv prv sv l L _ H.out HS.out (by omega)).mono ?_
  rintro e w1 ⟨rfl, lv', hq, ho, hc⟩
  have hC1 := hc.mono (G := fun x => F x) (fun x hx => by
    rcases hx with rfl | e
    · exact H.out.fb
    · exact H.out.lev.2 x e)
  have GO : Hid (∀ i : Int, Blk (w1.alloc (.cells #[.int .i64 l.1, .int .i64 l.2.1, .int .i64 i] 122)) w1.heap.size 122 #[.int .i64 l.1, .int .i64 l.2.1, .int .i64 i] ∧ WalkQ F b { s with levels := L } rv pv lv' prv sv (w1.alloc (.cells #[.int .i64 l.1, .int .i64 l.2.1, .int .i64 i] 122))) := Lib.hid (fun i => ⟨Blk.new w1 122 _, hq.below ((Below.refl w1.heap.size w1).alloc (Nat.le_refl _) _)⟩)
  have HC2 : Hid (∀ i : Int, Chg (fun x => F x) w (w1.alloc (.cells #[.int .i64 l.1, .int .i64 l.2.1, .int .i64 i] 122))) := Lib.hid (fun i => hC1.trans (Chg.of_below ((Below.refl w1.heap.size w1).alloc (Nat.le_refl _) _)))
  have c1 : (w1.alloc (.cells #[.int .i64 l.1, .int .i64 l.2.1, .int .i64 l.2.2] 122)).cell? ⟨b, 1, none⟩ = some (.int .i64 s.lo) := (GO.out l.2.2).2.blk.cell 1
  have c2 : (w1.alloc (.cells #[.int .i64 l.1, .int .i64 l.2.1, .int .i64 l.2.2] 122)).cell? ⟨b, 2, none⟩ = some (.int .i64 s.hi) := (GO.out l.2.2).2.blk.cell 2
  have c3 : (w1.alloc (.cells #[.int .i64 l.1, .int .i64 l.2.1, .int .i64 l.2.2] 122)).cell? ⟨b, 3, none⟩ = some (.bool s.back) := (GO.out l.2.2).2.blk.cell 3
  have HFz : Hid (¬ F w1.heap.size) := Lib.hid (fun e => by have := HF.out _ e; have := hc.size; omega)
  clear hq hc ho hC1 H
  unfold more at hm
  cases hbk : s.back with
  | true =>
    rw [hbk] at c3 hm
    have hm2 : 0 < l.2.2 := of_decide_eq_true (by simpa using hm)
    clear hm
    by_cases hq1 : s.lo < q
    · have HS2 := Lib.hid (HBD.out.trans ((if_pos hbk).trans (if_pos hq1)))
      have HQz := Lib.hid ((GO.out (l.2.2 - 1)).2)
      have hxz := (GO.out (l.2.2 - 1)).1
      have HPd : Hid (WalkP (fun x => F x) b { s with levels := L } (w1.alloc (.cells #[.int .i64 l.1, .int .i64 l.2.1, .int .i64 (l.2.2 - 1)] 122)).drew) := Lib.hid ⟨_, _, _, _, _, HQz.out.below (drawn_bl (Drawn.of _ 1) _)⟩
      have HBd : Hid (Blk (w1.alloc (.cells #[.int .i64 l.1, .int .i64 l.2.1, .int .i64 (l.2.2 - 1)] 122)).drew w1.heap.size 122 #[.int .i64 l.1, .int .i64 l.2.1, .int .i64 (l.2.2 - 1)]) := Lib.hid (hxz.below (drawn_bl (Drawn.of _ 1) _) hxz.lt)
      have z0 : (w1.alloc (.cells #[.int .i64 l.1, .int .i64 l.2.1, .int .i64 (l.2.2 - 1)] 122)).cell? ⟨w1.heap.size, 0, none⟩ = some (.int .i64 l.1) := hxz.cell 0
      have z1 : (w1.alloc (.cells #[.int .i64 l.1, .int .i64 l.2.1, .int .i64 (l.2.2 - 1)] 122)).cell? ⟨w1.heap.size, 1, none⟩ = some (.int .i64 l.2.1) := hxz.cell 1
      have z2 : (w1.alloc (.cells #[.int .i64 l.1, .int .i64 l.2.1, .int .i64 (l.2.2 - 1)] 122)).cell? ⟨w1.heap.size, 2, none⟩ = some (.int .i64 (l.2.2 - 1)) := hxz.cell 2
      clear hxz
      go_wp2_with (fail)
      go_region_held3 (fun w' => w'.cell? ⟨w1.heap.size, 0, none⟩ = some (.int .i64 l.1) ∧ w'.cell? ⟨w1.heap.size, 1, none⟩ = some (.int .i64 l.2.1) ∧ w'.cell? ⟨w1.heap.size, 2, none⟩ = some (.int .i64 (l.2.2 - 1))) (first | go_keep | exact ⟨HB3.out.cell 0, HB3.out.cell 1, HB3.out.cell 2⟩) (first | (go_at_call 105; (with_reducible refine (pushW_any F b _ l.1 l.2.1 (l.2.2 - 1) _ HPd.out (by simp; omega)).mono ?_); rintro e w3 ⟨rfl, hp3, hc3⟩; have HB3 := Lib.hid (hc3.blk HBd.out HFz.out); have HP3 := Lib.hid hp3; have HC3 := Lib.hid hc3; clear hp3 hc3))
      have HC4 := Lib.hid ((HC2.out (l.2.2 - 1)).trans ((Chg.of_below (F := fun x => F x) (drawn_bl (Drawn.of _ 1) _)).trans HC3.out))
      go_wp2_with (fail)
      with_reducible refine (lookW_any _ b _ _ HP3.out (by simp) (by simp; omega)).mono ?_
      rintro e w4 hp
      have HC5 := Lib.hid (HC4.out.grow hp.2.2 (fun x hx => hx.imp id (fun y => by have := (HC2.out (l.2.2 - 1)).size; have hdz : (w1.alloc (.cells #[.int .i64 l.1, .int .i64 l.2.1, .int .i64 (l.2.2 - 1)] 122)).drew.heap.size = (w1.alloc (.cells #[.int .i64 l.1, .int .i64 l.2.1, .int .i64 (l.2.2 - 1)] 122)).heap.size := rfl; omega)))
      have HP4 := Lib.hid hp.2.1
      obtain ⟨rfl, _, _⟩ := hp
      go_wp2_with (fail)
      go_end0
      rw [HS2.out]
      refine ⟨rfl, HP4.out.mono (fun x hx => ?_), HC5.out⟩
      rcases hx with hx | hx
      · refine hx.imp id (fun y => ?_)
        have := (HC2.out (l.2.2 - 1)).size
        have hdz : (w1.alloc (.cells #[.int .i64 l.1, .int .i64 l.2.1, .int .i64 (l.2.2 - 1)] 122)).drew.heap.size = (w1.alloc (.cells #[.int .i64 l.1, .int .i64 l.2.1, .int .i64 (l.2.2 - 1)] 122)).heap.size := rfl
        omega
      · exact .inr (Nat.le_trans HC4.out.size hx)
    · have HS2 := Lib.hid (HBD.out.trans ((if_pos hbk).trans (if_neg hq1)))
      have HPz : Hid (WalkP (fun x => F x) b { s with levels := L } (w1.alloc (.cells #[.int .i64 l.1, .int .i64 l.2.1, .int .i64 l.2.2] 122))) := Lib.hid ⟨_, _, _, _, _, (GO.out l.2.2).2⟩
      go_wp2_with (fail)
      with_reducible refine (onwardW_any F b _ _ HPz.out (by simp; omega) HLL.out).mono ?_
      rintro e w4 hp
      have HW := Lib.hid (hp.pre (HC2.out l.2.2))
      obtain ⟨rfl, _, _⟩ := hp
      go_wp2_with (fail)
      refine bodyPost_ret (results_none rfl _ _ _) rfl ?_
      rw [HS2.out]
      exact HW.out
  | false =>
    rw [hbk] at c3 hm
    have hm2 : l.2.2 + 1 < l.2.1 := of_decide_eq_true (by simpa using hm)
    clear hm
    by_cases hq1 : q ≤ s.hi
    · have HS2 := Lib.hid (HBD.out.trans ((if_neg (by rw [hbk]; exact Bool.false_ne_true)).trans (if_pos hq1)))
      have HQz := Lib.hid ((GO.out (l.2.2 + 1)).2)
      have hxz := (GO.out (l.2.2 + 1)).1
      have HPd : Hid (WalkP (fun x => F x) b { s with levels := L } (w1.alloc (.cells #[.int .i64 l.1, .int .i64 l.2.1, .int .i64 (l.2.2 + 1)] 122)).drew) := Lib.hid ⟨_, _, _, _, _, HQz.out.below (drawn_bl (Drawn.of _ 1) _)⟩
      have HBd : Hid (Blk (w1.alloc (.cells #[.int .i64 l.1, .int .i64 l.2.1, .int .i64 (l.2.2 + 1)] 122)).drew w1.heap.size 122 #[.int .i64 l.1, .int .i64 l.2.1, .int .i64 (l.2.2 + 1)]) := Lib.hid (hxz.below (drawn_bl (Drawn.of _ 1) _) hxz.lt)
      have z0 : (w1.alloc (.cells #[.int .i64 l.1, .int .i64 l.2.1, .int .i64 (l.2.2 + 1)] 122)).cell? ⟨w1.heap.size, 0, none⟩ = some (.int .i64 l.1) := hxz.cell 0
      have z1 : (w1.alloc (.cells #[.int .i64 l.1, .int .i64 l.2.1, .int .i64 (l.2.2 + 1)] 122)).cell? ⟨w1.heap.size, 1, none⟩ = some (.int .i64 l.2.1) := hxz.cell 1
      have z2 : (w1.alloc (.cells #[.int .i64 l.1, .int .i64 l.2.1, .int .i64 (l.2.2 + 1)] 122)).cell? ⟨w1.heap.size, 2, none⟩ = some (.int .i64 (l.2.2 + 1)) := hxz.cell 2
      clear hxz
      go_wp2_with (fail)
      go_region_held3 (fun w' => w'.cell? ⟨w1.heap.size, 0, none⟩ = some (.int .i64 l.1) ∧ w'.cell? ⟨w1.heap.size, 1, none⟩ = some (.int .i64 l.2.1) ∧ w'.cell? ⟨w1.heap.size, 2, none⟩ = some (.int .i64 (l.2.2 + 1))) (first | go_keep | exact ⟨HB3.out.cell 0, HB3.out.cell 1, HB3.out.cell 2⟩) (first | (go_at_call 105; (with_reducible refine (pushW_any F b _ l.1 l.2.1 (l.2.2 + 1) _ HPd.out (by simp; omega)).mono ?_); rintro e w3 ⟨rfl, hp3, hc3⟩; have HB3 := Lib.hid (hc3.blk HBd.out HFz.out); have HP3 := Lib.hid hp3; have HC3 := Lib.hid hc3; clear hp3 hc3))
      have HC4 := Lib.hid ((HC2.out (l.2.2 + 1)).trans ((Chg.of_below (F := fun x => F x) (drawn_bl (Drawn.of _ 1) _)).trans HC3.out))
      go_wp2_with (fail)
      with_reducible refine (lookW_any _ b _ _ HP3.out (by simp) (by simp; omega)).mono ?_
      rintro e w4 hp
      have HC5 := Lib.hid (HC4.out.grow hp.2.2 (fun x hx => hx.imp id (fun y => by have := (HC2.out (l.2.2 + 1)).size; have hdz : (w1.alloc (.cells #[.int .i64 l.1, .int .i64 l.2.1, .int .i64 (l.2.2 + 1)] 122)).drew.heap.size = (w1.alloc (.cells #[.int .i64 l.1, .int .i64 l.2.1, .int .i64 (l.2.2 + 1)] 122)).heap.size := rfl; omega)))
      have HP4 := Lib.hid hp.2.1
      obtain ⟨rfl, _, _⟩ := hp
      go_wp2_with (fail)
      go_end0
      rw [HS2.out]
      refine ⟨rfl, HP4.out.mono (fun x hx => ?_), HC5.out⟩
      rcases hx with hx | hx
      · refine hx.imp id (fun y => ?_)
        have := (HC2.out (l.2.2 + 1)).size
        have hdz : (w1.alloc (.cells #[.int .i64 l.1, .int .i64 l.2.1, .int .i64 (l.2.2 + 1)] 122)).drew.heap.size = (w1.alloc (.cells #[.int .i64 l.1, .int .i64 l.2.1, .int .i64 (l.2.2 + 1)] 122)).heap.size := rfl
        omega
      · exact .inr (Nat.le_trans HC4.out.size hx)
    · have HS2 := Lib.hid (HBD.out.trans ((if_neg (by rw [hbk]; exact Bool.false_ne_true)).trans (if_neg hq1)))
      have HPz : Hid (WalkP (fun x => F x) b { s with levels := L } (w1.alloc (.cells #[.int .i64 l.1, .int .i64 l.2.1, .int .i64 l.2.2] 122))) := Lib.hid ⟨_, _, _, _, _, (GO.out l.2.2).2⟩
      go_wp2_with (fail)
      with_reducible refine (onwardW_any F b _ _ HPz.out (by simp; omega) HLL.out).mono ?_
      rintro e w4 hp
      have HW := Lib.hid (hp.pre (HC2.out l.2.2))
      obtain ⟨rfl, _, _⟩ := hp
      go_wp2_with (fail)
      refine bodyPost_ret (results_none rfl _ _ _) rfl ?_
      rw [HS2.out]
      exact HW.out
theorem boundW_any (w : World) (q : Int) (h : WalkP F b s w) (l : Int × Int × Int) (L : List (Int × Int × Int)) (hs : s.levels = l :: L) (hll : L.length < 1000000) (hlv : ∀ l ∈ s.levels, levelB l) (hm : more s.back l = true) :
    Calls Try.prog 111 #[.pointer (some ⟨b, 0, none⟩), .int .i64 q] w (WPost F b (s.bound q) w) :=
  (boundW_in _ b s w q h.within (fun x hx => hx.2) l L hs hll hlv hm).mono fun e w' h => h.mono (fun x hx => hx.1)
end
end Go.Proofs.Ythmcakobpjnnmaa
