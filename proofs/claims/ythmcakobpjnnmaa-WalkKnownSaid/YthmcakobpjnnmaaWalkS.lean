/- The frame of walk: ahead, meet, found. -/
import Derived.Test.YthmcakobpjnnmaaWalkO
import Derived.Deep.RegionLaw
namespace Go.Proofs.Ythmcakobpjnnmaa
set_option linter.unusedVariables false
set_option linter.unusedSimpArgs false
open Go.RowKit

theorem WPost.pre {F : Nat → Prop} {b : Nat} {s' : WS} {w w1 : World} (hc : Chg (fun x => F x) w w1) {e : Ending} {w' : World} (h : WPost F b s' w1 e w') : WPost F b s' w e w' :=
  ⟨h.1, h.2.1.mono (fun x hx => hx.imp id (fun y => Nat.le_trans hc.size y)), hc.trans h.2.2⟩
theorem WPost.grown {F : Nat → Prop} {b : Nat} {s' : WS} {w w1 : World} {e : Ending} {w' : World} (h : WPost (fun x => F x ∨ w.heap.size ≤ x) b s' w1 e w') (hc : Chg (fun x => F x) w w1) : WPost F b s' w e w' :=
  ⟨h.1, h.2.1.mono (fun x hx => hx.elim id (fun y => .inr (Nat.le_trans hc.size y))), hc.grow h.2.2 (fun x hx => hx)⟩
theorem WalkP.fin {F : Nat → Prop} {b : Nat} {s : WS} {w : World} (h : WalkP F b s w) (n : Int) : WPost F b { s with next := n } w (.returned (.tuple #[])) (w.setCell ⟨b, 0, none⟩ (.int .i64 n)) := by
  obtain ⟨rv, pv, lv, prv, sv, h⟩ := h
  have o := Chg.of_mv (F := fun y => y = b) (Mv.set1 w b 0 (.int .i64 n)) rfl
  exact ⟨rfl, ⟨rv, pv, lv, prv, sv, (h.own o (s' := { s with next := n }) (h.blk.set_ 0 _) rfl rfl rfl rfl rfl).mono (fun _ => .inl)⟩, o.mono (fun x hx => hx ▸ h.fb)⟩
section
variable (F : Nat → Prop) (b : Nat) (s : WS) (w : World)
set_option maxHeartbeats 1000000 in
theorem aheadW_any (h : WalkP F b s w) (hl : s.levels ≠ []) (hll : s.levels.length ≤ 1000000) (hlv : ∀ l ∈ s.levels, levelB l) :
    Calls Try.prog 112 #[.pointer (some ⟨b, 0, none⟩)] w fun e w' => e = .returned (.int .i64 s.ahead) ∧ Below w.heap.size w w' := by
  obtain ⟨rv, pv, lv, prv, sv, h⟩ := h
  obtain ⟨x, L, hL⟩ := List.exists_cons_of_ne_nil hl
  have hS : s.ahead = if s.back = true then keyAtI x.1 x.2.2 else keyAtI x.1 (x.2.2 + 1) := by unfold WS.ahead WS.top; rw [hL]; rfl
  have hlev := h.lev
  rw [hL] at hlev hll hlv
  obtain ⟨l0, l1, l2⟩ := hlv x (by simp)
  have c9 : w.cell? ⟨b, 9, none⟩ = some lv := h.blk.cell 9
  have H := Lib.hid h
  have HS := Lib.hid hS
  have HL := Lib.hid hlev
  have C9 := Lib.hid c9
  clear h hS hlev c9
  have go : ∀ w1, Below w.heap.size w w1 → Hid (Below w.heap.size w (w1.alloc (.cells #[.int .i64 x.1, .int .i64 x.2.1, .int .i64 x.2.2] 122)) ∧ Blk (w1.alloc (.cells #[.int .i64 x.1, .int .i64 x.2.1, .int .i64 x.2.2] 122)) w1.heap.size 122 #[.int .i64 x.1, .int .i64 x.2.1, .int .i64 x.2.2] ∧ (w1.alloc (.cells #[.int .i64 x.1, .int .i64 x.2.1, .int .i64 x.2.2] 122)).cell? ⟨b, 3, none⟩ = some (.bool s.back)) := fun w1 hb1 => by
    have hb2 := hb1.alloc hb1.size (.cells #[.int .i64 x.1, .int .i64 x.2.1, .int .i64 x.2.2] 122)
    exact Lib.hid ⟨hb2, Blk.new w1 122 _, (H.out.blk.below hb2 H.out.blk.lt).cell 3⟩
  have GO := Lib.hid go
  clear hl hL hlv go
  cases hbk : s.back with
  | true =>
    rw [hbk] at GO HS
    go_enter Try.func112, Try.ntmps112
    go_wp2_with (fail)
    with_reducible refine (topL_cons b 9 lv x L _ F C9.out HL.out (by simp at hll; omega)).mono ?_
    rintro e w1 ⟨rfl, hb1⟩
    obtain ⟨hb2, hx, c3⟩ := (GO.out w1 hb1).out
    have x0 := hx.cell 0
    have x2 := hx.cell 2
    simp only [List.getElem?_toArray, List.getElem?_cons_zero, List.getElem?_cons_succ] at x0 x2
    have HB2 := Lib.hid hb2
    clear hb2
    clear hx hb1
    go_wp2_with (fail)
    with_reducible refine (keyat_any _ _ _).mono ?_
    rintro e w3 ⟨rfl, hb3⟩
    have HB3 := Lib.hid (HB2.out.trans (hb3.mono HB2.out.size))
    clear hb3
    go_wp2_with (fail)
    go_ret
    rw [HS.out]
    exact ⟨rfl, HB3.out⟩
  | false =>
    rw [hbk] at GO HS
    go_enter Try.func112, Try.ntmps112
    go_wp2_with (fail)
    with_reducible refine (topL_cons b 9 lv x L _ F C9.out HL.out (by simp at hll; omega)).mono ?_
    rintro e w1 ⟨rfl, hb1⟩
    obtain ⟨hb2, hx, c3⟩ := (GO.out w1 hb1).out
    have x0 := hx.cell 0
    have x2 := hx.cell 2
    simp only [List.getElem?_toArray, List.getElem?_cons_zero, List.getElem?_cons_succ] at x0 x2
    have HB2 := Lib.hid hb2
    clear hb2
    clear hx hb1
    go_wp2_with (fail)
    with_reducible refine (keyat_any _ _ _).mono ?_
    rintro e w3 ⟨rfl, hb3⟩
    have HB3 := Lib.hid (HB2.out.trans (hb3.mono HB2.out.size))
    clear hb3
    go_wp2_with (fail)
    go_ret
    rw [HS.out]
    exact ⟨rfl, HB3.out⟩
set_option maxHeartbeats 1000000 in
theorem meetW_any (x : Int) (h : WalkP F b s w) (hll : s.levels.length ≤ 1000000) (hlv : ∀ l ∈ s.levels, levelB l) (x0 : -9223372036854775808 ≤ x) (x1 : x ≤ 9223372036854775807) :
    Calls Try.prog 108 #[.pointer (some ⟨b, 0, none⟩), .int .i64 x] w (WPost F b (s.meet x) w) := by
  obtain ⟨rv, pv, lv, prv, sv, h⟩ := h
  have c0 : w.cell? ⟨b, 0, none⟩ = some (.int .i64 s.next) := h.blk.cell 0
  have c10 : w.cell? ⟨b, 10, none⟩ = some (.int .i64 s.at_) := h.blk.cell 10
  have f0 := h.blk.frozen 0
  have f10 := h.blk.frozen 10
  have o := Chg.of_mv (F := fun y => y = b) (Mv.set1 w b 10 (.int .i64 (wAt x))) rfl
  have H5 : Hid (WalkP F b { s with at_ := wAt x } (w.setCell ⟨b, 10, none⟩ (.int .i64 (wAt x)))) := Lib.hid ⟨rv, pv, lv, prv, sv, h.own o (s' := { s with at_ := wAt x }) (h.blk.set_ 10 _) rfl rfl rfl rfl rfl⟩
  have O5 := Lib.hid (o.mono (fun x hx => hx ▸ h.fb) : Chg (fun x => F x) w _)
  clear o h
  by_cases k2 : wKind x = 2
  · have HM := Lib.hid (show s.meet x = { s with at_ := wAt x, next := 2 } from if_pos k2)
    have e2 : (wKind x == 2) = true := by simpa using k2
    clear k2
    go_enter Try.func108, Try.ntmps108
    go_wp2_with (fail)
    with_reducible refine (refAt_any x _ x0 x1).mono ?_
    rintro e w1 ⟨rfl, rfl⟩
    go_wp2_with (fail)
    with_reducible refine (kind_any x _ x0 x1).mono ?_
    rintro e w1 ⟨rfl, rfl⟩
    go_wp2_with (fail)
    go_end0
    rw [HM.out]
    exact (H5.out.fin 2).pre O5.out
  · have e2 : (wKind x == 2) = false := by simpa using k2
    by_cases k3 : wKind x = 3
    · have HM := Lib.hid (show s.meet x = WS.enter { s with at_ := wAt x } (wAt x) by unfold WS.meet; rw [if_neg k2, if_pos k3])
      have e3 : (wKind x == 3) = true := by simpa using k3
      clear k2 k3
      go_enter Try.func108, Try.ntmps108
      go_wp2_with (fail)
      with_reducible refine (refAt_any x _ x0 x1).mono ?_
      rintro e w1 ⟨rfl, rfl⟩
      go_wp2_with (fail)
      with_reducible refine (kind_any x _ x0 x1).mono ?_
      rintro e w1 ⟨rfl, rfl⟩
      go_wp2_with (fail)
      with_reducible refine (enterW_any F b _ (wAt x) _ H5.out).mono ?_
      rintro e w2 hp
      have HP := Lib.hid hp
      obtain ⟨rfl, _, _⟩ := hp
      go_wp2_with (fail)
      go_end0
      rw [HM.out]
      exact HP.out.pre O5.out
    · have e3 : (wKind x == 3) = false := by simpa using k3
      by_cases k4 : wKind x = 4
      · have HM := Lib.hid (show s.meet x = { s with at_ := wAt x, next := 4 } by unfold WS.meet; rw [if_neg k2, if_neg k3, if_pos k4])
        have e4 : (wKind x == 4) = true := by simpa using k4
        clear k2 k3 k4
        go_enter Try.func108, Try.ntmps108
        go_wp2_with (fail)
        with_reducible refine (refAt_any x _ x0 x1).mono ?_
        rintro e w1 ⟨rfl, rfl⟩
        go_wp2_with (fail)
        with_reducible refine (kind_any x _ x0 x1).mono ?_
        rintro e w1 ⟨rfl, rfl⟩
        go_wp2_with (fail)
        go_end0
        rw [HM.out]
        exact (H5.out.fin 4).pre O5.out
      · have HM := Lib.hid (show s.meet x = WS.onward { s with at_ := wAt x } by unfold WS.meet; rw [if_neg k2, if_neg k3, if_neg k4])
        have e4 : (wKind x == 4) = false := by simpa using k4
        clear k2 k3 k4
        go_enter Try.func108, Try.ntmps108
        go_wp2_with (fail)
        with_reducible refine (refAt_any x _ x0 x1).mono ?_
        rintro e w1 ⟨rfl, rfl⟩
        go_wp2_with (fail)
        with_reducible refine (kind_any x _ x0 x1).mono ?_
        rintro e w1 ⟨rfl, rfl⟩
        go_wp2_with (fail)
        with_reducible refine (onwardW_any F b _ _ H5.out hll hlv).mono ?_
        rintro e w2 hp
        have HP := Lib.hid hp
        obtain ⟨rfl, _, _⟩ := hp
        go_wp2_with (fail)
        go_end0
        rw [HM.out]
        exact HP.out.pre O5.out
theorem cellsP_snoc (L : List (Int × Int)) (x : Int × Int) : cellsP (L ++ [x]) = cellsP L ++ [.int .i64 x.1, .int .i64 x.2] := by simp [cellsP]
def AppP (F : Nat → Prop) (b : Nat) (s : WS) (v : Int) (rv pv lv sv : Value) (w : World) (gg cap : Nat) (w5 : World) : Prop :=
  WalkQ (fun x => F x ∨ w.heap.size ≤ x) b { s with pairs := s.pairs ++ [(s.key, v)] } rv pv lv (.slice (some ⟨gg, 0, none⟩) (s.pairs.length + 1) cap) sv (w5.setCell ⟨b, 12, none⟩ (.slice (some ⟨gg, 0, none⟩) (s.pairs.length + 1) cap)) ∧ Chg (fun x => F x) w (w5.setCell ⟨b, 12, none⟩ (.slice (some ⟨gg, 0, none⟩) (s.pairs.length + 1) cap))
theorem WalkQ.appp {F : Nat → Prop} {b : Nat} {s : WS} {v : Int} {rv pv lv prv sv : Value} {w wd : World} (h : WalkQ F b s rv pv lv prv sv w) (hb : Below w.heap.size w wd) {gg cap : Nat} {w5 : World} (hO : w5.ownsRow 0 51 2 (.slice (some ⟨gg, 0, none⟩) (s.pairs.length + 1) cap) (s.pairs.length + 1) (cellsP s.pairs ++ [.int .i64 s.key, .int .i64 v])) (hg : wd.grownBy w5 prv.ownBlock) (hat : prv.ownBlock = some gg ∨ w.heap.size ≤ gg) :
    Hid (w5.cell? ⟨b, 12, none⟩ = some prv ∧ w5.frozen? ⟨b, 12, none⟩ = false ∧ AppP F b s v rv pv lv sv w gg cap w5) := by
  have hc := (Chg.of_below (F := fun y => prv.ownBlock = some y) hb).trans (Chg.of_grown hg)
  have hbl := hc.blk h.blk (fun e => own_blk_ne h.prs.1 h.blk (by decide) e)
  have hc6 : Chg (fun y => y = b ∨ prv.ownBlock = some y) w (w5.setCell ⟨b, 12, none⟩ (.slice (some ⟨gg, 0, none⟩) (s.pairs.length + 1) cap)) := (hc.mono (fun _ => .inr)).trans ((Chg.of_mv (F := fun y => y = b) (Mv.set1 w5 b 12 _) rfl).mono (fun _ => .inl))
  have k : ∀ T : TypeId, 109 ≠ T → 51 ≠ T → ∀ x, (x = b ∨ prv.ownBlock = some x) → ∃ t cs, Blk w x t cs ∧ t ≠ T := fun T h1 h2 x hx => by
    rcases hx with rfl | hx
    · exact ⟨_, _, h.blk, h1⟩
    · obtain ⟨cs, hb⟩ := own_blk h.prs.1 hx
      exact ⟨_, cs, hb, h2⟩
  have hn : PrP (fun x => F x ∨ w.heap.size ≤ x) 51 (.slice (some ⟨gg, 0, none⟩) (s.pairs.length + 1) cap) (s.pairs ++ [(s.key, v)]) (w5.setCell ⟨b, 12, none⟩ (.slice (some ⟨gg, 0, none⟩) (s.pairs.length + 1) cap)) := by
    refine ⟨?_, fun g hg => ?_⟩
    · rw [cellsP_snoc, List.length_append]
      exact ownsRow_setCell_other hO (a := ⟨b, 12, none⟩) (fun e => own_blk_ne hO hbl (by decide) (by simpa using e)) _
    · have hgg : gg = g := by simpa [Value.ownBlock] using hg
      subst hgg
      rcases hat with e | e
      · exact .inl (h.prs.2 gg e)
      · exact .inr e
  have k' := fun T h1 h2 => k T h1 h2
  refine Lib.hid ⟨hbl.cell 12, hbl.frozen 12, ⟨.inl h.fb, hbl.set_ 12 _, (h.route.keep hc6 (k _ (by decide) (by decide))).mono (fun _ => .inl), (h.peek.keep hc6 (k _ (by decide) (by decide))).mono (fun _ => .inl), (h.lev.keep hc6 (k _ (by decide) (by decide))).mono (fun _ => .inl), hn, (h.sps.keep hc6 (k _ (by decide) (by decide))).mono (fun _ => .inl)⟩, hc6.mono (fun x hx => ?_)⟩
  rcases hx with rfl | e
  · exact h.fb
  · exact h.prs.2 x e
def AppS (F : Nat → Prop) (b : Nat) (s : WS) (x : Int) (rv pv lv prv : Value) (w : World) (gg cap : Nat) (w5 : World) : Prop :=
  WalkQ (fun x => F x ∨ w.heap.size ≤ x) b { s with spots := s.spots ++ [(s.slot, x)] } rv pv lv prv (.slice (some ⟨gg, 0, none⟩) (s.spots.length + 1) cap) (w5.setCell ⟨b, 13, none⟩ (.slice (some ⟨gg, 0, none⟩) (s.spots.length + 1) cap)) ∧ Chg (fun x => F x) w (w5.setCell ⟨b, 13, none⟩ (.slice (some ⟨gg, 0, none⟩) (s.spots.length + 1) cap))
theorem WalkQ.apps {F : Nat → Prop} {b : Nat} {s : WS} {x : Int} {rv pv lv prv sv : Value} {w wd : World} (h : WalkQ F b s rv pv lv prv sv w) (hb : Below w.heap.size w wd) {gg cap : Nat} {w5 : World} (hO : w5.ownsRow 0 46 2 (.slice (some ⟨gg, 0, none⟩) (s.spots.length + 1) cap) (s.spots.length + 1) (cellsP s.spots ++ [.int .i64 s.slot, .int .i64 x])) (hg : wd.grownBy w5 sv.ownBlock) (hat : sv.ownBlock = some gg ∨ w.heap.size ≤ gg) :
    Hid (w5.cell? ⟨b, 13, none⟩ = some sv ∧ w5.frozen? ⟨b, 13, none⟩ = false ∧ AppS F b s x rv pv lv prv w gg cap w5) := by
  have hc := (Chg.of_below (F := fun y => sv.ownBlock = some y) hb).trans (Chg.of_grown hg)
  have hbl := hc.blk h.blk (fun e => own_blk_ne h.sps.1 h.blk (by decide) e)
  have hc6 : Chg (fun y => y = b ∨ sv.ownBlock = some y) w (w5.setCell ⟨b, 13, none⟩ (.slice (some ⟨gg, 0, none⟩) (s.spots.length + 1) cap)) := (hc.mono (fun _ => .inr)).trans ((Chg.of_mv (F := fun y => y = b) (Mv.set1 w5 b 13 _) rfl).mono (fun _ => .inl))
  have k : ∀ T : TypeId, 109 ≠ T → 46 ≠ T → ∀ x, (x = b ∨ sv.ownBlock = some x) → ∃ t cs, Blk w x t cs ∧ t ≠ T := fun T h1 h2 x hx => by
    rcases hx with rfl | hx
    · exact ⟨_, _, h.blk, h1⟩
    · obtain ⟨cs, hb⟩ := own_blk h.sps.1 hx
      exact ⟨_, cs, hb, h2⟩
  have hn : PrP (fun x => F x ∨ w.heap.size ≤ x) 46 (.slice (some ⟨gg, 0, none⟩) (s.spots.length + 1) cap) (s.spots ++ [(s.slot, x)]) (w5.setCell ⟨b, 13, none⟩ (.slice (some ⟨gg, 0, none⟩) (s.spots.length + 1) cap)) := by
    refine ⟨?_, fun g hg => ?_⟩
    · rw [cellsP_snoc, List.length_append]
      exact ownsRow_setCell_other hO (a := ⟨b, 13, none⟩) (fun e => own_blk_ne hO hbl (by decide) (by simpa using e)) _
    · have hgg : gg = g := by simpa [Value.ownBlock] using hg
      subst hgg
      rcases hat with e | e
      · exact .inl (h.sps.2 gg e)
      · exact .inr e
  have k' := fun T h1 h2 => k T h1 h2
  refine Lib.hid ⟨hbl.cell 13, hbl.frozen 13, ⟨.inl h.fb, hbl.set_ 13 _, (h.route.keep hc6 (k _ (by decide) (by decide))).mono (fun _ => .inl), (h.peek.keep hc6 (k _ (by decide) (by decide))).mono (fun _ => .inl), (h.lev.keep hc6 (k _ (by decide) (by decide))).mono (fun _ => .inl), (h.prs.keep hc6 (k _ (by decide) (by decide))).mono (fun _ => .inl), hn⟩, hc6.mono (fun x hx => ?_)⟩
  rcases hx with rfl | e
  · exact h.fb
  · exact h.sps.2 x e
def WS.full' (s : WS) (n : Nat) : Bool := decide (0 < s.most) && decide (s.most ≤ (n : Int))
theorem WS.found_split (s : WS) (v : Int) : (s.full' (s.pairs.length + 1) = true → s.found v = { s with pairs := s.pairs ++ [(s.key, v)], next := 6 }) ∧ (s.full' (s.pairs.length + 1) = false → s.found v = WS.onward { s with pairs := s.pairs ++ [(s.key, v)] }) := by
  have e : WS.full { s with pairs := s.pairs ++ [(s.key, v)] } = s.full' (s.pairs.length + 1) := by
    unfold WS.full WS.full'; simp only [List.length_append, List.length_cons, List.length_nil]
  unfold WS.found
  rw [e]
  exact ⟨fun h => if_pos h, fun h => if_neg (by rw [h]; exact Bool.false_ne_true)⟩
set_option maxRecDepth 100000 in
set_option maxHeartbeats 2000000 in
theorem foundW_any (v : Int) (h : WalkP F b s w) (hll : s.levels.length ≤ 1000000) (hlv : ∀ l ∈ s.levels, levelB l) (hpl : s.pairs.length ≤ 1000000) (hm0 : -9223372036854775808 ≤ s.most) (hm1 : s.most ≤ 9223372036854775807) :
    Calls Try.prog 110 #[.pointer (some ⟨b, 0, none⟩), .int .i64 v] w (WPost F b (s.found v) w) := by
  obtain ⟨i0, hi0, hz0, hz1, hz2⟩ := info_parts info_pair
  obtain ⟨rv, pv, lv, prv, sv, h⟩ := h
  have c11 : w.cell? ⟨b, 11, none⟩ = some (.int .i64 s.key) := h.blk.cell 11
  have c12 : w.cell? ⟨b, 12, none⟩ = some prv := h.blk.cell 12
  obtain ⟨A, c, rfl⟩ := own_shape h.prs.1
  have n1 := World.new_ne w ⟨b, 12, none⟩ c12
  have hbl := h.blk.lt
  have HAl := Lib.hid ((Below.refl w.heap.size w).alloc (Nat.le_refl _) (.cells #[.int .i64 s.key, .int .i64 v] 51))
  have HAd : Hid (Below w.heap.size w (w.alloc (.cells #[.int .i64 s.key, .int .i64 v] 51)).drew) := Lib.hid (HAl.out.trans (drawn_bl (Drawn.of _ 1) _))
  have HLd : Hid ((w.alloc (.cells #[.int .i64 s.key, .int .i64 v] 51)).drew.ownsRow 0 51 2 (.slice A s.pairs.length c) s.pairs.length (cellsP s.pairs)) := Lib.hid (own_below h.prs.1 HAd.out)
  have HRd : Hid (∀ (j : Nat) (u : Value), ([.int .i64 s.key, .int .i64 v] : List Value)[j]? = some u → (w.alloc (.cells #[.int .i64 s.key, .int .i64 v] 51)).drew.cell? ((⟨w.heap.size, 0, none⟩ : Addr).add j) = some u) := Lib.hid (fun j u hu => by
    have e : (⟨w.heap.size, 0, none⟩ : Addr).add j = ⟨w.heap.size, j, none⟩ := by unfold Addr.add; split <;> simp_all
    rw [e]
    have := (Blk.new w 51 #[.int .i64 s.key, .int .i64 v]).cell j
    exact this.trans (by simpa using hu))
  have H := Lib.hid h
  have hsl : s.pairs = s.pairs := rfl
  clear h hsl
  go_enter Try.func110, Try.ntmps110
  go_wp2_with (fail)
  go_region_law (first | (refine step_append_lies _ (by rfl) _ _ _ (by rfl) 0 51 i0 _ 2 16 Try.underlying49 hi0 hz0 hz1 hz2 rfl (by omega) (.slice A s.pairs.length c) s.pairs.length (cellsP s.pairs) (by rfl) HLd.out ⟨w.heap.size, 0, none⟩ 1 1 [.int .i64 s.key, .int .i64 v] (by rfl) (by rfl) HRd.out (by simp [Value.oneCell']) (by omega) (by unfold maxLen; omega) (by omega) (by omega) (w.heap.size + 1) (by simp) ?_; intro gg cap w5 hO5 hg5 hat hlt5; have K5 := H.out.appp HAd.out hO5 hg5 (hat.imp id (fun e => by omega)); have c5 := K5.out.1; have f5 := K5.out.2.1; clear hO5 hg5 hat hlt5))
  all_goals
    have hP := K5.out.2.2
    clear K5 c5 f5 HAl HAd HLd HRd n1 c11 c12 H
    revert hP
    unfold AppP
    generalize w5.setCell ⟨b, 12, none⟩ (.slice (some ⟨gg, 0, none⟩) (s.pairs.length + 1) cap) = w6
    rintro ⟨hq, hc⟩
    have d12 : w6.cell? ⟨b, 12, none⟩ = some (.slice (some ⟨gg, 0, none⟩) (s.pairs.length + 1) cap) := hq.blk.cell 12
    have d5 : w6.cell? ⟨b, 5, none⟩ = some (.int .i64 s.most) := hq.blk.cell 5
    have d0 : w6.cell? ⟨b, 0, none⟩ = some (.int .i64 s.next) := hq.blk.cell 0
    have g0 := hq.blk.frozen 0
    have HP : Hid (∀ k, WalkP (fun x => F x ∨ w.heap.size ≤ x) b { s with pairs := s.pairs ++ [(s.key, v)] } (w6.drewN k)) := Lib.hid (fun k => ⟨_, _, _, _, _, hq.below (drawn_bl ⟨k, rfl⟩ _)⟩)
    have HC : Hid (∀ k, Chg (fun x => F x) w (w6.drewN k)) := Lib.hid (fun k => hc.trans (Chg.of_below (drawn_bl ⟨k, rfl⟩ _)))
    have HF := Lib.hid (WS.found_split s v)
    clear hq hc
    by_cases hm : 0 < s.most
    · by_cases hk : s.most ≤ (s.pairs.length : Int) + 1
      · have HS := Lib.hid (HF.out.1 (by unfold WS.full'; simp [hm, hk]))
        go_wp2_with (fail)
        go_quiet (fail)
        go_wp2_with (fail)
        refine bodyPost_ret (results_none rfl _ _ _) rfl ?_
        rw [HS.out]
        exact ((HP.out _).fin 6).grown (HC.out _)
      · have HS := Lib.hid (HF.out.2 (by unfold WS.full'; simp [hm, hk]))
        go_wp2_with (fail)
        go_quiet (fail)
        go_wp2_with (fail)
        with_reducible refine (onwardW_any _ b _ _ (HP.out _) hll hlv).mono ?_
        rintro e w8 hp
        have HW := Lib.hid (hp.grown (HC.out _))
        obtain ⟨rfl, _, _⟩ := hp
        go_wp2_with (fail)
        go_end0
        rw [HS.out]
        exact HW.out
    · have HS := Lib.hid (HF.out.2 (by unfold WS.full'; simp [hm]))
      have hm3 : decide (0 < s.most) = false := decide_eq_false hm
      clear hm
      go_wp2_with (fail)
      go_quiet (fail)
      go_wp2_with (fail)
      with_reducible refine (onwardW_any _ b _ _ (HP.out _) hll hlv).mono ?_
      rintro e w8 hp
      have HW := Lib.hid (hp.grown (HC.out _))
      obtain ⟨rfl, _, _⟩ := hp
      go_wp2_with (fail)
      go_end0
      rw [HS.out]
      exact HW.out
end
end Go.Proofs.Ythmcakobpjnnmaa
