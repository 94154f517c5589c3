/- The frame of walk: Done, Pairs, Spots, enter, New, slot, look. -/
import Derived.Test.YtblajeildolloaaGreatWalkM
import Derived.Test.YtblajeildolloaaGreatSeek
import Derived.Test.YtblajeildolloaaGreatPush
namespace Go.Proofs.YtblajeildolloaaGreat
set_option linter.unusedVariables false
set_option linter.unusedSimpArgs false
open Go.RowKit

theorem own_blk {w : World} {base n : Nat} {e : TypeId} {size : Nat} {v : Value} {xs : List Value} (h : w.ownsRow base e size v n xs) {g : Nat} (hg : v.ownBlock = some g) : ∃ cs, Blk w g e cs := by
  rcases h.2 with ⟨rfl, _⟩ | ⟨g', cap, cur, rfl, _, hh, _⟩
  · simp [Value.ownBlock] at hg
  · have : g' = g := by simpa [Value.ownBlock] using hg
    subst this
    exact ⟨_, hh⟩
/-- A row of pairs or spots of the frame's own. -/
def PrP (F : Nat → Prop) (T : TypeId) (v : Value) (L : List (Int × Int)) (w : World) : Prop := w.ownsRow 0 T 2 v L.length (cellsP L) ∧ ∀ g, v.ownBlock = some g → F g
structure WalkQ (F : Nat → Prop) (b : Nat) (s : WS) (rv pv lv prv sv : Value) (w : World) : Prop where
  fb : F b
  blk : Blk w b 181 #[.int .i64 s.next, .int .i64 s.lo, .int .i64 s.hi, .bool s.back, .bool s.values, .int .i64 s.most, .int .i64 s.n, rv, pv, lv, .int .i64 s.at_, .int .i64 s.key, prv, sv]
  route : RouteO F rv s.route w
  peek : PeekO F pv s.peek w
  lev : LvP F lv s.levels w
  prs : PrP F 52 prv s.pairs w
  sps : PrP F 114 sv s.spots w
def WalkP (F : Nat → Prop) (b : Nat) (s : WS) (w : World) : Prop := ∃ rv pv lv prv sv, WalkQ F b s rv pv lv prv sv w
section
variable {F G : Nat → Prop} {b : Nat} {s : WS} {rv pv lv prv sv v : Value} {T : TypeId} {L : List (Int × Int)} {Ls : List (Int × Int × Int)} {w w' : World}
theorem PrP.mono (h : PrP F T v L w) (hs : ∀ x, F x → G x) : PrP G T v L w := ⟨h.1, fun g hg => hs g (h.2 g hg)⟩
theorem PrP.chg (h : PrP F T v L w) (m : Chg G w w') (hd : ∀ x, F x → G x → False) : PrP F T v L w' := ⟨m.own h.1 (fun g hg hG => hd g (h.2 g hg) hG), h.2⟩
theorem PrP.keep (h : PrP F T v L w) (m : Chg G w w') (hG : ∀ x, G x → ∃ t cs, Blk w x t cs ∧ t ≠ T) : PrP F T v L w' := ⟨m.own h.1 (fun g hg hG' => by
  obtain ⟨t, cs, hb, ht⟩ := hG g hG'
  obtain ⟨cs', hb'⟩ := own_blk h.1 hg
  exact hb.ne_ hb' ht rfl), h.2⟩
theorem PrP.within (h : PrP F T v L w) : PrP (fun x => F x ∧ x < w.heap.size) T v L w := ⟨h.1, fun g hg => ⟨h.2 g hg, own_lt h.1 g hg⟩⟩
theorem LvP.mono (h : LvP F lv Ls w) (hs : ∀ x, F x → G x) : LvP G lv Ls w := ⟨h.1, fun g hg => hs g (h.2 g hg)⟩
theorem LvP.chg (h : LvP F lv Ls w) (m : Chg G w w') (hd : ∀ x, F x → G x → False) : LvP F lv Ls w' := ⟨m.own h.1 (fun g hg hG => hd g (h.2 g hg) hG), h.2⟩
theorem LvP.keep (h : LvP F lv Ls w) (m : Chg G w w') (hG : ∀ x, G x → ∃ t cs, Blk w x t cs ∧ t ≠ 184) : LvP F lv Ls w' := ⟨m.own h.1 (fun g hg hG' => by
  obtain ⟨t, cs, hb, ht⟩ := hG g hG'
  obtain ⟨cs', hb'⟩ := own_blk h.1 hg
  exact hb.ne_ hb' ht rfl), h.2⟩
theorem LvP.within (h : LvP F lv Ls w) : LvP (fun x => F x ∧ x < w.heap.size) lv Ls w := ⟨h.1, fun g hg => ⟨h.2 g hg, own_lt h.1 g hg⟩⟩
theorem WalkQ.mono (h : WalkQ F b s rv pv lv prv sv w) (hs : ∀ x, F x → G x) : WalkQ G b s rv pv lv prv sv w := ⟨hs _ h.fb, h.blk, h.route.mono hs, h.peek.mono hs, h.lev.mono hs, h.prs.mono hs, h.sps.mono hs⟩
theorem WalkQ.chg (h : WalkQ F b s rv pv lv prv sv w) (m : Chg G w w') (hd : ∀ x, F x → G x → False) : WalkQ F b s rv pv lv prv sv w' := ⟨h.fb, m.blk h.blk (fun hg => hd _ h.fb hg), h.route.chg m hd, h.peek.chg m hd, h.lev.chg m hd, h.prs.chg m hd, h.sps.chg m hd⟩
theorem WalkQ.below (h : WalkQ F b s rv pv lv prv sv w) (hb : Below w.heap.size w w') : WalkQ F b s rv pv lv prv sv w' := h.chg (G := fun _ => False) (Chg.of_below hb) (fun _ _ hg => hg)
theorem WalkP.mono (h : WalkP F b s w) (hs : ∀ x, F x → G x) : WalkP G b s w := by
  obtain ⟨rv, pv, lv, prv, sv, h⟩ := h; exact ⟨rv, pv, lv, prv, sv, h.mono hs⟩
theorem WalkP.chg (h : WalkP F b s w) (m : Chg G w w') (hd : ∀ x, F x → G x → False) : WalkP F b s w' := by
  obtain ⟨rv, pv, lv, prv, sv, h⟩ := h; exact ⟨rv, pv, lv, prv, sv, h.chg m hd⟩
theorem WalkP.below (h : WalkP F b s w) (hb : Below w.heap.size w w') : WalkP F b s w' := h.chg (G := fun _ => False) (Chg.of_below hb) (fun _ _ hg => hg)
theorem WalkP.within (h : WalkP F b s w) : WalkP (fun x => F x ∧ x < w.heap.size) b s w := by
  obtain ⟨rv, pv, lv, prv, sv, h⟩ := h
  refine ⟨rv, pv, lv, prv, sv, ⟨h.fb, h.blk.lt⟩, h.blk, h.route.within, ?_, h.lev.within, h.prs.within, h.sps.within⟩
  have hp := h.peek
  generalize s.peek = o at hp
  cases o with
  | none => exact hp
  | some p => obtain ⟨pb, h1, h2, h3⟩ := hp; exact ⟨pb, h1, ⟨h2, h3.blk.lt⟩, h3⟩
/-- What hangs on the frame's block, kept where nothing but blocks of other kinds has been turned. -/
theorem WalkQ.rest (h : WalkQ F b s rv pv lv prv sv w) (m : Chg G w w') (hG : ∀ x, G x → ∃ t cs, Blk w x t cs ∧ (t = 181 ∨ t = 134)) : RouteO F rv s.route w' ∧ PeekO F pv s.peek w' ∧ LvP F lv s.levels w' ∧ PrP F 52 prv s.pairs w' ∧ PrP F 114 sv s.spots w' := by
  have k : ∀ T : TypeId, 181 ≠ T → 134 ≠ T → ∀ x, G x → ∃ t cs, Blk w x t cs ∧ t ≠ T := fun T h1 h2 x hx => by
    obtain ⟨t, cs, hb, e | e⟩ := hG x hx
    · exact ⟨t, cs, hb, by rw [e]; exact h1⟩
    · exact ⟨t, cs, hb, by rw [e]; exact h2⟩
  exact ⟨h.route.keep m (k _ (by decide) (by decide)), h.peek.keep m (k _ (by decide) (by decide)), h.lev.keep m (k _ (by decide) (by decide)), h.prs.keep m (k _ (by decide) (by decide)), h.sps.keep m (k _ (by decide) (by decide))⟩
/-- Of its own block alone something has been turned: the frame of the new state, where all but the cells is as it was. -/
theorem WalkQ.own (h : WalkQ F b s rv pv lv prv sv w) (m : Chg (fun y => y = b) w w') {s' : WS} (hb : Blk w' b 181 #[.int .i64 s'.next, .int .i64 s'.lo, .int .i64 s'.hi, .bool s'.back, .bool s'.values, .int .i64 s'.most, .int .i64 s'.n, rv, pv, lv, .int .i64 s'.at_, .int .i64 s'.key, prv, sv]) (h1 : s'.route = s.route) (h2 : s'.peek = s.peek) (h3 : s'.levels = s.levels) (h4 : s'.pairs = s.pairs) (h5 : s'.spots = s.spots) : WalkQ F b s' rv pv lv prv sv w' := by
  obtain ⟨a1, a2, a3, a4, a5⟩ := h.rest m (fun x hx => by subst hx; exact ⟨_, _, h.blk, .inl rfl⟩)
  exact ⟨h.fb, hb, h1 ▸ a1, h2 ▸ a2, h3 ▸ a3, h4 ▸ a4, h5 ▸ a5⟩
end
section
variable (F : Nat → Prop) (b : Nat) (s : WS) (w : World)
set_option maxHeartbeats 400000 in
theorem doneW_any (h : WalkP F b s w) : Calls Tryz.prog 62 #[.pointer (some ⟨b, 0, none⟩)] w fun e w' => e = .returned (.bool (s.next == 6)) ∧ w = w' := by
  obtain ⟨rv, pv, lv, prv, sv, h⟩ := h
  have c0 : w.cell? ⟨b, 0, none⟩ = some (.int .i64 s.next) := h.blk.cell 0
  clear h
  go_enter Tryz.func62, Tryz.ntmps62
  go_wp2_with (fail)
  go_ret
  exact ⟨rfl, rfl⟩
set_option maxHeartbeats 400000 in
theorem pairsW_any (h : WalkP F b s w) (hn : s.next = 6) (hl : s.pairs.length ≤ 1000000) : Calls Tryz.prog 64 #[.pointer (some ⟨b, 0, none⟩)] w (SomeOwnP 52 s.pairs w) := by
  have HH := Lib.hid h
  obtain ⟨rv, pv, lv, prv, sv, h⟩ := h
  obtain ⟨A, c, rfl⟩ := own_shape h.prs.1
  have c12 : w.cell? ⟨b, 12, none⟩ = some (.slice A s.pairs.length c) := h.blk.cell 12
  have HR : Hid (PairsAt w w.heap.size A s.pairs) := Lib.hid (Reads.of_own h.prs.1)
  have e1 : (s.next == 6) = true := by simpa using hn
  clear h hn
  go_enter Tryz.func64, Tryz.ntmps64
  go_wp2_with (fail)
  with_reducible refine (doneW_any F b s _ HH.out).mono ?_
  rintro e w1 ⟨rfl, rfl⟩
  go_wp2_with (fail)
  with_reducible refine (cloneP_any A c _ s.pairs _ rfl HR.out hl).mono ?_
  rintro e w1 ⟨v, rfl, hO, hb⟩
  have HO := Lib.hid hO
  have HB := Lib.hid hb
  clear hO hb
  go_wp2_with (fail)
  go_ret
  exact ⟨v, rfl, HO.out, HB.out⟩
set_option maxHeartbeats 400000 in
theorem spotsW_any (h : WalkP F b s w) (hn : s.next = 6) (hl : s.spots.length ≤ 1000000) : Calls Tryz.prog 66 #[.pointer (some ⟨b, 0, none⟩)] w (SomeOwnP 114 s.spots w) := by
  have HH := Lib.hid h
  obtain ⟨rv, pv, lv, prv, sv, h⟩ := h
  obtain ⟨A, c, rfl⟩ := own_shape h.sps.1
  have c13 : w.cell? ⟨b, 13, none⟩ = some (.slice A s.spots.length c) := h.blk.cell 13
  have HR : Hid (PairsAt w w.heap.size A s.spots) := Lib.hid (Reads.of_own h.sps.1)
  have e1 : (s.next == 6) = true := by simpa using hn
  clear h hn
  go_enter Tryz.func66, Tryz.ntmps66
  go_wp2_with (fail)
  with_reducible refine (doneW_any F b s _ HH.out).mono ?_
  rintro e w1 ⟨rfl, rfl⟩
  go_wp2_with (fail)
  with_reducible refine (cloneS_any A c _ s.spots _ rfl HR.out hl).mono ?_
  rintro e w1 ⟨v, rfl, hO, hb⟩
  have HO := Lib.hid hO
  have HB := Lib.hid hb
  clear hO hb
  go_wp2_with (fail)
  go_ret
  exact ⟨v, rfl, HO.out, HB.out⟩
end
def EnterPost (b : Nat) (s : WS) (pv lv prv sv : Value) (n : Int) (w : World) (e : Ending) (w' : World) : Prop :=
  e = .returned (.tuple #[]) ∧ Blk w' b 181 #[.int .i64 0, .int .i64 s.lo, .int .i64 s.hi, .bool s.back, .bool s.values, .int .i64 s.most, .int .i64 n, .pointer (some ⟨w.heap.size, 0, none⟩), pv, lv, .int .i64 s.at_, .int .i64 s.key, prv, sv] ∧ RouteP w.heap.size (RS.init n s.start) w' ∧ Chg (fun x => x = b) w w'
set_option maxHeartbeats 1000000 in
theorem enterW_raw (b : Nat) (s : WS) (rv pv lv prv sv : Value) (n : Int) (w : World) (h : Blk w b 181 #[.int .i64 s.next, .int .i64 s.lo, .int .i64 s.hi, .bool s.back, .bool s.values, .int .i64 s.most, .int .i64 s.n, rv, pv, lv, .int .i64 s.at_, .int .i64 s.key, prv, sv]) (hrv : ∃ a, rv = .pointer a) :
    Calls Tryz.prog 127 #[.pointer (some ⟨b, 0, none⟩), .int .i64 n] w (EnterPost b s pv lv prv sv n w) := by
  obtain ⟨ra, rfl⟩ := hrv
  have c1 : w.cell? ⟨b, 1, none⟩ = some (.int .i64 s.lo) := h.cell 1
  have c2 : w.cell? ⟨b, 2, none⟩ = some (.int .i64 s.hi) := h.cell 2
  have c3 : w.cell? ⟨b, 3, none⟩ = some (.bool s.back) := h.cell 3
  have H := Lib.hid h
  clear h
  have post : ∀ k : Int, s.start = k → ∀ w1 : World, RouteP w.heap.size (RS.init n k) w1 → Below w.heap.size w w1 → ∃ x0 x6 x7, (w1.cell? ⟨b, 0, none⟩ = some x0 ∧ w1.cell? ⟨b, 6, none⟩ = some x6 ∧ w1.cell? ⟨b, 7, none⟩ = some x7 ∧ w1.frozen? ⟨b, 0, none⟩ = false ∧ w1.frozen? ⟨b, 6, none⟩ = false ∧ w1.frozen? ⟨b, 7, none⟩ = false) ∧ EnterPost b s pv lv prv sv n w (.returned (.tuple #[])) (((w1.setCell ⟨b, 0, none⟩ (.int .i64 0)).setCell ⟨b, 6, none⟩ (.int .i64 n)).setCell ⟨b, 7, none⟩ (.pointer (some ⟨w.heap.size, 0, none⟩))) := by
    intro k hk w1 hr hb
    have hB := H.out.below hb H.out.lt
    have hne : w.heap.size ≠ b := by have := H.out.lt; omega
    refine ⟨_, _, _, ⟨hB.cell 0, hB.cell 6, hB.cell 7, hB.frozen 0, hB.frozen 6, hB.frozen 7⟩, rfl, ((hB.set_ 0 _).set_ 6 _).set_ 7 _, ?_, ?_⟩
    · rw [hk]
      exact ((hr.blk.far (p := ⟨b, 0, none⟩) hne _).far (p := ⟨b, 6, none⟩) hne _).far (p := ⟨b, 7, none⟩) hne _
    · exact (Chg.of_below (F := fun x => x = b) hb).trans (Chg.of_mv (F := fun x => x = b) (((Mv.set1 w1 b 0 _).trans_ (Mv.set1 _ b 6 _)).trans_ (Mv.set1 _ b 7 _)) rfl)
  have POST := Lib.hid post
  clear post
  cases hbk : s.back with
  | true =>
    have HK := Lib.hid (show s.start = s.hi from if_pos hbk)
    rw [hbk] at c3
    clear hbk
    go_enter Tryz.func127, Tryz.ntmps127
    go_wp2_with (fail)
    with_reducible refine (newR_any n s.hi _).mono ?_
    rintro e w1 ⟨rfl, hr, hb⟩
    obtain ⟨x0, x6, x7, ⟨c0, c6, c7, f0, f6, f7⟩, hp⟩ := POST.out s.hi HK.out w1 hr hb
    have HP := Lib.hid hp
    clear hp
    clear hr hb
    go_wp2_with (fail)
    go_end0
    exact HP.out
  | false =>
    have HK := Lib.hid (show s.start = s.lo from if_neg (by rw [hbk]; exact Bool.false_ne_true))
    rw [hbk] at c3
    clear hbk
    go_enter Tryz.func127, Tryz.ntmps127
    go_wp2_with (fail)
    with_reducible refine (newR_any n s.lo _).mono ?_
    rintro e w1 ⟨rfl, hr, hb⟩
    obtain ⟨x0, x6, x7, ⟨c0, c6, c7, f0, f6, f7⟩, hp⟩ := POST.out s.lo HK.out w1 hr hb
    have HP := Lib.hid hp
    clear hp
    clear hr hb
    go_wp2_with (fail)
    go_end0
    exact HP.out
def WPost (F : Nat → Prop) (b : Nat) (s' : WS) (w : World) (e : Ending) (w' : World) : Prop := e = .returned (.tuple #[]) ∧ WalkP (fun x => F x ∨ w.heap.size ≤ x) b s' w' ∧ Chg (fun x => F x) w w'
theorem enterW_any (F : Nat → Prop) (b : Nat) (s : WS) (n : Int) (w : World) (h : WalkP F b s w) :
    Calls Tryz.prog 127 #[.pointer (some ⟨b, 0, none⟩), .int .i64 n] w (WPost F b (s.enter n) w) := by
  obtain ⟨rv, pv, lv, prv, sv, h⟩ := h
  obtain ⟨rb, hrv, _⟩ := h.route
  refine (enterW_raw b s rv pv lv prv sv n w h.blk ⟨_, hrv⟩).mono fun e w' ⟨he, hb, hr, hc⟩ => ⟨he, ?_, hc.mono (fun x hx => hx ▸ h.fb)⟩
  obtain ⟨a1, a2, a3, a4, a5⟩ := h.rest hc (fun x hx => by subst hx; exact ⟨_, _, h.blk, .inl rfl⟩)
  exact ⟨_, pv, lv, prv, sv, .inl h.fb, hb, ⟨_, rfl, .inr (Nat.le_refl _), hr⟩, a2.mono (fun _ => .inl), a3.mono (fun _ => .inl), a4.mono (fun _ => .inl), a5.mono (fun _ => .inl)⟩
def NewWPost (lo hi : Int) (back : Bool) (most : Int) (values : Bool) (w : World) (e : Ending) (w' : World) : Prop := e = .returned (.pointer (some ⟨w.heap.size, 0, none⟩)) ∧ WalkP (fun x => w.heap.size ≤ x) w.heap.size (WS.init lo hi back most values) w' ∧ Below w.heap.size w w'
set_option maxHeartbeats 1000000 in
theorem newW_any (lo hi : Int) (back : Bool) (most : Int) (values : Bool) (w : World) : Calls Tryz.prog 59 #[.int .i64 lo, .int .i64 hi, .bool back, .int .i64 most, .bool values] w (NewWPost lo hi back most values w) := by
  have h0 := Blk.new w 181 #[.int .i64 0, .int .i64 lo, .int .i64 hi, .bool back, .bool values, .int .i64 most, .int .i64 0, .pointer none, .pointer none, .slice none 0 0, .int .i64 0, .int .i64 0, .slice none 0 0, .slice none 0 0]
  have hb0 := (Below.refl w.heap.size w).alloc (Nat.le_refl _) (.cells #[.int .i64 0, .int .i64 lo, .int .i64 hi, .bool back, .bool values, .int .i64 most, .int .i64 0, .pointer none, .pointer none, .slice none 0 0, .int .i64 0, .int .i64 0, .slice none 0 0, .slice none 0 0] 181)
  have hz0 : (w.alloc (.cells #[.int .i64 0, .int .i64 lo, .int .i64 hi, .bool back, .bool values, .int .i64 most, .int .i64 0, .pointer none, .pointer none, .slice none 0 0, .int .i64 0, .int .i64 0, .slice none 0 0, .slice none 0 0] 181)).heap.size = w.heap.size + 1 := by simp
  have H0 := Lib.hid h0
  have HB0 := Lib.hid hb0
  have HZ := Lib.hid hz0
  clear h0 hb0 hz0
  go_enter Tryz.func59, Tryz.ntmps59
  go_wp2_with (fail)
  generalize w.alloc (.cells #[.int .i64 0, .int .i64 lo, .int .i64 hi, .bool back, .bool values, .int .i64 most, .int .i64 0, .pointer none, .pointer none, .slice none 0 0, .int .i64 0, .int .i64 0, .slice none 0 0, .slice none 0 0] 181) = w1 at H0 HB0 HZ ⊢
  with_reducible refine (enterW_raw w.heap.size ⟨0, lo, hi, back, values, most, 0, RS.init 0 0, none, [], 0, 0, [], []⟩ (.pointer none) (.pointer none) (.slice none 0 0) (.slice none 0 0) (.slice none 0 0) 1 _ H0.out ⟨_, rfl⟩).mono ?_
  rintro e w2 ⟨rfl, hb, hr, ho⟩
  have HS : Hid (WalkP (fun x => w.heap.size ≤ x) w.heap.size (WS.init lo hi back most values) w2) := Lib.hid ⟨_, _, _, _, _, Nat.le_refl _, hb, ⟨_, rfl, by rw [HZ.out]; omega, hr⟩, rfl, ⟨World.ownsRow_nil _ _ _ _, fun g hg => by simp [Value.ownBlock] at hg⟩, ⟨World.ownsRow_nil _ _ _ _, fun g hg => by simp [Value.ownBlock] at hg⟩, ⟨World.ownsRow_nil _ _ _ _, fun g hg => by simp [Value.ownBlock] at hg⟩⟩
  have HB := Lib.hid (HB0.out.trans (ho.below (B := w.heap.size) (fun x hx => by omega) (by rw [HZ.out]; omega)))
  clear hb hr ho
  go_wp2_with (fail)
  go_ret
  exact ⟨rfl, HS.out, HB.out⟩
set_option maxHeartbeats 1000000 in
theorem slotW_any (F : Nat → Prop) (b : Nat) (s : WS) (w : World) (h : WalkP F b s w) (hl : s.levels ≠ []) (hll : s.levels.length ≤ 1000000) :
    Calls Tryz.prog 130 #[.pointer (some ⟨b, 0, none⟩)] w fun e w' => e = .returned (.int .i64 s.slot) ∧ Below w.heap.size w w' := by
  obtain ⟨rv, pv, lv, prv, sv, h⟩ := h
  obtain ⟨x, L, hL⟩ := List.exists_cons_of_ne_nil hl
  have hS : s.slot = childAtI x.1 x.2.1 x.2.2 := by unfold WS.slot WS.top; rw [hL]; rfl
  have hlev := h.lev
  rw [hL] at hlev hll
  have c9 : w.cell? ⟨b, 9, none⟩ = some lv := h.blk.cell 9
  have HS := Lib.hid hS
  have HL := Lib.hid hlev
  have C9 := Lib.hid c9
  clear hS hlev c9
  clear h hl hL
  go_enter Tryz.func130, Tryz.ntmps130
  go_wp2_with (fail)
  with_reducible refine (topL_cons b 9 lv x L _ F C9.out HL.out (by simp at hll; omega)).mono ?_
  rintro e w1 ⟨rfl, hb1⟩
  have hx := Blk.new w1 184 #[.int .i64 x.1, .int .i64 x.2.1, .int .i64 x.2.2]
  have hb2 := hb1.alloc hb1.size (.cells #[.int .i64 x.1, .int .i64 x.2.1, .int .i64 x.2.2] 184)
  have x0 : (w1.alloc (.cells #[.int .i64 x.1, .int .i64 x.2.1, .int .i64 x.2.2] 184)).cell? ⟨w1.heap.size, 0, none⟩ = some (.int .i64 x.1) := hx.cell 0
  have x1 : (w1.alloc (.cells #[.int .i64 x.1, .int .i64 x.2.1, .int .i64 x.2.2] 184)).cell? ⟨w1.heap.size, 1, none⟩ = some (.int .i64 x.2.1) := hx.cell 1
  have x2 : (w1.alloc (.cells #[.int .i64 x.1, .int .i64 x.2.1, .int .i64 x.2.2] 184)).cell? ⟨w1.heap.size, 2, none⟩ = some (.int .i64 x.2.2) := hx.cell 2
  have HB2 := Lib.hid hb2
  clear hb2
  clear hb1 hx
  go_wp2_with (fail)
  with_reducible refine (childat_any _ _ _ _).mono ?_
  rintro e w3 ⟨rfl, hb3⟩
  have HB3 := Lib.hid (HB2.out.trans (hb3.mono HB2.out.size))
  clear hb3
  go_wp2_with (fail)
  go_ret
  rw [HS.out]
  exact ⟨rfl, HB3.out⟩
set_option maxHeartbeats 1000000 in
theorem lookW_any (F : Nat → Prop) (b : Nat) (s : WS) (w : World) (h : WalkP F b s w) (hl : s.levels ≠ []) (hll : s.levels.length ≤ 1000000) :
    Calls Tryz.prog 129 #[.pointer (some ⟨b, 0, none⟩)] w (WPost F b s.look w) := by
  have H := Lib.hid h
  clear h
  go_enter Tryz.func129, Tryz.ntmps129
  go_wp2_with (fail)
  with_reducible refine (slotW_any F b s _ H.out hl hll).mono ?_
  rintro e w1 ⟨rfl, hb1⟩
  go_wp2_with (fail)
  with_reducible refine (newPk_any _ _).mono ?_
  rintro e w2 ⟨rfl, hp, hb2, _⟩
  have hb := hb1.trans (hb2.mono hb1.size)
  obtain ⟨rv, pv, lv, prv, sv, h2⟩ := H.out.below hb
  have hpo : ∃ a, pv = .pointer a := by
    have := h2.peek
    generalize s.peek = o at this
    cases o with
    | none => exact ⟨_, this⟩
    | some p => obtain ⟨pb, e, _⟩ := this; exact ⟨_, e⟩
  obtain ⟨pa, rfl⟩ := hpo
  have c0 : w2.cell? ⟨b, 0, none⟩ = some (.int .i64 s.next) := h2.blk.cell 0
  have c8 : w2.cell? ⟨b, 8, none⟩ = some (.pointer pa) := h2.blk.cell 8
  have f0 := h2.blk.frozen 0
  have f8 := h2.blk.frozen 8
  have hz1 := hb1.size
  have o3 : Chg (fun y => y = b) w2 ((w2.setCell ⟨b, 0, none⟩ (.int .i64 1)).setCell ⟨b, 8, none⟩ (.pointer (some ⟨w1.heap.size, 0, none⟩))) := Chg.of_mv (F := fun y => y = b) ((Mv.set1 w2 b 0 _).trans_ (Mv.set1 _ b 8 _)) rfl
  have HX : Hid (WalkP (fun x => F x ∨ w.heap.size ≤ x) b s.look ((w2.setCell ⟨b, 0, none⟩ (.int .i64 1)).setCell ⟨b, 8, none⟩ (.pointer (some ⟨w1.heap.size, 0, none⟩)))) := Lib.hid (by
    obtain ⟨a1, a2, a3, a4, a5⟩ := h2.rest o3 (fun x hx => by subst hx; exact ⟨_, _, h2.blk, .inl rfl⟩)
    exact ⟨rv, _, lv, prv, sv, .inl h2.fb, (h2.blk.set_ 0 _).set_ 8 _, a1.mono (fun _ => .inl), ⟨_, rfl, .inr hz1, o3.blk hp (fun e => hp.blk.ne_ h2.blk (by decide) e)⟩, a3.mono (fun _ => .inl), a4.mono (fun _ => .inl), a5.mono (fun _ => .inl)⟩)
  have HC : Hid (Chg (fun x => F x) w ((w2.setCell ⟨b, 0, none⟩ (.int .i64 1)).setCell ⟨b, 8, none⟩ (.pointer (some ⟨w1.heap.size, 0, none⟩)))) := Lib.hid ((Chg.of_below hb).trans (o3.mono (fun x hx => hx ▸ h2.fb)))
  clear hb1 hp hb2 hb h2 o3 H
  go_wp2_with (fail)
  go_end0
  exact ⟨rfl, HX.out, HC.out⟩
end Go.Proofs.YtblajeildolloaaGreat
