/- The frame of seek: New, Done, Value, enter, meet, Step. -/
import Derived.Test.YtblajeildolloaaSeekM
import Derived.Test.YtblajeildolloaaPeekO
import Derived.StillTailTactics
namespace Go.Proofs.Ytblajeildolloaa
set_option linter.unusedVariables false
set_option linter.unusedSimpArgs false
open Go.RowKit

def RouteO (F : Nat → Prop) (rv : Value) (r : RS) (w : World) : Prop := ∃ rb, rv = .pointer (some ⟨rb, 0, none⟩) ∧ F rb ∧ RouteP rb r w
structure SeekQ (F : Nat → Prop) (b : Nat) (s : SS) (rv pv : Value) (w : World) : Prop where
  fb : F b
  blk : Blk w b 56 #[.int .i64 s.next, .int .i64 s.k, .int .i64 s.n, rv, pv, .int .i64 s.at_, .int .i64 s.value, .bool s.there]
  route : RouteO F rv s.route w
  peek : PeekO F pv s.peek w
def SeekP (F : Nat → Prop) (b : Nat) (s : SS) (w : World) : Prop := ∃ rv pv, SeekQ F b s rv pv w
section
variable {F G : Nat → Prop} {b : Nat} {s : SS} {rv pv : Value} {r : RS} {o : Option PS} {w w' : World}
theorem RouteO.mono (h : RouteO F rv r w) (hs : ∀ x, F x → G x) : RouteO G rv r w := by
  obtain ⟨rb, h1, h2, h3⟩ := h; exact ⟨rb, h1, hs _ h2, h3⟩
theorem RouteO.chg (h : RouteO F rv r w) (m : Chg G w w') (hd : ∀ x, F x → G x → False) : RouteO F rv r w' := by
  obtain ⟨rb, h1, h2, h3⟩ := h; exact ⟨rb, h1, h2, m.blk h3 (fun hg => hd _ h2 hg)⟩
theorem RouteO.within (h : RouteO F rv r w) : RouteO (fun x => F x ∧ x < w.heap.size) rv r w := by
  obtain ⟨rb, h1, h2, h3⟩ := h; exact ⟨rb, h1, ⟨h2, h3.blk.lt⟩, h3⟩
/-- Kept where nothing but blocks of other kinds has been turned. -/
theorem RouteO.keep (h : RouteO F rv r w) (m : Chg G w w') (hG : ∀ x, G x → ∃ t cs, Blk w x t cs ∧ t ≠ 74) : RouteO F rv r w' := by
  obtain ⟨rb, h1, h2, h3⟩ := h
  exact ⟨rb, h1, h2, m.blk h3 (fun hg => by obtain ⟨t, cs, hb, ht⟩ := hG _ hg; exact hb.ne_ h3.blk ht rfl)⟩
theorem PeekO.keep (h : PeekO F pv o w) (m : Chg G w w') (hG : ∀ x, G x → ∃ t cs, Blk w x t cs ∧ t ≠ 76) : PeekO F pv o w' := by
  cases o with
  | none => exact h
  | some p =>
    obtain ⟨rb, h1, h2, h3⟩ := h
    exact ⟨rb, h1, h2, m.blk h3 (fun hg => by obtain ⟨t, cs, hb, ht⟩ := hG _ hg; exact hb.ne_ h3.blk ht rfl)⟩
theorem SeekP.mono (h : SeekP F b s w) (hs : ∀ x, F x → G x) : SeekP G b s w := by
  obtain ⟨rv, pv, h⟩ := h
  exact ⟨rv, pv, hs _ h.fb, h.blk, h.route.mono hs, h.peek.mono hs⟩
theorem SeekP.chg (h : SeekP F b s w) (m : Chg G w w') (hd : ∀ x, F x → G x → False) : SeekP F b s w' := by
  obtain ⟨rv, pv, h⟩ := h
  exact ⟨rv, pv, h.fb, m.blk h.blk (fun hg => hd _ h.fb hg), h.route.chg m hd, h.peek.chg m hd⟩
theorem SeekP.below (h : SeekP F b s w) (hb : Below w.heap.size w w') : SeekP F b s w' := h.chg (G := fun _ => False) (Chg.of_below hb) (fun _ _ hg => hg)
theorem SeekP.within (h : SeekP F b s w) : SeekP (fun x => F x ∧ x < w.heap.size) b s w := by
  obtain ⟨rv, pv, h⟩ := h
  refine ⟨rv, pv, ⟨h.fb, h.blk.lt⟩, h.blk, h.route.within, ?_⟩
  have hp := h.peek
  generalize s.peek = o at hp
  cases o with
  | none => exact hp
  | some p => obtain ⟨pb, h1, h2, h3⟩ := hp; exact ⟨pb, h1, ⟨h2, h3.blk.lt⟩, h3⟩
end
section
variable (F : Nat → Prop) (b : Nat) (s : SS) (w : World) (h : SeekP F b s w)
include h
set_option maxHeartbeats 400000 in
theorem doneS_any : Calls Try.prog 36 #[.pointer (some ⟨b, 0, none⟩)] w fun e w' => e = .returned (.bool (s.next == 5)) ∧ w = w' := by
  obtain ⟨rv, pv, h⟩ := h
  have c0 : w.cell? ⟨b, 0, none⟩ = some (.int .i64 s.next) := h.blk.cell 0
  clear h
  go_enter Try.func36, Try.ntmps36
  go_wp2_with (fail)
  go_ret
  exact ⟨rfl, rfl⟩
set_option maxHeartbeats 400000 in
theorem valueS_any : Calls Try.prog 11 #[.pointer (some ⟨b, 0, none⟩)] w fun e w' => e = .returned (.tuple #[.int .i64 s.value, .bool s.there]) ∧ Drawn w w' := by
  obtain ⟨rv, pv, h⟩ := h
  have c6 : w.cell? ⟨b, 6, none⟩ = some (.int .i64 s.value) := h.blk.cell 6
  have c7 : w.cell? ⟨b, 7, none⟩ = some (.bool s.there) := h.blk.cell 7
  clear h
  go_enter Try.func11, Try.ntmps11
  go_wp2_with (fail)
  go_quiet (fail)
  go_wp2_with (fail)
  go_ret2
  exact ⟨rfl, Drawn.of _ _⟩
end
def seekB (next k n : Int) (rv pv : Value) (at_ value : Int) (there : Bool) : Array Value := #[.int .i64 next, .int .i64 k, .int .i64 n, rv, pv, .int .i64 at_, .int .i64 value, .bool there]
set_option maxHeartbeats 1000000 in
theorem enterS_any (b : Nat) (next k n0 at_ value : Int) (there : Bool) (rv pv : Value) (n : Int) (w : World) (h : Blk w b 56 #[.int .i64 next, .int .i64 k, .int .i64 n0, rv, pv, .int .i64 at_, .int .i64 value, .bool there]) (hrv : ∃ a, rv = .pointer a) :
    Calls Try.prog 25 #[.pointer (some ⟨b, 0, none⟩), .int .i64 n] w fun e w' => e = .returned (.tuple #[]) ∧ Blk w' b 56 #[.int .i64 0, .int .i64 k, .int .i64 n, .pointer (some ⟨w.heap.size, 0, none⟩), pv, .int .i64 at_, .int .i64 value, .bool there] ∧ RouteP w.heap.size (RS.init n k) w' ∧ Chg (fun x => x = b) w w' := by
  obtain ⟨ra, rfl⟩ := hrv
  have c1 : w.cell? ⟨b, 1, none⟩ = some (.int .i64 k) := h.cell 1
  have H := Lib.hid h
  clear h
  go_enter Try.func25, Try.ntmps25
  go_wp2_with (fail)
  with_reducible refine (newR_any n k _).mono ?_
  rintro e w1 ⟨rfl, hr, hb⟩
  have hB := H.out.below hb H.out.lt
  have c0 : w1.cell? ⟨b, 0, none⟩ = some (.int .i64 next) := hB.cell 0
  have c2 : w1.cell? ⟨b, 2, none⟩ = some (.int .i64 n0) := hB.cell 2
  have c3 : w1.cell? ⟨b, 3, none⟩ = some (.pointer ra) := hB.cell 3
  have f0 := hB.frozen 0
  have f2 := hB.frozen 2
  have f3 := hB.frozen 3
  have hne : b ≠ w.heap.size := by have := H.out.lt; omega
  have HR := Lib.hid (show RouteP w.heap.size (RS.init n k) (((w1.setCell ⟨b, 0, none⟩ (.int .i64 0)).setCell ⟨b, 2, none⟩ (.int .i64 n)).setCell ⟨b, 3, none⟩ (.pointer (some ⟨w.heap.size, 0, none⟩))) from ((hr.blk.far (p := ⟨b, 0, none⟩) (by simpa using fun e => hne e.symm) _).far (p := ⟨b, 2, none⟩) (by simpa using fun e => hne e.symm) _).far (p := ⟨b, 3, none⟩) (by simpa using fun e => hne e.symm) _)
  have HB2 := Lib.hid (((hB.set_ 0 (.int .i64 0)).set_ 2 (.int .i64 n)).set_ 3 (.pointer (some ⟨w.heap.size, 0, none⟩)))
  have HO := Lib.hid ((Chg.of_below (F := fun x => x = b) hb).trans (Chg.of_mv (F := fun x => x = b) (((Mv.set1 w1 b 0 (.int .i64 0)).trans_ (Mv.set1 _ b 2 (.int .i64 n))).trans_ (Mv.set1 _ b 3 (.pointer (some ⟨w.heap.size, 0, none⟩)))) rfl))
  clear hr hb hB H c1 hne
  go_wp2_with (fail)
  go_end0
  exact ⟨rfl, HB2.out, HR.out, HO.out⟩
def NewSPost (k : Int) (w : World) (e : Ending) (w' : World) : Prop := e = .returned (.pointer (some ⟨w.heap.size, 0, none⟩)) ∧ SeekP (fun x => w.heap.size ≤ x) w.heap.size (SS.init k) w' ∧ Below w.heap.size w w'
set_option maxHeartbeats 400000 in
theorem newS_any (k : Int) (w : World) : Calls Try.prog 9 #[.int .i64 k] w (NewSPost k w) := by
  have h0 := Blk.new w 56 #[.int .i64 0, .int .i64 k, .int .i64 0, .pointer none, .pointer none, .int .i64 0, .int .i64 0, .bool false]
  have hb0 := (Below.refl w.heap.size w).alloc (Nat.le_refl _) (.cells #[.int .i64 0, .int .i64 k, .int .i64 0, .pointer none, .pointer none, .int .i64 0, .int .i64 0, .bool false] 56)
  have hz0 : (w.alloc (.cells #[.int .i64 0, .int .i64 k, .int .i64 0, .pointer none, .pointer none, .int .i64 0, .int .i64 0, .bool false] 56)).heap.size = w.heap.size + 1 := by simp
  have H0 := Lib.hid h0
  have HB0 := Lib.hid hb0
  have HZ := Lib.hid hz0
  clear h0 hb0 hz0
  go_enter Try.func9, Try.ntmps9
  go_wp2_with (fail)
  generalize w.alloc (.cells #[.int .i64 0, .int .i64 k, .int .i64 0, .pointer none, .pointer none, .int .i64 0, .int .i64 0, .bool false] 56) = w1 at H0 HB0 HZ ⊢
  with_reducible refine (enterS_any w.heap.size 0 k 0 0 0 false (.pointer none) (.pointer none) 1 _ H0.out ⟨_, rfl⟩).mono ?_
  rintro e w2 ⟨rfl, hb, hr, ho⟩
  have HS : Hid (SeekP (fun x => w.heap.size ≤ x) w.heap.size (SS.init k) w2) := Lib.hid ⟨_, _, Nat.le_refl _, hb, ⟨_, rfl, by rw [HZ.out]; omega, hr⟩, rfl⟩
  have HB := Lib.hid (HB0.out.trans (ho.below (B := w.heap.size) (fun x hx => by omega) (by rw [HZ.out]; omega)))
  clear hb hr ho
  go_wp2_with (fail)
  go_ret
  exact ⟨rfl, HS.out, HB.out⟩
set_option maxHeartbeats 1000000 in
theorem meetS_any (F : Nat → Prop) (b : Nat) (s : SS) (x : Int) (w : World) (h : SeekP F b s w) (x0 : -9223372036854775808 ≤ x) (x1 : x ≤ 9223372036854775807) :
    Calls Try.prog 32 #[.pointer (some ⟨b, 0, none⟩), .int .i64 x] w fun e w' => e = .returned (.tuple #[]) ∧ SeekP (fun y => F y ∨ w.heap.size ≤ y) b (s.meet x) w' ∧ Chg (fun y => y = b) w w' := by
  obtain ⟨rv, pv, h⟩ := h
  obtain ⟨rb, rfl, hFr, hr⟩ := h.route
  have c0 : w.cell? ⟨b, 0, none⟩ = some (.int .i64 s.next) := h.blk.cell 0
  have c5 : w.cell? ⟨b, 5, none⟩ = some (.int .i64 s.at_) := h.blk.cell 5
  have f0 := h.blk.frozen 0
  have f5 := h.blk.frozen 5
  have o5 := Chg.of_mv (F := fun y => y = b) (Mv.set1 w b 5 (.int .i64 (wAt x))) rfl
  have h5 : SeekQ F b { s with at_ := wAt x } (.pointer (some ⟨rb, 0, none⟩)) pv (w.setCell ⟨b, 5, none⟩ (.int .i64 (wAt x))) := ⟨h.fb, h.blk.set_ 5 _, h.route.keep o5 (fun y hy => by subst hy; exact ⟨_, _, h.blk, by decide⟩), h.peek.keep o5 (fun y hy => by subst hy; exact ⟨_, _, h.blk, by decide⟩)⟩
  have hz5 : (w.setCell ⟨b, 5, none⟩ (.int .i64 (wAt x))).heap.size = w.heap.size := by simp
  have H5 := Lib.hid h5
  have O5 := Lib.hid o5
  have HZ := Lib.hid hz5
  clear o5 h5 hz5 hr h
  have fin : ∀ n : Int, SeekP (fun y => F y ∨ w.heap.size ≤ y) b { s with at_ := wAt x, next := n } ((w.setCell ⟨b, 5, none⟩ (.int .i64 (wAt x))).setCell ⟨b, 0, none⟩ (.int .i64 n)) ∧ Chg (fun y => y = b) w ((w.setCell ⟨b, 5, none⟩ (.int .i64 (wAt x))).setCell ⟨b, 0, none⟩ (.int .i64 n)) := fun n => by
    have o := Chg.of_mv (F := fun y => y = b) (Mv.set1 (w.setCell ⟨b, 5, none⟩ (.int .i64 (wAt x))) b 0 (.int .i64 n)) rfl
    exact ⟨⟨_, _, .inl H5.out.fb, H5.out.blk.set_ 0 _, (H5.out.route.keep o (fun y hy => by subst hy; exact ⟨_, _, H5.out.blk, by decide⟩)).mono (fun _ => .inl), (H5.out.peek.keep o (fun y hy => by subst hy; exact ⟨_, _, H5.out.blk, by decide⟩)).mono (fun _ => .inl)⟩, O5.out.trans o⟩
  have FIN := Lib.hid fin
  clear fin
  by_cases k2 : wKind x = 2
  · have HM := Lib.hid (show s.meet x = { s with at_ := wAt x, next := 2 } from if_pos k2)
    have e2 : (wKind x == 2) = true := by simpa using k2
    clear k2
    go_enter Try.func32, Try.ntmps32
    go_wp2_with (fail)
    with_reducible refine (refAt_any x _ x0 x1).mono ?_
    rintro e w1 ⟨rfl, rfl⟩
    go_wp2_with (fail)
    with_reducible refine (kind_any x _ x0 x1).mono ?_
    rintro e w1 ⟨rfl, rfl⟩
    go_wp2_with (fail)
    go_end0
    rw [HM.out]
    exact ⟨rfl, FIN.out 2⟩
  · have e2 : (wKind x == 2) = false := by simpa using k2
    by_cases k3 : wKind x = 3
    · have HM := Lib.hid (show s.meet x = SS.enter { s with at_ := wAt x } (wAt x) by unfold SS.meet; rw [if_neg k2, if_pos k3])
      have e3 : (wKind x == 3) = true := by simpa using k3
      clear k2 k3
      go_enter Try.func32, Try.ntmps32
      go_wp2_with (fail)
      with_reducible refine (refAt_any x _ x0 x1).mono ?_
      rintro e w1 ⟨rfl, rfl⟩
      go_wp2_with (fail)
      with_reducible refine (kind_any x _ x0 x1).mono ?_
      rintro e w1 ⟨rfl, rfl⟩
      go_wp2_with (fail)
      with_reducible refine (enterS_any b _ _ _ _ _ _ _ _ (wAt x) _ H5.out.blk ⟨_, rfl⟩).mono ?_
      rintro e w2 ⟨rfl, hb, hr, ho⟩
      have HX : Hid (SeekP (fun y => F y ∨ w.heap.size ≤ y) b (SS.enter { s with at_ := wAt x } (wAt x)) w2) := Lib.hid ⟨_, _, .inl H5.out.fb, hb, ⟨_, rfl, .inr (by rw [HZ.out]; omega), hr⟩, (H5.out.peek.keep ho (fun y hy => by subst hy; exact ⟨_, _, H5.out.blk, by decide⟩)).mono (fun _ => .inl)⟩
      have HO := Lib.hid (O5.out.trans ho)
      clear hb hr ho
      go_wp2_with (fail)
      go_end0
      rw [HM.out]
      exact ⟨rfl, HX.out, HO.out⟩
    · have e3 : (wKind x == 3) = false := by simpa using k3
      by_cases k4 : wKind x = 4
      · have HM := Lib.hid (show s.meet x = { s with at_ := wAt x, next := 4 } by unfold SS.meet; rw [if_neg k2, if_neg k3, if_pos k4])
        have e4 : (wKind x == 4) = true := by simpa using k4
        clear k2 k3 k4
        go_enter Try.func32, Try.ntmps32
        go_wp2_with (fail)
        with_reducible refine (refAt_any x _ x0 x1).mono ?_
        rintro e w1 ⟨rfl, rfl⟩
        go_wp2_with (fail)
        with_reducible refine (kind_any x _ x0 x1).mono ?_
        rintro e w1 ⟨rfl, rfl⟩
        go_wp2_with (fail)
        go_end0
        rw [HM.out]
        exact ⟨rfl, FIN.out 4⟩
      · have HM := Lib.hid (show s.meet x = { s with at_ := wAt x, next := 5 } by unfold SS.meet; rw [if_neg k2, if_neg k3, if_neg k4])
        have e4 : (wKind x == 4) = false := by simpa using k4
        clear k2 k3 k4
        go_enter Try.func32, Try.ntmps32
        go_wp2_with (fail)
        with_reducible refine (refAt_any x _ x0 x1).mono ?_
        rintro e w1 ⟨rfl, rfl⟩
        go_wp2_with (fail)
        with_reducible refine (kind_any x _ x0 x1).mono ?_
        rintro e w1 ⟨rfl, rfl⟩
        go_wp2_with (fail)
        go_end0
        rw [HM.out]
        exact ⟨rfl, FIN.out 5⟩
end Go.Proofs.Ytblajeildolloaa
