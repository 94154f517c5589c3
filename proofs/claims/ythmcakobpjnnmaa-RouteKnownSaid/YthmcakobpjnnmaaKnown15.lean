/- The walk of chapter 15's known. -/
import Derived.Test.YthmcakobpjnnmaaRun
namespace Go.Proofs.Ythmcakobpjnnmaa
set_option linter.unusedVariables false
set_option linter.unusedSimpArgs false
open Go.RowKit

/-- A frame behind t steps over the memory of `at`. -/
structure OnWay (q : List Int) (k : Int) (B b fb : Nat) (v : Value) (t : Nat) (w : World) : Prop where
  mem : ∃ count odd, MemP B b v (atL q) 2000 count odd 0 w
  fr : RouteP fb (stAt q k t) w
theorem OnWay.below {q : List Int} {k : Int} {B b fb : Nat} {v : Value} {t : Nat} {w w' : World} (h : OnWay q k B b fb v t w) (hb : Below w.heap.size w w') : OnWay q k B b fb v t w' := by
  obtain ⟨c, o, hm⟩ := h.mem
  exact ⟨⟨c, o, hm.below hb⟩, h.fr.blk.below hb h.fr.blk.lt⟩
def WayPost (q : List Int) (k : Int) (B b fb : Nat) (v : Value) (t : Nat) (w : World) (e : Ending) (w' : World) : Prop :=
  e = .returned (.bool ((stAt q k (t + 1)).next == 6)) ∧ OnWay q k B b fb v (t + 1) w' ∧ Only [fb, b] w w'
theorem way_any {q : List Int} {k : Int} {B b fb f : Nat} {v : Value} (hl : q.length ≤ 1000) (hw : ∀ i, i < q.length → -9223372036854775808 ≤ keyAt q i ∧ keyAt q i ≤ 9223372036854775807) (hO : RunOk q k f) (t : Nat) (w : World) (h : OnWay q k B b fb v t w) :
    Calls Try.prog 13 #[.pointer (some ⟨fb, 0, none⟩), .pointer (some ⟨b, 0, none⟩)] w (WayPost q k B b fb v t w) := by
  obtain ⟨c, o, hm⟩ := h.mem
  exact (stepR_any fb b (stAt q k t) B v (atL q) 2000 c o 0 w h.fr hm (hO.inv t) (by rw [atL_len]; omega) (atL_bd hl hw)).mono fun e w' ⟨he, h1, h2, h3⟩ => ⟨he, ⟨⟨_, _, h2⟩, h1⟩, h3⟩

def q15 : List Int := [10, 20, 30, 40]
theorem q15_bd : ∀ i, i < q15.length → -9223372036854775808 ≤ keyAt q15 i ∧ keyAt q15 i ≤ 9223372036854775807 := all_bd (by decide)
theorem ok15 : RunOk q15 25 2 := runOk (by decide) (by decide) q15_bd (by decide) (by decide) (by decide) (fun j hj => by rcases j with _ | _ | j <;> first | decide | omega) (fun j h1 h2 => by
  have : j = 2 ∨ j = 3 := by simp [q15] at h2; omega
  rcases this with rfl | rfl <;> decide)
theorem n15 : nOf q15 25 = 5 := by decide
def KnownRel (w0 : World) (B b fb : Nat) (v : Value) (i : Value) (wr : World) : Prop := ∃ t : Nat, t ≤ 5 ∧ i = .int .i64 t ∧ OnWay q15 25 B b fb v t wr ∧ Below w0.heap.size w0 wr
set_option maxRecDepth 100000 in
set_option maxHeartbeats 2000000 in
theorem known15_any (w : World) : Calls Try.prog 15 #[] w fun e w' => e = .returned (.bool true) ∧ Below w.heap.size w w' := by
  have hq : IntsAt (w.alloc (.cells #[.int .i64 10, .int .i64 20, .int .i64 30, .int .i64 40] 2)) (w.alloc (.cells #[.int .i64 10, .int .i64 20, .int .i64 30, .int .i64 40] 2)).heap.size (some ⟨w.heap.size, 0, none⟩) q15 := (ints_row w 2 q15).more (by simp)
  have hB0 := (Below.refl w.heap.size w).alloc (Nat.le_refl _) (.cells #[.int .i64 10, .int .i64 20, .int .i64 30, .int .i64 40] 2)
  have HQ := Lib.hid hq
  clear hq
  go_enter Try.func15, Try.ntmps15
  go_wp2_with (fail)
  have hs0 : w.heap.size < (w.alloc (.cells #[.int .i64 10, .int .i64 20, .int .i64 30, .int .i64 40] 2)).heap.size := by simp
  generalize w.alloc (.cells #[.int .i64 10, .int .i64 20, .int .i64 30, .int .i64 40] 2) = w0 at HQ hB0 hs0 ⊢
  with_reducible refine (at_any _ 4 4 q15 _ (by kernel_rfl) HQ.out (by decide)).mono ?_
  rintro e w1 ⟨v, rfl, hm, hb⟩
  have hB1 := hB0.trans (hb.mono (by omega))
  have HM := Lib.hid hm
  have hz1 : w0.heap.size < w1.heap.size := hm.blk.lt
  clear hb hm HQ
  generalize w0.heap.size = b at HM hz1 hs0 ⊢
  go_wp2_with (fail)
  with_reducible refine (newR_any 1 5 _).mono ?_
  rintro e w2 ⟨rfl, hf, hb⟩
  have hB2 := hB1.trans (hb.mono hB1.size)
  have HM2 := Lib.hid (HM.out.below hb)
  have HF := Lib.hid hf
  have hz2 : w1.heap.size < w2.heap.size := hf.blk.lt
  clear hb hf HM
  go_wp2_with (fail)
  with_reducible refine (stepR_any w1.heap.size b (RS.init 1 5) b v (atL q15) 2000 3 0 0 _ HF.out HM2.out (RS.Inv.init (by omega) (by omega) (by omega) (by omega)) (by rw [atL_len]; decide) (atL_bd (by decide) q15_bd)).mono ?_
  rintro e w3 ⟨rfl, hf3, hm3, o3⟩
  have es : (RS.init 1 5).step (rdC (atL q15)) = ⟨6, 1, 5, 1, 1, 0, 0⟩ := by rfl
  rw [es] at hf3 ⊢
  have hB3 := hB2.trans (o3.below (B := w.heap.size) (by simp; omega) hB2.size)
  have hm4 : MemP b b v (atL q15) 2000 _ _ 0 w3 := hm3
  have HM3 := Lib.hid hm4
  have HF3 := Lib.hid hf3
  have hz3 := o3.size
  clear hf3 hm3 hm4 o3 es HF HM2
  have en : ((6 : Int) == 6) = true := rfl
  go_wp2_with (fail)
  with_reducible refine (degree_any _ _ _ HF3.out rfl).mono ?_
  rintro e w4 ⟨rfl, rfl⟩
  go_wp2_with (fail)
  with_reducible refine (child_any _ _ _ HF3.out).mono ?_
  rintro e w4 ⟨rfl, rfl⟩
  go_wp2_with (fail)
  with_reducible refine (newR_any 8 25 _).mono ?_
  rintro e w4 ⟨rfl, hf, hb⟩
  have hB4 := hB3.trans (hb.mono hB3.size)
  have HW := Lib.hid (show OnWay q15 25 b b w3.heap.size v 0 w4 from ⟨⟨_, _, HM3.out.below hb⟩, hf⟩)
  clear hb hf HM3 HF3
  generalize w3.heap.size = fb at hz3 HW ⊢
  go_wp2_with (fail)
  go_loopw [4] (fun i wr => KnownRel w b b fb v i wr) (fun i _ => 5 - (intOf i).toNat)
  case atStart => unfold KnownRel; exact ⟨0, by omega, rfl, HW.out, hB4⟩
  case round =>
    obtain ⟨t, t1, rfl, hW, hB⟩ := hrel
    clear HW hB4
    by_cases hlt : t < 5
    · have HW := Lib.hid hW
      clear hW
      go_wp2_with (fail)
      with_reducible refine (way_any (by decide) q15_bd ok15 t _ HW.out).mono ?_
      rintro e w5 ⟨rfl, h5, o5⟩
      have hB5 := hB.trans (o5.below (B := w.heap.size) (by simp; omega) hB.size)
      have H5 := Lib.hid h5
      have en : ((stAt q15 25 (t + 1)).next == 6) = ((t : Int) == 4) := by
        by_cases e : t = 4
        · subst e
          have := (ok15.ended 5 (by rw [n15]; omega)).1
          rw [this]; rfl
        · have := ok15.going (t + 1) (by rw [n15]; omega)
          have e2 : ((t : Int) == 4) = false := by simpa using (by omega : ¬ (t : Int) = 4)
          rw [e2]
          simpa using this
      rw [en]
      clear en h5 o5 HW
      go_wp2_with (fail)
      go_roundw
      case rel => unfold KnownRel; exact ⟨t + 1, by omega, by go_num, H5.out, hB5⟩
      case measure => simp [intOf]; omega
    · have et : t = 5 := by omega
      subst et
      obtain ⟨e1, e2, e3⟩ := ok15.ended 5 (by rw [n15]; omega)
      have HF := Lib.hid hW.fr
      have E1 := Lib.hid e1
      have E2 := Lib.hid e2
      have E3 := Lib.hid e3
      clear hW e1 e2 e3
      go_wp2_with (fail)
      with_reducible refine (degree_any _ _ _ HF.out E1.out).mono ?_
      rintro e w5 ⟨rfl, rfl⟩
      rw [E2.out]
      go_wp2_with (fail)
      with_reducible refine (child_any _ _ _ HF.out).mono ?_
      rintro e w5 ⟨rfl, rfl⟩
      rw [E3.out]
      go_wp2_with (fail)
      with_reducible refine (done_any _ _ _ HF.out).mono ?_
      rintro e w5 ⟨rfl, rfl⟩
      rw [E1.out]
      go_wp2_with (fail)
      go_ret
      exact ⟨rfl, hB⟩
end Go.Proofs.Ythmcakobpjnnmaa
