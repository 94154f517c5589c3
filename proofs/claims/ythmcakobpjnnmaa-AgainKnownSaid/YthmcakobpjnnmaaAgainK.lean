/- The walk of AgainKnown. -/
import Derived.Test.YthmcakobpjnnmaaAgain
namespace Go.Proofs.Ythmcakobpjnnmaa
set_option linter.unusedVariables false
set_option linter.unusedSimpArgs false
open Go.RowKit

theorem PeekO.within {F : Nat → Prop} {pv : Value} {o : Option PS} {w : World} (h : PeekO F pv o w) : PeekO (fun x => F x ∧ x < w.heap.size) pv o w := by
  cases o with
  | none => exact h
  | some p => obtain ⟨pb, h1, h2, h3⟩ := h; exact ⟨pb, h1, ⟨h2, h3.blk.lt⟩, h3⟩
theorem own_lt {w : World} {base n : Nat} {e : TypeId} {size : Nat} {v : Value} {xs : List Value} (h : w.ownsRow base e size v n xs) : ∀ g, v.ownBlock = some g → g < w.heap.size := fun g hg => (h.lt g hg).2
theorem AgainP.within {F : Nat → Prop} {b : Nat} {s : AS} {w : World} (h : AgainP F b s w) : AgainP (fun x => F x ∧ x < w.heap.size) b s w := by
  obtain ⟨A, c, pv, h⟩ := h
  refine ⟨A, c, pv, ⟨h.fb, h.blk.lt⟩, h.blk, ?_, h.peek.within⟩
  obtain ⟨h0, v0, L0, k, h1, h2, h3⟩ := h.left
  exact ⟨h0, v0, L0, k, h1, fun g hg => ⟨h2 g hg, own_lt h1 g hg⟩, h3⟩
theorem PairsAt.nil (w : World) (B : Nat) : PairsAt w B none [] := Reads.none_
theorem pairs_row (w : World) (t : TypeId) (L : List (Int × Int)) : PairsAt (w.alloc (.cells (cellsP L).toArray t)) (w.heap.size + 1) (some ⟨w.heap.size, 0, none⟩) L := by
  refine ⟨cellsP_len L, fun _ => ⟨_, rfl, Nat.lt_succ_self _, fun j u hu => ?_⟩⟩
  have e : (⟨w.heap.size, 0, none⟩ : Addr).add j = ⟨w.heap.size, j, none⟩ := by unfold Addr.add; split <;> simp_all
  rw [e]
  have := (Blk.new w t (cellsP L).toArray).cell j
  rw [this]
  simpa using hu
theorem bd_of {L : List Int} (h : ∀ x ∈ L, -9223372036854775808 ≤ x ∧ x ≤ 9223372036854775807) : ∀ i, i < L.length → -9223372036854775808 ≤ keyAt L i ∧ keyAt L i ≤ 9223372036854775807 := fun i hi => h _ (by
  unfold keyAt
  rw [List.getD_eq_getElem?_getD, List.getElem?_eq_getElem hi]
  exact List.getElem_mem _)
theorem beginL_bd : ∀ i, i < beginL.length → -9223372036854775808 ≤ keyAt beginL i ∧ keyAt beginL i ≤ 9223372036854775807 := bd_of (by decide)
def kl18 : List (Int × Int) := [(6, 57), (7, 1), (6, 57)]
set_option maxRecDepth 100000 in
set_option maxHeartbeats 2000000 in
theorem known18_any (w : World) : Calls Try.prog 30 #[] w fun e w' => e = .returned (.bool true) ∧ Below w.heap.size w w' := by
  go_enter Try.func30, Try.ntmps30
  go_wp2_with (fail)
  with_reducible refine (memNew_any 9 _ (by decide) (by decide)).mono ?_
  rintro e w1 ⟨rfl, hm, hb⟩
  have hB1 := hb
  have HM := Lib.hid hm
  clear hm hb
  obtain ⟨b, hbe⟩ : ∃ b, w.heap.size = b := ⟨_, rfl⟩
  rw [hbe] at HM hB1 ⊢
  go_wp2_with (fail)
  with_reducible refine (begin_any b b 9 0 0 0 _ HM.out (by decide) (by decide)).mono ?_
  rintro e w2 ⟨rfl, v, hm, ho, _⟩
  have hz2 : b < w2.heap.size := by have := hB1.size; have := ho.size; have := HM.out.blk.lt; omega
  have hB2 := hB1.trans (ho.below (B := b) (by simp) (by have := HM.out.blk.lt; omega))
  have HM2 : Hid (MemP b b v beginL 9 2 0 0 w2) := Lib.hid (by rw [show bump (bump 0) = 2 from by kernel_rfl] at hm; exact hm)
  clear hm ho HM hB1
  have hq : PairsAt (w2.alloc (.cells #[.int .i64 6, .int .i64 57] 46)) (w2.alloc (.cells #[.int .i64 6, .int .i64 57] 46)).heap.size (some ⟨w2.heap.size, 0, none⟩) [(6, 57)] := (pairs_row w2 46 [(6, 57)]).more (by simp)
  have hb := (Below.refl w2.heap.size w2).alloc (Nat.le_refl _) (.cells #[.int .i64 6, .int .i64 57] 46)
  have HM3 := Lib.hid (HM2.out.below hb)
  have hB3 := hB2.trans (hb.mono (by omega))
  have hz3 := hb.size
  have HQ := Lib.hid hq
  clear hq
  clear HM2 hB2 hb
  go_wp2_with (fail)
  generalize w2.alloc (.cells #[.int .i64 6, .int .i64 57] 46) = w3 at HQ HM3 hB3 hz3 ⊢
  with_reducible refine (newA_any (some ⟨w2.heap.size, 0, none⟩) 1 1 [(6, 57)] _ (by kernel_rfl) HQ.out (by decide)).mono ?_
  rintro e w4 ⟨bf, rfl, ha, hb⟩
  have HF := Lib.hid ha.within
  have HM4 := Lib.hid (HM3.out.below hb)
  have hB4 := hB3.trans (hb.mono (by omega))
  have hz4 := hb.size
  clear ha hb HM3 hB3 HQ
  have hq : PairsAt (w4.alloc (.cells #[.int .i64 6, .int .i64 58] 46)) (w4.alloc (.cells #[.int .i64 6, .int .i64 58] 46)).heap.size (some ⟨w4.heap.size, 0, none⟩) [(6, 58)] := (pairs_row w4 46 [(6, 58)]).more (by simp)
  have hb := (Below.refl w4.heap.size w4).alloc (Nat.le_refl _) (.cells #[.int .i64 6, .int .i64 58] 46)
  have HM5 := Lib.hid (HM4.out.below hb)
  have HF5 := Lib.hid (HF.out.below hb)
  have hB5 := hB4.trans (hb.mono (by omega))
  have hz5 := hb.size
  have HQ := Lib.hid hq
  clear hq
  clear HM4 hB4 hb HF
  go_wp2_with (fail)
  generalize w4.alloc (.cells #[.int .i64 6, .int .i64 58] 46) = w5 at HQ HM5 HF5 hB5 hz5 ⊢
  with_reducible refine (newA_any (some ⟨w4.heap.size, 0, none⟩) 1 1 [(6, 58)] _ (by kernel_rfl) HQ.out (by decide)).mono ?_
  rintro e w6 ⟨bg, rfl, ha, hb⟩
  have HG := Lib.hid ha.within
  have HM6 := Lib.hid (HM5.out.below hb)
  have HF6 := Lib.hid (HF5.out.below hb)
  have hB6 := hB5.trans (hb.mono (by omega))
  have hz6 := hb.size
  clear ha hb HM5 hB5 HF5 HQ
  go_wp2_with (fail)
  with_reducible refine (newA_any none 0 0 [] _ (by kernel_rfl) (PairsAt.nil _ _) (by decide)).mono ?_
  rintro e w7 ⟨bh, rfl, ha, hb⟩
  have HH := Lib.hid ha.within
  have HM7 := Lib.hid (HM6.out.below hb)
  have HF7 := Lib.hid (HF6.out.below hb)
  have HG7 := Lib.hid (HG.out.below hb)
  have hB7 := hB6.trans (hb.mono (by omega))
  have hz7 := hb.size
  clear ha hb HM6 hB6 HF6 HG
  go_wp2_with (fail)
  with_reducible refine (doneA_any _ _ _ _ HH.out).mono ?_
  rintro e w8 ⟨rfl, rfl⟩
  rw [show (AS.init []).done = true from rfl]
  go_wp2_with (fail)
  with_reducible refine (stepA_any _ bf b _ b v beginL 9 2 0 0 _ HF7.out HM7.out (AS.Inv.init (by simp [spotB])) (by decide) beginL_bd).mono ?_
  rintro e w8 ⟨rfl, ha, hm, ho⟩
  have es : (AS.init [(6, 57)]).step (rdC beginL) = ⟨[], some ⟨3, 6, 0, 57⟩, true, true⟩ := by kernel_rfl
  rw [es] at ha ⊢
  have HF8 := Lib.hid ha
  have HM8 : Hid (MemP b b v beginL 9 3 0 0 w8) := Lib.hid (by rw [show cntO (AS.init [(6, 57)]).acc 2 = 3 from by kernel_rfl, show oddO beginL (AS.init [(6, 57)]).acc 0 = 0 from by kernel_rfl] at hm; exact hm)
  have HG8 := Lib.hid (HG7.out.chg ho (fun x h1 h2 => by omega))
  have HH8 := Lib.hid (HH.out.chg ho (fun x h1 h2 => by omega))
  have hB8 := hB7.trans (ho.below (B := b) (fun x hx => by omega) (by omega))
  have hz8 := ho.size
  clear ha hm ho es HF7 HM7 HG7 HH hB7
  go_wp2_with (fail)
  with_reducible refine (stepA_any _ bg b _ b v beginL 9 3 0 0 _ HG8.out HM8.out (AS.Inv.init (by simp [spotB])) (by decide) beginL_bd).mono ?_
  rintro e w9 ⟨rfl, ha, hm, ho⟩
  have es : (AS.init [(6, 58)]).step (rdC beginL) = ⟨[(6, 58)], some ⟨3, 6, 0, 57⟩, false, true⟩ := by kernel_rfl
  rw [es] at ha ⊢
  have HG9 := Lib.hid ha
  have HM9 : Hid (MemP b b v beginL 9 4 0 0 w9) := Lib.hid (by rw [show cntO (AS.init [(6, 58)]).acc 3 = 4 from by kernel_rfl, show oddO beginL (AS.init [(6, 58)]).acc 0 = 0 from by kernel_rfl] at hm; exact hm)
  have HF9 := Lib.hid (HF8.out.chg ho (fun x h1 h2 => by omega))
  have HH9 := Lib.hid (HH8.out.chg ho (fun x h1 h2 => by omega))
  have hB9 := hB8.trans (ho.below (B := b) (fun x hx => by omega) (by omega))
  have hz9 := ho.size
  clear ha hm ho es HF8 HM8 HG8 HH8 hB8
  go_wp2_with (fail)
  with_reducible refine (stepA_any _ bh b _ b v beginL 9 4 0 0 _ HH9.out HM9.out (AS.Inv.init (by simp)) (by decide) beginL_bd).mono ?_
  rintro e w10 ⟨rfl, ha, hm, ho⟩
  have es : (AS.init []).step (rdC beginL) = ⟨[], none, true, true⟩ := by kernel_rfl
  rw [es] at ha ⊢
  have HH10 := Lib.hid ha
  have HM10 : Hid (MemP b b v beginL 9 4 0 0 w10) := Lib.hid hm
  have HF10 := Lib.hid (HF9.out.chg ho (fun x h1 h2 => by omega))
  have HG10 := Lib.hid (HG9.out.chg ho (fun x h1 h2 => by omega))
  have hB10 := hB9.trans (ho.below (B := b) (fun x hx => by omega) (by omega))
  clear ha hm ho es HF9 HM9 HG9 HH9 hB9 hz3 hz4 hz5 hz6 hz7 hz8 hz9 hz2
  go_wp2_with (fail)
  with_reducible refine (sameA_any _ _ _ _ HF10.out).mono ?_
  rintro e w11 ⟨rfl, rfl⟩
  go_wp2_with (fail)
  with_reducible refine (sameA_any _ _ _ _ HG10.out).mono ?_
  rintro e w11 ⟨rfl, rfl⟩
  go_wp2_with (fail)
  with_reducible refine (sameA_any _ _ _ _ HH10.out).mono ?_
  rintro e w11 ⟨rfl, rfl⟩
  go_wp2_with (fail)
  with_reducible refine (count_any _ _ _ _ _ _ _ _ _ HM10.out).mono ?_
  rintro e w11 ⟨rfl, rfl⟩
  go_wp2_with (fail)
  go_ret
  exact ⟨rfl, hbe ▸ hB10⟩
set_option maxRecDepth 100000 in
set_option maxHeartbeats 2000000 in
theorem againKnown_walk (w : World) : Calls Try.prog 7 #[] w fun e w' => e = .returned (.bool true) ∧ Below w.heap.size w w' := by
  go_enter Try.func7, Try.ntmps7
  go_wp2_with (fail)
  with_reducible refine (memNew_any 9 _ (by decide) (by decide)).mono ?_
  rintro e w1 ⟨rfl, hm, hb⟩
  have hB1 := hb
  have HM := Lib.hid hm
  clear hm hb
  obtain ⟨b, hbe⟩ : ∃ b, w.heap.size = b := ⟨_, rfl⟩
  rw [hbe] at HM hB1 ⊢
  go_wp2_with (fail)
  with_reducible refine (begin_any b b 9 0 0 0 _ HM.out (by decide) (by decide)).mono ?_
  rintro e w2 ⟨rfl, v, hm, ho, _⟩
  have hz2 : b < w2.heap.size := by have := hB1.size; have := ho.size; have := HM.out.blk.lt; omega
  have hB2 := hB1.trans (ho.below (B := b) (by simp) (by have := HM.out.blk.lt; omega))
  have HM2 : Hid (MemP b b v beginL 9 2 0 0 w2) := Lib.hid (by rw [show bump (bump 0) = 2 from by kernel_rfl] at hm; exact hm)
  clear hm ho HM hB1
  have hq : PairsAt (w2.alloc (.cells #[.int .i64 6, .int .i64 57, .int .i64 7, .int .i64 1, .int .i64 6, .int .i64 57] 46)) (w2.alloc (.cells #[.int .i64 6, .int .i64 57, .int .i64 7, .int .i64 1, .int .i64 6, .int .i64 57] 46)).heap.size (some ⟨w2.heap.size, 0, none⟩) kl18 := (pairs_row w2 46 kl18).more (by simp)
  have hb := (Below.refl w2.heap.size w2).alloc (Nat.le_refl _) (.cells #[.int .i64 6, .int .i64 57, .int .i64 7, .int .i64 1, .int .i64 6, .int .i64 57] 46)
  have HM3 := Lib.hid (HM2.out.below hb)
  have hB3 := hB2.trans (hb.mono (by omega))
  have hz3 := hb.size
  have HQ := Lib.hid hq
  clear hq
  clear HM2 hB2 hb
  go_wp2_with (fail)
  generalize w2.alloc (.cells #[.int .i64 6, .int .i64 57, .int .i64 7, .int .i64 1, .int .i64 6, .int .i64 57] 46) = w3 at HQ HM3 hB3 hz3 ⊢
  with_reducible refine (newA_any (some ⟨w2.heap.size, 0, none⟩) 3 3 kl18 _ (by kernel_rfl) HQ.out (by decide)).mono ?_
  rintro e w4 ⟨bf, rfl, ha, hb⟩
  have HF := Lib.hid ha
  have HM4 := Lib.hid (HM3.out.below hb)
  have hB4 := hB3.trans (hb.mono (by omega))
  have hz4 := hb.size
  clear ha hb HM3 hB3 HQ
  go_wp2_with (fail)
  with_reducible refine (stepA_any _ bf b _ b v beginL 9 2 0 0 _ HF.out HM4.out (AS.Inv.init (by simp [kl18, spotB])) (by decide) beginL_bd).mono ?_
  rintro e w5 ⟨rfl, ha, hm, ho⟩
  have es : (AS.init kl18).step (rdC beginL) = ⟨[(7, 1), (6, 57)], some ⟨0, 7, 0, 0⟩, false, false⟩ := by kernel_rfl
  rw [es] at ha ⊢
  have HF5 := Lib.hid ha
  have HM5 := Lib.hid hm
  have hB5 := hB4.trans (ho.below (B := b) (fun x hx => by omega) (by omega))
  have hz5 := ho.size
  clear ha hm ho es HF HM4 hB4
  go_wp2_with (fail)
  with_reducible refine (doneA_any _ _ _ _ HF5.out).mono ?_
  rintro e w6 ⟨rfl, rfl⟩
  go_wp2_with (fail)
  with_reducible refine (sameA_any _ _ _ _ HF5.out).mono ?_
  rintro e w6 ⟨rfl, rfl⟩
  go_wp2_with (fail)
  with_reducible refine (stepA_any _ bf b _ b v beginL 9 _ _ 0 _ HF5.out HM5.out ⟨by simp [spotB], .inr ⟨rfl, _, _, _, rfl, rfl, ⟨by decide, by decide, by decide, by decide, by decide, by decide, .inl rfl⟩, by decide⟩⟩ (by decide) beginL_bd).mono ?_
  rintro e w6 ⟨rfl, ha, hm, ho⟩
  have es : (AS.step (rdC beginL) ⟨[(7, 1), (6, 57)], some ⟨0, 7, 0, 0⟩, false, false⟩) = ⟨[(7, 1), (6, 57)], some ⟨3, 7, 0, 0⟩, false, true⟩ := by kernel_rfl
  rw [es] at ha ⊢
  have HF6 := Lib.hid ha
  have hB6 := hB5.trans (ho.below (B := b) (fun x hx => by omega) (by omega))
  have hz6 := ho.size
  clear ha hm ho es HF5 HM5 hB5
  go_wp2_with (fail)
  with_reducible refine (known18_any _).mono ?_
  rintro e w7 ⟨rfl, hb⟩
  have HF7 := Lib.hid (HF6.out.below hb)
  have hB7 := hB6.trans (hb.mono (by omega))
  clear hb HF6 hB6
  go_wp2_with (fail)
  with_reducible refine (doneA_any _ _ _ _ HF7.out).mono ?_
  rintro e w8 ⟨rfl, rfl⟩
  go_wp2_with (fail)
  with_reducible refine (sameA_any _ _ _ _ HF7.out).mono ?_
  rintro e w8 ⟨rfl, rfl⟩
  go_wp2_with (fail)
  go_ret
  exact ⟨rfl, hbe ▸ hB7⟩
end Go.Proofs.Ythmcakobpjnnmaa
