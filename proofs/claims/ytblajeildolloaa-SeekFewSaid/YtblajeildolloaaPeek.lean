/- The frame of peek. -/
import Derived.Test.YtblajeildolloaaRefW
import Derived.Test.YtblajeildolloaaOnly
import Derived.Test.YtblajeildolloaaStep
namespace Go.Proofs.Ytblajeildolloaa
set_option linter.unusedVariables false
set_option linter.unusedSimpArgs false
open Go.RowKit

def cntO : Option Int → Int → Int
  | none, c => c
  | some _, c => bump c
def oddO (C : List Int) : Option Int → Int → Int
  | none, o => o
  | some a, o => if 1 ≤ a ∧ a ≤ C.length then o else bump o
/-- The memory behind an access (none: there was no access). -/
theorem MemP.read {B b : Nat} {v : Value} {C : List Int} {size count odd ref : Int} {w : World} {a : Int} (h : MemP B b v C size (bump count) (if 1 ≤ a ∧ a ≤ C.length then odd else bump odd) ref w) : MemP B b v C size (cntO (some a) count) (oddO C (some a) odd) ref w := h
structure PS where
  next : Int
  cell : Int
  at_ : Int
  word : Int
def PS.init (slot : Int) : PS := ⟨0, slot, 0, 0⟩
def PS.step (R : Int → Int) (s : PS) : PS :=
  if s.next = 0 then (if wKind (R s.cell) = 5 then { s with at_ := wAt (R s.cell), next := 1, cell := wAt (R s.cell) + 4 } else { s with word := R s.cell, next := 3 })
  else if s.next = 1 then (if R s.cell = 1 then { s with next := 2, cell := s.at_ + 3 } else { s with next := 2, cell := s.at_ + 2 })
  else if s.next = 2 then { s with word := R s.cell, next := 3 }
  else s
def PS.acc (s : PS) : Option Int := if s.next = 3 then none else some s.cell
structure PS.Inv (s : PS) : Prop where
  c0 : -9223372036854775808 ≤ s.cell
  c1 : s.cell ≤ 9223372036854775807
  a0 : 0 ≤ s.at_
  a1 : s.at_ ≤ 65536
  x0 : -9223372036854775808 ≤ s.word
  x1 : s.word ≤ 9223372036854775807
  st : s.next = 0 ∨ s.next = 1 ∨ s.next = 2 ∨ s.next = 3
theorem PS.Inv.init {a : Int} (h0 : -9223372036854775808 ≤ a) (h1 : a ≤ 9223372036854775807) : (PS.init a).Inv := ⟨h0, h1, by simp [PS.init], by simp [PS.init], by simp [PS.init], by simp [PS.init], .inl rfl⟩
theorem PS.step0 {R : Int → Int} {s : PS} (h : s.next = 0) : s.step R = if wKind (R s.cell) = 5 then { s with at_ := wAt (R s.cell), next := 1, cell := wAt (R s.cell) + 4 } else { s with word := R s.cell, next := 3 } := if_pos h
theorem PS.step1 {R : Int → Int} {s : PS} (h : s.next = 1) : s.step R = if R s.cell = 1 then { s with next := 2, cell := s.at_ + 3 } else { s with next := 2, cell := s.at_ + 2 } := by
  unfold PS.step; rw [if_neg (by omega), if_pos h]
theorem PS.step2 {R : Int → Int} {s : PS} (h : s.next = 2) : s.step R = { s with word := R s.cell, next := 3 } := by
  unfold PS.step; rw [if_neg (by omega), if_neg (by omega), if_pos h]
theorem PS.step3 {R : Int → Int} {s : PS} (h : s.next = 3) : s.step R = s := by
  unfold PS.step; rw [if_neg (by omega), if_neg (by omega), if_neg (by omega)]
theorem PS.acc_some {s : PS} (h : s.next ≠ 3) : s.acc = some s.cell := if_neg h
theorem PS.acc_none {s : PS} (h : s.next = 3) : s.acc = none := if_pos h
theorem PS.Inv.step {s : PS} (h : s.Inv) {R : Int → Int} (hR : ∀ a, -9223372036854775808 ≤ R a ∧ R a ≤ 9223372036854775807) : (s.step R).Inv := by
  have b := wAt_bd (R s.cell)
  have r := hR s.cell
  have := h.a0
  have := h.a1
  rcases h.st with e | e | e | e
  · rw [PS.step0 e]
    split
    · exact ⟨by simp; omega, by simp; omega, b.1, b.2, h.x0, h.x1, .inr (.inl rfl)⟩
    · exact ⟨h.c0, h.c1, h.a0, h.a1, r.1, r.2, .inr (.inr (.inr rfl))⟩
  · rw [PS.step1 e]
    split
    · exact ⟨by simp; omega, by simp; omega, h.a0, h.a1, h.x0, h.x1, .inr (.inr (.inl rfl))⟩
    · exact ⟨by simp; omega, by simp; omega, h.a0, h.a1, h.x0, h.x1, .inr (.inr (.inl rfl))⟩
  · rw [PS.step2 e]
    exact ⟨h.c0, h.c1, h.a0, h.a1, r.1, r.2, .inr (.inr (.inr rfl))⟩
  · rw [PS.step3 e]; exact h

def PeekP (b : Nat) (s : PS) (w : World) : Prop := Blk w b 76 #[.int .i64 s.next, .int .i64 s.cell, .int .i64 s.at_, .int .i64 s.word]
theorem PeekP.blk {b : Nat} {s : PS} {w : World} (h : PeekP b s w) : Blk w b 76 #[.int .i64 s.next, .int .i64 s.cell, .int .i64 s.at_, .int .i64 s.word] := h
set_option maxHeartbeats 400000 in
theorem newPk_any (a : Int) (w : World) :
    Calls Try.prog 27 #[.int .i64 a] w fun e w' => e = .returned (.pointer (some ⟨w.heap.size, 0, none⟩)) ∧ PeekP w.heap.size (PS.init a) w' ∧ Below w.heap.size w w' ∧ w'.heap.size = w.heap.size + 1 := by
  have H : Hid (PeekP w.heap.size (PS.init a) (w.alloc (.cells #[.int .i64 0, .int .i64 a, .int .i64 0, .int .i64 0] 76))) := Lib.hid (Blk.new w _ _)
  go_enter Try.func27, Try.ntmps27
  go_wp2_with (fail)
  go_ret
  exact ⟨rfl, H.out, (Below.refl _ _).alloc (Nat.le_refl _) _, by simp⟩
section
variable (b : Nat) (s : PS) (w : World) (h : PeekP b s w)
include h
set_option maxHeartbeats 400000 in
theorem donePk_any : Calls Try.prog 54 #[.pointer (some ⟨b, 0, none⟩)] w fun e w' => e = .returned (.bool (s.next == 3)) ∧ w = w' := by
  have c0 : w.cell? ⟨b, 0, none⟩ = some (.int .i64 s.next) := h.blk.cell 0
  clear h
  go_enter Try.func54, Try.ntmps54
  go_wp2_with (fail)
  go_ret
  exact ⟨rfl, rfl⟩
set_option maxHeartbeats 400000 in
theorem wordPk_any : Calls Try.prog 33 #[.pointer (some ⟨b, 0, none⟩)] w fun e w' => e = .returned (.int .i64 s.word) ∧ w = w' := by
  have c3 : w.cell? ⟨b, 3, none⟩ = some (.int .i64 s.word) := h.blk.cell 3
  clear h
  go_enter Try.func33, Try.ntmps33
  go_wp2_with (fail)
  go_ret
  exact ⟨rfl, rfl⟩
set_option maxHeartbeats 400000 in
theorem endPk_any (x : Int) : Calls Try.prog 53 #[.pointer (some ⟨b, 0, none⟩), .int .i64 x] w fun e w' => e = .returned (.tuple #[]) ∧ PeekP b { s with word := x, next := 3 } w' ∧ Mv b none w w' := by
  have c0 : w.cell? ⟨b, 0, none⟩ = some (.int .i64 s.next) := h.blk.cell 0
  have c3 : w.cell? ⟨b, 3, none⟩ = some (.int .i64 s.word) := h.blk.cell 3
  have f0 := h.blk.frozen 0
  have f3 := h.blk.frozen 3
  have H : Hid (PeekP b { s with word := x, next := 3 } ((w.setCell ⟨b, 3, none⟩ (.int .i64 x)).setCell ⟨b, 0, none⟩ (.int .i64 3))) := Lib.hid ((h.blk.set_ 3 _).set_ 0 _)
  clear h
  go_enter Try.func53, Try.ntmps53
  go_wp2_with (fail)
  go_end0
  exact ⟨rfl, H.out, (Mv.set1 _ _ _ _).trans_ (Mv.set1 _ _ _ _)⟩
end
def PkPost (b bm : Nat) (s : PS) (B : Nat) (v : Value) (C : List Int) (size count odd ref : Int) (w : World) (e : Ending) (w' : World) : Prop :=
  e = .returned (.bool ((s.step (rdC C)).next == 3)) ∧ PeekP b (s.step (rdC C)) w' ∧ MemP B bm v C size (cntO s.acc count) (oddO C s.acc odd) ref w' ∧ Only [b, bm] w w'
set_option maxRecDepth 100000 in
set_option maxHeartbeats 1000000 in
theorem stepPk_any (b bm : Nat) (s : PS) (B : Nat) (v : Value) (C : List Int) (size count odd ref : Int) (w : World) (h : PeekP b s w) (hm : MemP B bm v C size count odd ref w) (hI : s.Inv) (hC : C.length ≤ 1000000) (hw : ∀ i, i < C.length → -9223372036854775808 ≤ keyAt C i ∧ keyAt C i ≤ 9223372036854775807) :
    Calls Try.prog 31 #[.pointer (some ⟨b, 0, none⟩), .pointer (some ⟨bm, 0, none⟩)] w (PkPost b bm s B v C size count odd ref w) := by
  have hne : b ≠ bm := h.blk.ne_ hm.blk (by decide)
  have hvb : v.ownBlock ≠ some b := own_blk_ne hm.own h.blk (by decide)
  have hR := rdC_bd hw
  have a0 := hI.a0
  have a1 := hI.a1
  have z0 := hI.c0
  have z1 := hI.c1
  by_cases h3 : s.next = 3
  · have hs := Lib.hid (PS.step3 (R := rdC C) h3)
    have HA := Lib.hid (PS.acc_none h3)
    have c0 : w.cell? ⟨b, 0, none⟩ = some (.int .i64 3) := by rw [← h3]; exact h.blk.cell 0
    have H := Lib.hid h
    have HM := Lib.hid hm
    clear h hm
    clear hI h3
    go_enter Try.func31, Try.ntmps31
    go_wp2_with (fail)
    with_reducible refine (donePk_any b s _ H.out).mono ?_
    rintro e w1 ⟨rfl, rfl⟩
    go_wp2_with (fail)
    go_ret
    unfold PkPost
    rw [hs.out, HA.out]
    exact ⟨rfl, H.out, HM.out, Only.refl _ _⟩
  · have HA := Lib.hid (PS.acc_some h3)
    have ho := hI.st
    by_cases h0 : s.next = 0
    · have hs := Lib.hid (PS.step0 (R := rdC C) h0)
      have c0 : w.cell? ⟨b, 0, none⟩ = some (.int .i64 0) := by rw [← h0]; exact h.blk.cell 0
      have c1 : w.cell? ⟨b, 1, none⟩ = some (.int .i64 s.cell) := h.blk.cell 1
      have H := Lib.hid h
      have HM := Lib.hid hm
      have H0 := Lib.hid h0
      clear h hm h0
      clear h3 hI ho
      go_enter Try.func31, Try.ntmps31
      go_wp2_with (fail)
      with_reducible refine (read_any B bm v C size count odd ref s.cell _ HM.out hC z0 z1).mono ?_
      rintro e w2 ⟨rfl, hm2, m2⟩
      have h2 : PeekP b s w2 := m2.blk H.out hne (by simp)
      have HM2 := Lib.hid hm2.read
      have O2 := Lib.hid (Only.of_mv (S := [b, bm]) m2 (by simp))
      clear hm2 m2 c0 c1
      have hr := hR s.cell
      obtain ⟨x, hx⟩ : ∃ x, rdC C s.cell = x := ⟨_, rfl⟩
      rw [hx] at hr ⊢
      have HX := Lib.hid hx
      clear hx
      by_cases hk : wKind x = 5
      · have ek : (wKind x != 5) = false := by simpa using hk
        have ew := wAt_bd x
        have HK := Lib.hid hk
        clear hk
        have c0 : w2.cell? ⟨b, 0, none⟩ = some (.int .i64 0) := by rw [← H0.out]; exact h2.blk.cell 0
        have c1 : w2.cell? ⟨b, 1, none⟩ = some (.int .i64 s.cell) := h2.blk.cell 1
        have c2 : w2.cell? ⟨b, 2, none⟩ = some (.int .i64 s.at_) := h2.blk.cell 2
        have f0 := h2.blk.frozen 0
        have f1 := h2.blk.frozen 1
        have f2 := h2.blk.frozen 2
        have M3 := Lib.hid (((Mv.set1 w2 b 2 (.int .i64 (wAt x))).trans_ (Mv.set1 _ b 0 (.int .i64 1))).trans_ (Mv.set1 _ b 1 (.int .i64 (wAt x + 4))))
        have h3 : PeekP b { s with at_ := wAt x, next := 1, cell := wAt x + 4 } (((w2.setCell ⟨b, 2, none⟩ (.int .i64 (wAt x))).setCell ⟨b, 0, none⟩ (.int .i64 1)).setCell ⟨b, 1, none⟩ (.int .i64 (wAt x + 4))) := ((h2.blk.set_ 2 _).set_ 0 _).set_ 1 _
        have H3 := Lib.hid h3
        clear h3
        clear h2
        go_wp2_with (fail)
        with_reducible refine (kind_any x _ hr.1 hr.2).mono ?_
        rintro e w3 ⟨rfl, rfl⟩
        go_wp2_with (fail)
        with_reducible refine (refAt_any x _ hr.1 hr.2).mono ?_
        rintro e w3 ⟨rfl, rfl⟩
        go_wp2_with (fail)
        with_reducible refine (donePk_any b _ _ H3.out).mono ?_
        rintro e w4 ⟨rfl, rfl⟩
        go_wp2_with (fail)
        go_ret
        unfold PkPost
        rw [hs.out, HX.out, HA.out, if_pos HK.out]
        exact ⟨rfl, H3.out, HM2.out.mv M3.out (fun e => hne e.symm) (by simp) hvb (by cases v.ownBlock <;> simp), O2.out.trans (Only.of_mv M3.out (by simp))⟩
      · have ek : (wKind x != 5) = true := by simpa using hk
        have HK := Lib.hid hk
        clear hk
        have c0 : w2.cell? ⟨b, 0, none⟩ = some (.int .i64 0) := by rw [← H0.out]; exact h2.blk.cell 0
        have H2 := Lib.hid h2
        clear h2
        go_wp2_with (fail)
        with_reducible refine (kind_any x _ hr.1 hr.2).mono ?_
        rintro e w3 ⟨rfl, rfl⟩
        go_wp2_with (fail)
        with_reducible refine (endPk_any b s _ H2.out x).mono ?_
        rintro e w3 ⟨rfl, h3, m3⟩
        have H3 := Lib.hid h3
        have M3 := Lib.hid m3
        clear h3 m3
        go_wp2_with (fail)
        with_reducible refine (donePk_any b _ _ H3.out).mono ?_
        rintro e w4 ⟨rfl, rfl⟩
        go_wp2_with (fail)
        go_ret
        unfold PkPost
        rw [hs.out, HX.out, HA.out, if_neg HK.out]
        exact ⟨rfl, H3.out, HM2.out.mv M3.out (fun e => hne e.symm) (by simp) hvb (by cases v.ownBlock <;> simp), O2.out.trans (Only.of_mv M3.out (by simp))⟩
    · by_cases h1 : s.next = 1
      · have hs := Lib.hid (PS.step1 (R := rdC C) h1)
        have c0 : w.cell? ⟨b, 0, none⟩ = some (.int .i64 1) := by rw [← h1]; exact h.blk.cell 0
        have c1 : w.cell? ⟨b, 1, none⟩ = some (.int .i64 s.cell) := h.blk.cell 1
        have f0 := h.blk.frozen 0
        have h4 : PeekP b { s with next := 2 } (w.setCell ⟨b, 0, none⟩ (.int .i64 2)) := h.blk.set_ 0 _
        have M1 := Lib.hid (Mv.set1 w b 0 (.int .i64 2))
        have HM := Lib.hid (hm.mv M1.out (fun e => hne e.symm) (by simp) hvb (by cases v.ownBlock <;> simp))
        have c1' : (w.setCell ⟨b, 0, none⟩ (.int .i64 2)).cell? ⟨b, 1, none⟩ = some (.int .i64 s.cell) := h4.blk.cell 1
        have H := Lib.hid h
        have H4 := Lib.hid h4
        clear h h4
        clear h3 hI ho hm h0 h1 c1
        go_enter Try.func31, Try.ntmps31
        go_wp2_with (fail)
        with_reducible refine (read_any B bm v C size count odd ref s.cell _ HM.out hC z0 z1).mono ?_
        rintro e w2 ⟨rfl, hm2, m2⟩
        have h2 : PeekP b { s with next := 2 } w2 := m2.blk H4.out hne (by simp)
        have HM2 := Lib.hid hm2.read
        have O2 := Lib.hid ((Only.of_mv (S := [b, bm]) M1.out (by simp)).trans (Only.of_mv (S := [b, bm]) m2 (by simp)))
        clear hm2 m2 c0 c1'
        have hr := hR s.cell
        obtain ⟨x, hx⟩ : ∃ x, rdC C s.cell = x := ⟨_, rfl⟩
        rw [hx] at hr ⊢
        have HX := Lib.hid hx
        clear hx
        have c1 : w2.cell? ⟨b, 1, none⟩ = some (.int .i64 s.cell) := h2.blk.cell 1
        have c2 : w2.cell? ⟨b, 2, none⟩ = some (.int .i64 s.at_) := h2.blk.cell 2
        have f1 := h2.blk.frozen 1
        by_cases hk : x = 1
        · have ek : (x == 1) = true := by simpa using hk
          have HK := Lib.hid hk
          clear hk
          have M3 := Lib.hid (Mv.set1 w2 b 1 (.int .i64 (s.at_ + 3)))
          have h5 : PeekP b { s with next := 2, cell := s.at_ + 3 } (w2.setCell ⟨b, 1, none⟩ (.int .i64 (s.at_ + 3))) := h2.blk.set_ 1 _
          have H3 := Lib.hid h5
          clear h5
          clear h2
          go_wp2_with (fail)
          with_reducible refine (donePk_any b _ _ H3.out).mono ?_
          rintro e w4 ⟨rfl, rfl⟩
          go_wp2_with (fail)
          go_ret
          unfold PkPost
          rw [hs.out, HX.out, HA.out, if_pos HK.out]
          exact ⟨rfl, H3.out, HM2.out.mv M3.out (fun e => hne e.symm) (by simp) hvb (by cases v.ownBlock <;> simp), O2.out.trans (Only.of_mv M3.out (by simp))⟩
        · have ek : (x == 1) = false := by simpa using hk
          have HK := Lib.hid hk
          clear hk
          have M3 := Lib.hid (Mv.set1 w2 b 1 (.int .i64 (s.at_ + 2)))
          have h5 : PeekP b { s with next := 2, cell := s.at_ + 2 } (w2.setCell ⟨b, 1, none⟩ (.int .i64 (s.at_ + 2))) := h2.blk.set_ 1 _
          have H3 := Lib.hid h5
          clear h5
          clear h2
          go_wp2_with (fail)
          with_reducible refine (donePk_any b _ _ H3.out).mono ?_
          rintro e w4 ⟨rfl, rfl⟩
          go_wp2_with (fail)
          go_ret
          unfold PkPost
          rw [hs.out, HX.out, HA.out, if_neg HK.out]
          exact ⟨rfl, H3.out, HM2.out.mv M3.out (fun e => hne e.symm) (by simp) hvb (by cases v.ownBlock <;> simp), O2.out.trans (Only.of_mv M3.out (by simp))⟩
      · have h2 : s.next = 2 := by omega
        have hs := Lib.hid (PS.step2 (R := rdC C) h2)
        have c0 : w.cell? ⟨b, 0, none⟩ = some (.int .i64 2) := by rw [← h2]; exact h.blk.cell 0
        have c1 : w.cell? ⟨b, 1, none⟩ = some (.int .i64 s.cell) := h.blk.cell 1
        have H := Lib.hid h
        have HM := Lib.hid hm
        clear h hm
        clear h3 hI ho h0 h1 h2
        go_enter Try.func31, Try.ntmps31
        go_wp2_with (fail)
        with_reducible refine (read_any B bm v C size count odd ref s.cell _ HM.out hC z0 z1).mono ?_
        rintro e w2 ⟨rfl, hm2, m2⟩
        have h2 : PeekP b s w2 := m2.blk H.out hne (by simp)
        have HM2 := Lib.hid hm2.read
        have O2 := Lib.hid (Only.of_mv (S := [b, bm]) m2 (by simp))
        have H2 := Lib.hid h2
        clear h2
        clear hm2 m2 c0 c1
        go_wp2_with (fail)
        with_reducible refine (endPk_any b s _ H2.out _).mono ?_
        rintro e w3 ⟨rfl, h3, m3⟩
        have H3 := Lib.hid h3
        have M3 := Lib.hid m3
        clear h3 m3
        go_wp2_with (fail)
        with_reducible refine (donePk_any b _ _ H3.out).mono ?_
        rintro e w4 ⟨rfl, rfl⟩
        go_wp2_with (fail)
        go_ret
        unfold PkPost
        rw [hs.out, HA.out]
        exact ⟨rfl, H3.out, HM2.out.mv M3.out (fun e => hne e.symm) (by simp) hvb (by cases v.ownBlock <;> simp), O2.out.trans (Only.of_mv M3.out (by simp))⟩
end Go.Proofs.Ytblajeildolloaa
