/- ordinatelaw15.at: an Inner with these keys, in a memory of its own. -/
import Derived.Test.YthmcakobpjnnmaaBegin
namespace Go.Proofs.Ythmcakobpjnnmaa
set_option linter.unusedVariables false
set_option linter.unusedSimpArgs false
open Go.RowKit

theorem bump_eq {c : Int} (h0 : 0 ≤ c) (h1 : c ≤ 1000000000) : bump c = c + 1 := by unfold bump wrap64; omega
def fillA (m k : Nat) : Array Value := ((List.range m).map fun x => Value.int .i64 (if x < k then 57 else 0)).toArray
theorem fillA_made (m : Nat) : madeCells #[Value.int .i64 0] m = fillA m 0 := by
  apply Array.ext
  · simp [fillA, madeCells]
  · intro i h1 h2
    simp [fillA, madeCells, Nat.mod_one]
theorem fillA_at {m k x : Nat} (h : x < m) : (fillA m k)[x]? = some (.int .i64 (if x < k then 57 else 0)) := by simp [fillA, h]
theorem fillA_set {m k : Nat} (h : k < m) : (fillA m k).setIfInBounds k (.int .i64 57) = fillA m (k + 1) := by
  apply Array.ext
  · simp [fillA]
  · intro i h1 h2
    have hi : i < m := by simpa [fillA] using h2
    by_cases e : k = i
    · subst e; simp [fillA, h]
    · rw [Array.getElem_setIfInBounds_ne (by simpa [fillA] using hi) e]
      have : (i < k ↔ i < k + 1) := by omega
      simp [fillA, this]
theorem fillA_ints {w : World} {g m : Nat} {t : TypeId} (h : Blk w g t (fillA m m)) : IntsAt w (g + 1) (some ⟨g, 0, none⟩) (List.replicate m 57) := by
  refine ⟨by simp, fun _ => ⟨_, rfl, Nat.lt_succ_self _, fun j u hu => ?_⟩⟩
  have e : (⟨g, 0, none⟩ : Addr).add j = ⟨g, j, none⟩ := by unfold Addr.add; split <;> simp_all
  rw [e, h.cell j]
  rw [List.map_replicate, List.getElem?_replicate] at hu
  split at hu
  · rename_i hj
    rw [fillA_at hj, if_pos hj]
    exact hu
  · cases hu
def innerL (q : List Int) : List Int := [(q.length : Int) + 1, 0, 0, 0, 0] ++ q ++ List.replicate (q.length + 1) 57
def atL (q : List Int) : List Int := beginL ++ innerL q
theorem innerL_len (q : List Int) : (innerL q).length = 2 * q.length + 6 := by simp [innerL]; omega
def AtPost (q : List Int) (w : World) (e : Ending) (w' : World) : Prop := ∃ v, e = .returned (.tuple #[.pointer (some ⟨w.heap.size, 0, none⟩), .int .i64 8]) ∧ MemP w.heap.size w.heap.size v (atL q) 2000 3 0 0 w' ∧ Below w.heap.size w w'
def FillRel (m : Nat) (w : World) (i : Value) (wr : World) : Prop := ∃ k : Nat, k ≤ m ∧ i = .int .i64 k ∧ Blk wr w.heap.size 2 (fillA m k) ∧ Below w.heap.size w wr
set_option maxRecDepth 100000 in
set_option maxHeartbeats 2000000 in
theorem at_any (A : Option Addr) (c N : Nat) (q : List Int) (w : World) (hN : N = q.length) (hq : IntsAt w w.heap.size A q) (hl : q.length ≤ 80) :
    Calls Try.prog 11 #[.slice A N c] w (AtPost q w) := by
  subst hN
  obtain ⟨i0, hi0, hz0, hz1, hz2⟩ := info_parts info_int64m
  have hmk : ∀ u : World, (Instr.makeSlice 25 (.int .i64 ((q.length : Int) + 1)) (.int .i64 ((q.length : Int) + 1))).run Try.prog u = .ok (.slice (some ⟨u.heap.size, 0, none⟩) (q.length + 1) (q.length + 1)) (u.alloc (.cells (fillA (q.length + 1) 0) 2)) := by
    intro u
    have := run_make (P := Try.prog) u 25 2 i0 (.int .i64 0) Try.underlying25 hi0 hz0 .i64 .i64 ((q.length : Int) + 1) ((q.length : Int) + 1) (by omega) (by omega) (by rw [hz2]; omega) (by omega)
    have e : ((q.length : Int) + 1).toNat = q.length + 1 := by omega
    rw [e, hz1, Nat.mul_one] at this
    have e2 : (Value.int .i64 0).cells = #[Value.int .i64 0] := rfl
    rw [e2, fillA_made] at this
    exact this
  have HQ := Lib.hid hq
  clear hq
  go_enter Try.func11, Try.ntmps11
  go_wp2_with (fail)
  with_reducible refine (memNew_any 2000 _ (by omega) (by omega)).mono ?_
  rintro e w1 ⟨rfl, h1, hB1⟩
  have H1 := Lib.hid h1
  have hz1' : w.heap.size < w1.heap.size := h1.blk.lt
  clear h1
  go_wp2_with (fail)
  with_reducible refine (begin_any _ _ 2000 0 0 0 _ H1.out (by omega) (by omega)).mono ?_
  rintro e w2 ⟨rfl, v2, h2, o2, g2⟩
  have H2 := Lib.hid h2
  have hB2 := hB1.trans (o2.below (by simp) (by omega))
  have G2 := Lib.hid g2
  have hz2' : w.heap.size < w2.heap.size := h2.blk.lt
  clear h2 o2 g2 H1 hB1
  go_wp2_with (fail)
  go_loopw [7] (fun i wr => FillRel (q.length + 1) w2 i wr) (fun i _ => q.length + 1 - (intOf i).toNat)
  case atStart => unfold FillRel; exact ⟨0, by omega, rfl, Blk.new w2 _ _, (Below.refl _ _).alloc (Nat.le_refl _) _⟩
  case round =>
    obtain ⟨k, k1, rfl, hb, hB⟩ := hrel
    have hsz := hB.size
    by_cases hlt : k < q.length + 1
    · have hc : wr.cell? ⟨w2.heap.size, k, none⟩ = some (.int .i64 0) := by rw [hb.cell k, fillA_at hlt]; simp
      have hf := hb.frozen k
      have hb2 := hb.set_ k (.int .i64 57)
      rw [fillA_set hlt] at hb2
      have HB := Lib.hid hb2
      have hB3 : Below w2.heap.size w2 (wr.setCell ⟨w2.heap.size, k, none⟩ (.int .i64 57)) := hB.setCell (p := ⟨w2.heap.size, k, none⟩) (by simp) _
      clear hb hb2
      go_wp2_with (fail)
      go_roundw
      case rel => unfold FillRel; exact ⟨k + 1, by omega, by go_num, HB.out, hB3⟩
      case measure => simp [intOf]; omega
    · have ek : k = q.length + 1 := by omega
      subst ek
      have hI := (fillA_ints hb).more (show w2.heap.size + 1 ≤ wr.heap.size from hb.lt)
      have HI := Lib.hid hI
      have HM := Lib.hid (H2.out.below hB)
      have hB3 := hB2.trans (hB.mono (by omega))
      have HQ3 := Lib.hid ((HQ.out.below hB3).more hB3.size)
      clear hb hI H2 hmk
      go_wp2_with (fail)
      with_reducible refine (innerW_any 0 A c q _ _ (List.replicate (q.length + 1) 57) q.length (q.length + 1) _ rfl (by simp) HQ3.out HI.out (by simp) (by omega)).mono ?_
      rintro e w4 ⟨v4, rfl, hO, hb4⟩
      have hO4 : w4.ownsRow wr.heap.size 2 1 v4 (innerL q).length ((innerL q).map (Value.int .i64)) := by
        have e : [((List.replicate (q.length + 1) (57 : Int)).length : Int), 0, 0, 0, 0] ++ q ++ List.replicate (q.length + 1) 57 = innerL q := by simp [innerL]
        rw [e] at hO
        exact hO
      have hlen := innerL_len q
      have HLEN := Lib.hid hlen
      obtain ⟨A4, c4, rfl⟩ := own_shape hO4
      have hA4 : ∀ ad, A4 = some ad → ad.block ≠ w.heap.size := fun ad ha => by
        subst ha
        have := (hO4.lt ad.block rfl).1
        omega
      have HM4 := Lib.hid (HM.out.below hb4)
      have HQ4 : Hid (IntsAt w4 w4.heap.size A4 (innerL q)) := Lib.hid (Reads.of_own hO4)
      have hB4 := hB3.trans (hb4.mono (by omega))
      have hlo : 0 < (innerL q).length := by omega
      have hhi : (innerL q).length ≤ 166 := by omega
      clear hO hb4 hO4 hlen HM HI HQ3
      generalize hLq : (innerL q).length = nL at hlo hhi HLEN ⊢
      have HLq := Lib.hid hLq
      clear hLq
      go_wp2_with (fail)
      with_reducible refine (make_ok _ _ v2 beginL 2000 _ 0 0 _ HM4.out (by simp [beginL]) (by omega) A4 c4 (innerL q) nL HLq.out.symm HQ4.out hA4 (by rw [HLq.out]; exact hlo) (by rw [HLq.out]; simp [beginL]; omega)).mono ?_
      rintro e w5 ⟨rfl, v5, h5, m5, _⟩
      have hB5 := hB4.trans (m5.below (Nat.le_refl _) (by have := hB4.size; omega) (fun g hg => by have := G2.out g hg; omega))
      have H5 := Lib.hid h5
      clear h5 m5 HM4 HQ4
      go_wp2_with (fail)
      go_ret2
      have h5 := H5.out
      rw [bump_eq (c := 0) (by omega) (by omega), bump_eq (c := 0 + 1) (by omega) (by omega), bump_eq (c := 0 + 1 + 1) (by omega) (by omega)] at h5
      exact ⟨v5, rfl, h5, hB5⟩
end Go.Proofs.Ythmcakobpjnnmaa
