/- The stack of a walk: Push. -/
import Derived.Test.YtblajeildolloaaGreatLevels
import Derived.Deep.RegionLaw
namespace Go.Proofs.YtblajeildolloaaGreat
set_option linter.unusedVariables false
set_option linter.unusedSimpArgs false
open Go.RowKit

def PushPost (F : Nat → Prop) (b o : Nat) (T : TypeId) (cs : Array Value) (lv : Value) (x : Int × Int × Int) (L : List (Int × Int × Int)) (w : World) (e : Ending) (w' : World) : Prop :=
  e = .returned (.tuple #[]) ∧ ∃ lv', Blk w' b T (cs.setIfInBounds o lv') ∧ LvP (fun y => F y ∨ w.heap.size ≤ y) lv' (x :: L) w' ∧ Chg (fun y => y = b ∨ lv.ownBlock = some y) w w'
set_option maxRecDepth 100000 in
set_option maxHeartbeats 1000000 in
theorem pushL_any (F : Nat → Prop) (b o : Nat) (T : TypeId) (cs : Array Value) (lv : Value) (n d i : Int) (L : List (Int × Int × Int)) (w : World) (hb : Blk w b T cs) (hT : 184 ≠ T) (ho : cs[o]? = some lv) (h : LvP F lv L w) (hl : L.length ≤ 1000000) :
    Calls Tryz.prog 128 #[.pointer (some ⟨b, o, none⟩), .agg #[.int .i64 n, .int .i64 d, .int .i64 i]] w (PushPost F b o T cs lv (n, d, i) L w) := by
  obtain ⟨i0, hi0, hz0, hz1, hz2⟩ := info_parts info_level
  have ha := (Below.refl w.heap.size w).alloc (Nat.le_refl _) (.cells #[.int .i64 n, .int .i64 d, .int .i64 i] 184)
  have c9 : (w.alloc (.cells #[.int .i64 n, .int .i64 d, .int .i64 i] 184)).cell? ⟨b, o, none⟩ = some lv := ((hb.below ha hb.lt).cell o).trans ho
  have f9 : (w.alloc (.cells #[.int .i64 n, .int .i64 d, .int .i64 i] 184)).frozen? ⟨b, o, none⟩ = false := (hb.below ha hb.lt).frozen o
  have HX := Lib.hid (Blk.new w 184 #[.int .i64 n, .int .i64 d, .int .i64 i])
  have HL := Lib.hid (show LvP F lv L (w.alloc (.cells #[.int .i64 n, .int .i64 d, .int .i64 i] 184)) from ⟨own_below h.1 ha, h.2⟩)
  have HB := Lib.hid (hb.below ha hb.lt)
  have HC : Hid (Chg (fun y => y = b ∨ lv.ownBlock = some y) w (w.alloc (.cells #[.int .i64 n, .int .i64 d, .int .i64 i] 184))) := Lib.hid (Chg.of_below ha)
  have hbl := hb.lt
  have hzs : (w.alloc (.cells #[.int .i64 n, .int .i64 d, .int .i64 i] 184)).heap.size = w.heap.size + 1 := by simp
  have HZ := Lib.hid hzs
  have HT := Lib.hid hT
  have HO := Lib.hid ho
  have HG0 := Lib.hid (own_lt h.1)
  have hsl : lv = lv := rfl
  obtain ⟨A, c, rfl⟩ := own_shape h.1
  clear ha hb h ho hzs hT hsl
  go_enter Tryz.func128, Tryz.ntmps128
  go_wp2_with (fail)
  generalize w.alloc (.cells #[.int .i64 n, .int .i64 d, .int .i64 i] 184) = w1 at c9 f9 HX HL HB HC HZ ⊢
  have x0 : w1.cell? ⟨w.heap.size, 0, none⟩ = some (.int .i64 n) := HX.out.cell 0
  have x1 : w1.cell? ⟨w.heap.size, 1, none⟩ = some (.int .i64 d) := HX.out.cell 1
  have x2 : w1.cell? ⟨w.heap.size, 2, none⟩ = some (.int .i64 i) := HX.out.cell 2
  have n1 := World.new_ne w1 ⟨b, o, none⟩ c9
  have n2 := World.new_ne w1 _ x0
  have hbl1 := HB.out.lt
  have HAl := Lib.hid ((Below.refl w1.heap.size w1).alloc (Nat.le_refl _) (.cells #[.int .i64 n, .int .i64 d, .int .i64 i] 184))
  have HLd : Hid ((w1.alloc (.cells #[.int .i64 n, .int .i64 d, .int .i64 i] 184)).drew.ownsRow 0 184 3 (.slice A L.length c) L.length (cellsL L.reverse)) := Lib.hid (own_below (own_below HL.out.1 HAl.out) (drawn_bl (Drawn.of _ 1) _))
  have HAd : Hid (Below w1.heap.size w1 (w1.alloc (.cells #[.int .i64 n, .int .i64 d, .int .i64 i] 184)).drew) := Lib.hid (HAl.out.trans (drawn_bl (Drawn.of _ 1) _))
  have HRd : Hid (∀ (j : Nat) (u : Value), ([.int .i64 n, .int .i64 d, .int .i64 i] : List Value)[j]? = some u → (w1.alloc (.cells #[.int .i64 n, .int .i64 d, .int .i64 i] 184)).drew.cell? ((⟨w1.heap.size, 0, none⟩ : Addr).add j) = some u) := Lib.hid (fun j u hu => by
    have e : (⟨w1.heap.size, 0, none⟩ : Addr).add j = ⟨w1.heap.size, j, none⟩ := by unfold Addr.add; split <;> simp_all
    rw [e]
    have := (Blk.new w1 184 #[.int .i64 n, .int .i64 d, .int .i64 i]).cell j
    exact this.trans (by simpa using hu))
  have F5 : Hid (∀ w5 : World, (w1.alloc (.cells #[.int .i64 n, .int .i64 d, .int .i64 i] 184)).drew.grownBy w5 (Value.slice A L.length c).ownBlock → Blk w5 b T cs ∧ Blk w5 w.heap.size 184 #[.int .i64 n, .int .i64 d, .int .i64 i] ∧ Chg (fun y => (Value.slice A L.length c).ownBlock = some y) w1 w5) := Lib.hid (fun w5 hg5 => by
    have hc := (Chg.of_below (F := fun y => (Value.slice A L.length c).ownBlock = some y) HAd.out).trans (Chg.of_grown hg5)
    exact ⟨hc.blk HB.out (fun e => own_blk_ne HL.out.1 HB.out HT.out e), hc.blk HX.out (fun e => absurd (HG0.out _ e) (Nat.lt_irrefl _)), hc⟩)
  go_region_law (first | (refine step_append_lies _ (by rfl) _ _ _ (by rfl) 0 184 i0 _ 3 24 Tryz.underlying177 hi0 hz0 hz1 hz2 rfl (by omega) (.slice A L.length c) L.length (cellsL L.reverse) (by rfl) HLd.out ⟨w1.heap.size, 0, none⟩ 1 1 [.int .i64 n, .int .i64 d, .int .i64 i] (by rfl) (by rfl) HRd.out (by simp [Value.oneCell']) (by omega) (by unfold maxLen; omega) (by omega) (by omega) (w1.heap.size + 1) (by simp) ?_; intro gg cap w5 hO5 hg5 hat hlt5; have K5 := Lib.hid (F5.out w5 hg5); have HO5 := Lib.hid hO5; have HV5 := Lib.hid hat; have f5 := K5.out.1.frozen o; have c5 := (K5.out.1.cell o).trans HO.out; clear hO5 hg5 hat hlt5))
  all_goals
    have hLv : LvP (fun y => F y ∨ w.heap.size ≤ y) (.slice (some ⟨gg, 0, none⟩) (L.length + 1) cap) ((n, d, i) :: L) (w5.setCell ⟨b, o, none⟩ (.slice (some ⟨gg, 0, none⟩) (L.length + 1) cap)) := by
      have hO := HO5.out
      refine ⟨?_, fun g hg => ?_⟩
      · have h1 : w5.ownsRow 0 184 3 (.slice (some ⟨gg, 0, none⟩) (L.length + 1) cap) ((n, d, i) :: L).length (cellsL ((n, d, i) :: L).reverse) := by
          rw [cellsL_top]; exact hO
        exact ownsRow_setCell_other h1 (a := ⟨b, o, none⟩) (fun e => own_blk_ne hO K5.out.1 HT.out (by simpa using e)) _
      · have hgg : gg = g := by simpa [Value.ownBlock] using hg
        subst hgg
        rcases HV5.out with e | e
        · exact .inl (HL.out.2 gg e)
        · exact .inr (by have := HZ.out; omega)
    have hCf : Chg (fun y => y = b ∨ (Value.slice A L.length c).ownBlock = some y) w (w5.setCell ⟨b, o, none⟩ (.slice (some ⟨gg, 0, none⟩) (L.length + 1) cap)) := HC.out.trans ((K5.out.2.2.mono (fun y hy => .inr hy)).trans (Chg.of_mv (Mv.set1 _ b _ _) (.inl rfl)))
    have HBf := Lib.hid (K5.out.1.set_ o (.slice (some ⟨gg, 0, none⟩) (L.length + 1) cap))
    have HLv := Lib.hid hLv
    have HCf := Lib.hid hCf
    clear hLv hCf
    go_end0
    exact ⟨rfl, _, HBf.out, HLv.out, HCf.out⟩
end Go.Proofs.YtblajeildolloaaGreat
