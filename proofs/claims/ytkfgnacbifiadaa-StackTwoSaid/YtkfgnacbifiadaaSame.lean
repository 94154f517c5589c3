/- same. -/
import Derived.RangeFuncWrites
import Derived.StillTailTactics
import Derived.IntWalk
import Derived.Test.YtkfgnacbifiadaaAll
import Derived.Test.YtkfgnacbifiadaaStill
namespace Go.Proofs.Ytkfgnacbifiadaa
set_option linter.unusedVariables false
set_option linter.unusedSimpArgs false
open Go.RowKit Go.Shelf
attribute [local go_sem] Oper.semAt_some

def IntsRd (w : World) (B : Nat) (A : Option Addr) (q : List Int) : Prop := Reads w B 1 A q.length (q.map (Value.int .i64))

def Fits (L pre : List Int) : Prop := pre = L.reverse.take pre.length
theorem Fits.nil (L : List Int) : Fits L [] := rfl
theorem Fits.of_take {L : List Int} {k : Nat} (h : k ≤ L.length) : Fits L (L.reverse.take k) := by
  unfold Fits; rw [List.length_take, List.length_reverse, Nat.min_eq_left h]
theorem Fits.step {L pre : List Int} (h : Fits L pre) {m : Nat} (hm : L.length - pre.length = m + 1) : L.reverse.take (pre.length + 1) = pre ++ [L[m]?.getD 0] := by
  have := rev_take L (m := m) (by omega)
  have e1 : L.length - m = pre.length + 1 := by omega
  have e2 : L.length - (m + 1) = pre.length := by omega
  rw [e1, e2, ← h] at this
  exact this
theorem Fits.go {L pre : List Int} (h : Fits L pre) {m : Nat} (hm : L.length - pre.length = m + 1) : Fits L (pre ++ [L[m]?.getD 0]) := by
  unfold Fits
  rw [List.length_append, List.length_singleton, h.step hm]
theorem Fits.no {L pre : List Int} (h : Fits L pre) {m : Nat} (hm : L.length - pre.length = m + 1) {x : Int} (hx : x ≠ L[m]?.getD 0) : ¬ Fits L (pre ++ [x]) := by
  unfold Fits
  rw [List.length_append, List.length_singleton, h.step hm]
  intro e
  have := List.append_cancel_left e
  simp at this
  exact hx this

set_option maxRecDepth 100000 in
set_option maxHeartbeats 3000000 in
theorem same_any (base b : Nat) (v : Value) (L : List Int) (A : Option Addr) (c : Nat) (w : World) (hS : StI base b v L w) (hq : IntsRd w w.heap.size A L) (hl : L.length ≤ 1000) :
    Calls Try.prog 38 #[.pointer (some ⟨b, 0, none⟩), .slice A L.length c] w fun e W' => e = .returned (.bool true) ∧ Below w.heap.size w W' := by
  refine (callsIn_wide (n := 3)).1 ?_
  refine callsIn_of_wp_marks Try.func38 rfl trivial ?_ rfl
  simp only [Try.ntmps38, List.size_toArray, List.length_cons, List.length_nil, Nat.reduceAdd, Nat.reduceSub, Array.replicate_succ, Array.replicate_zero, List.push_toArray, List.append_toArray, List.nil_append, List.cons_append]
  gi_wp2_with (refine ⟨trivial, ?_⟩; gi_at_call 40; refine (allI_in _ _ trivial rfl _ _).mono ?_; rintro e w' ⟨rfl, rfl⟩)
  have hbl := hS.blk.lt
  have b1 := Boxed.new w 48 (.slice A L.length c)
  have b2 := Boxed.new (w.alloc (.cells #[.slice A L.length c] 48)) 4 (.bool false)
  have b3 := Boxed.new ((w.alloc (.cells #[.slice A L.length c] 48)).alloc (.cells #[.bool false] 4)) 3 (.int .i64 L.length)
  have b4 := Boxed.new (((w.alloc (.cells #[.slice A L.length c] 48)).alloc (.cells #[.bool false] 4)).alloc (.cells #[.int .i64 L.length] 3)) 49 (.pointer (some ⟨b, 0, none⟩))
  simp only [World.size_alloc] at b2 b3 b4
  have hB0 : Below w.heap.size w ((((w.alloc (.cells #[.slice A L.length c] 48)).alloc (.cells #[.bool false] 4)).alloc (.cells #[.int .i64 L.length] 3)).alloc (.cells #[.pointer (some ⟨b, 0, none⟩)] 49)) := ((((Below.refl _ w).alloc (Nat.le_refl _) _).alloc (by simp) _).alloc (by simp; omega) _).alloc (by simp; omega) _
  have hrl := fun g (h : v.ownBlock = some g) => (hS.own.lt g h).2
  have hS0 := hS.below hB0 (Nat.le_refl _)
  refine wpIn_rangeFunc_ownG rfl (by omega) (gf := 46) (lb := #[.pointer (some ⟨w.heap.size + 1 + 1 + 1, 0, none⟩)]) rfl trivial (enters_of Try.func46 (by kernel_rfl) rfl)
    (allI_stops Fence.wide _ trivial rfl (by omega) (w.heap.size + 1 + 1 + 1) base b v L hl _ (by simp) b4.cell hS0) Kp3.trans (Kp3.b (by simp) (by simp; omega) (fun g h => by have := hrl g h; simp; omega)) (Below.refl _ _) (fun _ => rfl)
    (fun pre W => (Fits L pre ∧ W.cell? ⟨w.heap.size + 1 + 1, 0, none⟩ = some (.int .i64 ((L.length - pre.length : Nat) : Int)) ∧ W.frozen? ⟨w.heap.size + 1 + 1, 0, none⟩ = false ∧ W.cell? ⟨w.heap.size + 1, 0, none⟩ = some (.bool false) ∧ W.frozen? ⟨w.heap.size + 1, 0, none⟩ = false ∧ W.cell? ⟨w.heap.size, 0, none⟩ = some (.slice A L.length c)) ∧ Below w.heap.size w W)
    (fun _ pre _ => ¬ Fits L pre)
    (OwnFrom.and (Own.from (fun s A' B' row hs hg hr => ⟨hs.1, cell_kept hs.2.1 hg hr, (frozen_kept hs.2.1 hg hr).trans hs.2.2.1, cell_kept hs.2.2.2.1 hg hr, (frozen_kept hs.2.2.2.1 hg hr).trans hs.2.2.2.2.1, cell_kept hs.2.2.2.2.2 hg hr⟩) _) (ownFrom_below (Nat.le_refl _) (by simp; omega)))
    (fun _ => Own.from (fun s A' B' row hs hg hr => hs) _)
    ⟨⟨Fits.nil L, by simpa using (b3.alloc _).cell, (b3.alloc _).frozen, ((b2.alloc _).alloc _).cell, ((b2.alloc _).alloc _).frozen, (((b1.alloc _).alloc _).alloc _).cell⟩, hB0⟩
    (fun x => { tmps := #[.pointer (some ⟨b, 0, none⟩), .slice A L.length c, undef, .pointer (some ⟨w.heap.size, 0, none⟩), .pointer (some ⟨w.heap.size + 1, 0, none⟩), .pointer (some ⟨w.heap.size + 1 + 1, 0, none⟩), .int .i64 x, undef, undef, .slice A L.length c, .int .i64 L.length, .pointer (some ⟨b, 0, none⟩), .func (.func 46) #[] #[.pointer (some ⟨w.heap.size + 1 + 1 + 1, 0, none⟩)], .int .i64 x, undef, undef, undef, undef, undef, undef, undef, undef, undef, undef, undef, undef, undef, undef, undef, undef, undef, undef, undef, undef, undef, undef, undef, undef, undef, undef, undef, undef, undef, undef, undef, undef, undef, undef, undef, undef, undef, undef, undef, undef, undef, undef, undef, undef, undef, undef, undef], defers := [] }) ?assign ?body ?done ?stop
  case assign =>
    intro l x W K hK
    gi_wp2
    exact hK
  case body =>
    rintro l pre x W ⟨⟨hE, hi, hif, hr, hrf, hbx⟩, hB⟩ hlen
    clear b1 b2 b3 b4 hB0
    obtain ⟨m, hm⟩ : ∃ m, L.length - pre.length = m + 1 := ⟨L.length - pre.length - 1, by omega⟩
    have hml : m < L.length := by omega
    rw [hm] at hi
    have hi0 : W.cell? ⟨w.heap.size + 1 + 1, 0, none⟩ = some (.int .i64 ((m : Int) + 1)) := by rw [hi]; simp
    have e1 : (m : Int) + 1 - 1 = m := by omega
    have hq1 := (hq.below hB).setCell (p := ⟨w.heap.size + 1 + 1, 0, none⟩) (by simp; omega) (.int .i64 m)
    obtain ⟨ad, rfl, hbl2, hcq⟩ := hq1.2 (by omega)
    have hx := hcq m (.int .i64 (L[m]?.getD 0)) (by rw [List.getElem?_map, List.getElem?_eq_getElem hml]; rfl)
    have hgo := Lib.hid (hE.go hm)
    have hno := Lib.hid (hE.no hm (x := x))
    obtain ⟨y, hy⟩ : ∃ y, L[m]?.getD 0 = y := ⟨_, rfl⟩
    rw [hy] at hx hgo hno
    have hi1 : (W.setCell ⟨w.heap.size + 1 + 1, 0, none⟩ (.int .i64 m)).cell? ⟨w.heap.size + 1 + 1, 0, none⟩ = some (.int .i64 m) := World.cell?_setCell_same' _ _ _ (by rw [hi]; rfl)
    have hr1 : (W.setCell ⟨w.heap.size + 1 + 1, 0, none⟩ (.int .i64 m)).cell? ⟨w.heap.size + 1, 0, none⟩ = some (.bool false) := (World.cell?_setCell_other _ _ _ _ (fun e => by injection e; omega)).trans hr
    have hbx1 : (W.setCell ⟨w.heap.size + 1 + 1, 0, none⟩ (.int .i64 m)).cell? ⟨w.heap.size, 0, none⟩ = some (.slice (some ad) L.length c) := (World.cell?_setCell_other _ _ _ _ (fun e => by injection e; omega)).trans hbx
    have hB1 : Below w.heap.size w (W.setCell ⟨w.heap.size + 1 + 1, 0, none⟩ (.int .i64 m)) := hB.setCell (p := ⟨w.heap.size + 1 + 1, 0, none⟩) (by simp; omega) _
    clear hq1 hcq hy hi
    by_cases hxy : x = y
    · subst hxy
      gi_wp2
      have em : L.length - (pre ++ [x]).length = m := by simp; omega
      refine ⟨(KeepsOthers.setCell _ _ _).from _, fun k hk => Below.heap_setCell W _ _ k ?_, ⟨hgo.out, by rw [em]; exact hi1, by rw [World.frozen?_setCell]; exact hif, hr1, by rw [World.frozen?_setCell]; exact hrf, hbx1⟩, hB1⟩
      rcases hk with rfl | rfl | hk
      · simp
      · simp; omega
      · have := hrl k hk; simp; omega
    · have hne : (x != y) = true := by simpa using hxy
      gi_wp2
      exact ⟨((KeepsOthers.setCell _ _ _).trans (KeepsOthers.setCell _ _ _)).from _, hno.out hxy⟩
  case done =>
    rintro D ys W hD rfl ⟨⟨hE, hi, hif, hr, hrf, hbx⟩, hB⟩ hK
    have hSW := hS.below hB (Nat.le_refl _)
    have hi0 : W.cell? ⟨w.heap.size + 1 + 1, 0, none⟩ = some (.int .i64 0) := by rw [hi]; simp
    have hqW := hq.below hB
    clear b1 b2 b3 b4 hB0 hS0 hE hi hq hS
    rcases List.eq_nil_or_concat L with hL | ⟨L', x, hL⟩
    · subst hL
      have hlen : Calls Try.prog 41 #[.pointer (some ⟨b, 0, none⟩)] { W with drawn := W.drawn + 1 } fun e w' => e = .returned (.int .i64 0) ∧ w' = { W with drawn := W.drawn + 1 } := (lenI_any base b v [] { W with drawn := W.drawn + 1 } (hSW.below (B := W.heap.size) ⟨rfl, rfl, rfl, Nat.le_refl _, fun _ _ => rfl⟩ (Nat.le_refl _))).mono fun _ _ h => ⟨h.1, h.2.symm⟩
      have hbxD : ({ W with drawn := W.drawn + 1 } : World).cell? ⟨w.heap.size, 0, none⟩ = some (.slice A 0 c) := hbx
      have hi0D : ({ W with drawn := W.drawn + 1 } : World).cell? ⟨w.heap.size + 1 + 1, 0, none⟩ = some (.int .i64 0) := hi0
      gi_wp2_with (refine ⟨trivial, ?_⟩; gi_at_call 44; refine (callsIn_wide.2 (topI_nil base b v W hSW)).mono ?_; rintro e w' ⟨rfl, rfl⟩)
      with_reducible refine wpIn_wide.2 ?_
      with_reducible refine wp_region_still_tail 30 (by kernel_rfl) (by kernel_rfl) ?_
      have hrD : ({ W with drawn := W.drawn + 1 } : World).cell? ⟨w.heap.size + 1, 0, none⟩ = some (.bool false) := hr
      have hrfD : ({ W with drawn := W.drawn + 1 } : World).frozen? ⟨w.heap.size + 1, 0, none⟩ = false := hrf
      have hKD : ({ W with drawn := W.drawn + 1 } : World).heap[D]? = some (.deferred (some [])) := hK
      have hBD : Below w.heap.size w { W with drawn := W.drawn + 1 } := hB.trans ⟨rfl, rfl, rfl, Nat.le_refl _, fun _ _ => rfl⟩
      generalize hW2 : ({ W with drawn := W.drawn + 1 } : World) = W2 at hlen hbxD hi0D hrD hrfD hKD hBD ⊢
      clear hW2 hif hr hrf hK hi0 hbx hSW hqW hB
      simp only [List.take_succ_cons, List.take_zero, List.drop_succ_cons, List.drop_zero]
      with_reducible refine wpStill_val (.int .i64 0) (by kernel_rfl) (ld_int rfl (by kernel_rfl) hi0D) ?_
      with_reducible refine wpStill_val (.bool true) (by kernel_rfl) (by kernel_rfl) ?_
      with_reducible refine wpStill_val (.bool true) (by kernel_rfl) (by kernel_rfl) ?_
      with_reducible refine wpStill_val (.pointer (some ⟨b, 0, none⟩)) (by kernel_rfl) (by kernel_rfl) ?_
      with_reducible refine wpStill_call (f := 41) (args := #[.pointer (some ⟨b, 0, none⟩)]) (.int .i64 0) (by kernel_rfl) (by kernel_rfl) hlen ?_
      with_reducible refine wpStill_val (.slice A 0 c) (by kernel_rfl) (ld_ints rfl (by kernel_rfl) hbxD) ?_
      with_reducible refine wpStill_val (.int .i64 0) (by kernel_rfl) (by kernel_rfl) ?_
      with_reducible refine wpStill_val (.bool true) (by kernel_rfl) (by kernel_rfl) ?_
      with_reducible refine wpStill_val (.bool true) (by kernel_rfl) (by kernel_rfl) ?_
      with_reducible refine wpStill_val (.bool true) (by kernel_rfl) (by kernel_rfl) ?_
      with_reducible refine wpStill_val (.bool false) (by kernel_rfl) (by kernel_rfl) ?_
      with_reducible refine wpStill_val (.slice A 0 c) (by kernel_rfl) (ld_ints rfl (by kernel_rfl) hbxD) ?_
      with_reducible refine wpStill_val (.int .i64 0) (by kernel_rfl) (by kernel_rfl) ?_
      with_reducible refine wpStill_val (.bool false) (by kernel_rfl) (by kernel_rfl) ?_
      with_reducible refine wpStill_val (.bool true) (by kernel_rfl) (by kernel_rfl) ?_
      with_reducible refine wpStill_val (.bool true) (by kernel_rfl) (by kernel_rfl) ?_
      with_reducible refine wpStill_val (.bool true) (by kernel_rfl) (by kernel_rfl) ?_
      with_reducible refine wpStill_val (.bool false) (by kernel_rfl) (by kernel_rfl) ?_
      with_reducible refine wpStill_val (.bool true) (by kernel_rfl) (by kernel_rfl) ?_
      with_reducible refine wpStill_val (.bool true) (by kernel_rfl) (by kernel_rfl) ?_
      with_reducible refine wpStill_pass (by kernel_rfl) ?_
      with_reducible refine wpStill_pass (by kernel_rfl) ?_
      with_reducible refine wpStill_pass (by kernel_rfl) ?_
      with_reducible refine wpStill_pass (by kernel_rfl) ?_
      with_reducible refine wpStill_pass (by kernel_rfl) ?_
      with_reducible refine wpStill_pass (by kernel_rfl) ?_
      with_reducible refine wpStill_pass (by kernel_rfl) ?_
      with_reducible refine wpStill_pass (by kernel_rfl) ?_
      with_reducible refine wpStill_val (.bool true) (by kernel_rfl) (by kernel_rfl) ?_
      with_reducible refine wpStill_val (.bool true) (by kernel_rfl) (by kernel_rfl) ?_
      with_reducible refine wpStill_nil ?_
      with_reducible refine wpList_stored #[.pointer (some ⟨b, 0, none⟩), .slice A 0 c, undef, .pointer (some ⟨w.heap.size, 0, none⟩), .pointer (some ⟨w.heap.size + 1, 0, none⟩), .pointer (some ⟨w.heap.size + 1 + 1, 0, none⟩), undef, .int .i64 0, .bool false, .slice A 0 c, .int .i64 0, .pointer (some ⟨b, 0, none⟩), .func (.func 46) #[] #[.pointer (some ⟨w.heap.size + 1 + 1 + 1, 0, none⟩)], undef, undef, undef, undef, undef, undef, undef, undef, undef, undef, undef, undef, undef, .tuple #[.int .i64 0, .bool false], .pointer (some ⟨b, 0, none⟩), .tuple #[.int .i64 0, .bool false], .int .i64 0, .bool false, .int .i64 0, .bool true, .bool true, .pointer (some ⟨b, 0, none⟩), .int .i64 0, .slice A 0 c, .int .i64 0, .bool true, .bool true, .bool true, .bool false, .slice A 0 c, .int .i64 0, .bool false, .bool true, .bool true, .bool true, .bool false, .bool true, .bool true, undef, undef, undef, undef, undef, undef, undef, undef, .bool true, .bool true] [{ target := .collected D, args := #[] }] (by kernel_rfl) (by kernel_rfl) (st_bool (p := ⟨w.heap.size + 1, 0, none⟩) (b := true) rfl (by kernel_rfl) (by kernel_rfl) hrD hrfD) (by kernel_rfl) ?_
      simp only [Exit.then]
      gi_wp2
      have hDl : w.heap.size + 1 + 1 + 1 + 1 ≤ D := by simpa using hD
      have hB3 : Below w.heap.size w (W2.setCell ⟨w.heap.size + 1, 0, none⟩ (.bool true)) := hBD.setCell (p := ⟨w.heap.size + 1, 0, none⟩) (by simp) _
      have hK3 : (W2.setCell ⟨w.heap.size + 1, 0, none⟩ (.bool true)).heap[D]? = some (.deferred (some [])) := (Below.heap_setCell W2 _ _ D (by simp; omega)).trans hKD
      have hr3 : (W2.setCell ⟨w.heap.size + 1, 0, none⟩ (.bool true)).cell? ⟨w.heap.size + 1, 0, none⟩ = some (.bool true) := World.cell?_setCell_same' _ _ _ (by rw [hrD]; rfl)
      generalize W2.setCell ⟨w.heap.size + 1, 0, none⟩ (.bool true) = W3 at hB3 hK3 hr3 ⊢
      have hr4 : (W3.putObj D (.deferred none)).cell? ⟨w.heap.size + 1, 0, none⟩ = some (.bool true) := (World.cell?_of_block (World.putObj_heap_other (by show w.heap.size + 1 ≠ D; omega))).trans hr3
      have hB4 : Below w.heap.size w (W3.putObj D (.deferred none)) := hB3.trans (belowK_b (w := w) (Nat.le_refl _) W3 D _ _ (by omega) hK3 rfl rfl)
      refine ⟨by simp, .inl ⟨_, _, rfl, run_takeDeferred hK3, ?_⟩⟩
      generalize W3.putObj D (.deferred none) = W4 at hr4 hB4 ⊢
      exact ⟨.bool true, by simp [results, Try.results38, go_sem, hr4], rfl, hB4⟩
    · rw [List.concat_eq_append] at hL
      have hLl : L.length = L'.length + 1 := by rw [hL]; simp
      subst hL
      obtain ⟨ad, rfl, hbl2, hcq⟩ := hqW.2 (by omega)
      have hy0 := hcq L'.length (.int .i64 x) (by simp)
      have hnD : IntKind.i64.wrap (((L'.length + 1 : Nat) : Int) - 1) = L'.length := by rw [IntWalk.i64_in _ (by omega)]; omega
      rw [hLl] at hbx
      rw [hLl]
      gi_wp2_with (refine ⟨trivial, ?_⟩; gi_at_call 44; refine (callsIn_wide.2 (topI_snoc base b v L' x W hSW (by omega))).mono ?_; rintro e w' ⟨rfl, m, rfl⟩)
      have hB2 : Below w.heap.size w { (W.drewN m) with drawn := (W.drewN m).drawn + 1 } := hB.trans ⟨rfl, rfl, rfl, Nat.le_refl _, fun _ _ => rfl⟩
      have hlen : Calls Try.prog 41 #[.pointer (some ⟨b, 0, none⟩)] { (W.drewN m) with drawn := (W.drewN m).drawn + 1 } fun e w' => e = .returned (.int .i64 ((L'.length + 1 : Nat) : Int)) ∧ w' = { (W.drewN m) with drawn := (W.drewN m).drawn + 1 } := (lenI_any base b v (L' ++ [x]) { (W.drewN m) with drawn := (W.drewN m).drawn + 1 } (hSW.below (B := W.heap.size) ⟨rfl, rfl, rfl, Nat.le_refl _, fun _ _ => rfl⟩ (Nat.le_refl _))).mono fun _ _ h => ⟨by rw [h.1, hLl], h.2.symm⟩
      have hbxD : ({ (W.drewN m) with drawn := (W.drewN m).drawn + 1 } : World).cell? ⟨w.heap.size, 0, none⟩ = some (.slice (some ad) (L'.length + 1) c) := hbx
      have hi0D : ({ (W.drewN m) with drawn := (W.drewN m).drawn + 1 } : World).cell? ⟨w.heap.size + 1 + 1, 0, none⟩ = some (.int .i64 0) := hi0
      have hyD : ({ (W.drewN m) with drawn := (W.drewN m).drawn + 1 } : World).cell? (ad.add L'.length) = some (.int .i64 x) := hy0
      have hrD : ({ (W.drewN m) with drawn := (W.drewN m).drawn + 1 } : World).cell? ⟨w.heap.size + 1, 0, none⟩ = some (.bool false) := hr
      have hrfD : ({ (W.drewN m) with drawn := (W.drewN m).drawn + 1 } : World).frozen? ⟨w.heap.size + 1, 0, none⟩ = false := hrf
      have hKD : ({ (W.drewN m) with drawn := (W.drewN m).drawn + 1 } : World).heap[D]? = some (.deferred (some [])) := hK
      with_reducible refine wpIn_wide.2 ?_
      with_reducible refine wp_region_still_tail 30 (by kernel_rfl) (by kernel_rfl) ?_
      generalize hW2 : ({ (W.drewN m) with drawn := (W.drewN m).drawn + 1 } : World) = W2 at hlen hbxD hi0D hyD hrD hrfD hKD hB2 ⊢
      clear hW2 hif hr hrf hK hi0 hbx hSW hqW hB hcq hy0
      simp only [List.take_succ_cons, List.take_zero, List.drop_succ_cons, List.drop_zero]
      with_reducible refine wpStill_val (.int .i64 0) (by kernel_rfl) (ld_int rfl (by kernel_rfl) hi0D) ?_
      with_reducible refine wpStill_val (.bool true) (by kernel_rfl) (by kernel_rfl) ?_
      with_reducible refine wpStill_val (.bool true) (by kernel_rfl) (by kernel_rfl) ?_
      with_reducible refine wpStill_val (.pointer (some ⟨b, 0, none⟩)) (by kernel_rfl) (by kernel_rfl) ?_
      with_reducible refine wpStill_call (f := 41) (args := #[.pointer (some ⟨b, 0, none⟩)]) (.int .i64 ((L'.length + 1 : Nat) : Int)) (by kernel_rfl) (by kernel_rfl) hlen ?_
      with_reducible refine wpStill_val (.slice (some ad) (L'.length + 1) c) (by kernel_rfl) (ld_ints rfl (by kernel_rfl) hbxD) ?_
      with_reducible refine wpStill_val (.int .i64 ((L'.length + 1 : Nat) : Int)) (by kernel_rfl) (len_ints (A := some ad) (c := c) rfl (by kernel_rfl)) ?_
      with_reducible refine wpStill_val (.bool true) (by kernel_rfl) (eql_int (m := ((L'.length + 1 : Nat) : Int)) (n := ((L'.length + 1 : Nat) : Int)) true rfl (by kernel_rfl) (by kernel_rfl) (by simp)) ?_
      with_reducible refine wpStill_val (.bool true) (by kernel_rfl) (by kernel_rfl) ?_
      with_reducible refine wpStill_val (.bool true) (by kernel_rfl) (by kernel_rfl) ?_
      with_reducible refine wpStill_val (.bool true) (by kernel_rfl) (by kernel_rfl) ?_
      with_reducible refine wpStill_val (.slice (some ad) (L'.length + 1) c) (by kernel_rfl) (ld_ints rfl (by kernel_rfl) hbxD) ?_
      with_reducible refine wpStill_val (.int .i64 ((L'.length + 1 : Nat) : Int)) (by kernel_rfl) (len_ints (A := some ad) (c := c) rfl (by kernel_rfl)) ?_
      with_reducible refine wpStill_val (.bool true) (by kernel_rfl) (gtr_int (m := ((L'.length + 1 : Nat) : Int)) (n := 0) true rfl (by kernel_rfl) (by kernel_rfl) (by simp)) ?_
      with_reducible refine wpStill_val (.bool true) (by kernel_rfl) (by kernel_rfl) ?_
      with_reducible refine wpStill_val (.bool true) (by kernel_rfl) (by kernel_rfl) ?_
      with_reducible refine wpStill_val (.bool true) (by kernel_rfl) (by kernel_rfl) ?_
      with_reducible refine wpStill_val (.bool true) (by kernel_rfl) (by kernel_rfl) ?_
      with_reducible refine wpStill_val (.bool false) (by kernel_rfl) (by kernel_rfl) ?_
      with_reducible refine wpStill_val (.bool false) (by kernel_rfl) (by kernel_rfl) ?_
      with_reducible refine wpStill_val (.int .i64 x) (by kernel_rfl) (by kernel_rfl) ?_
      with_reducible refine wpStill_val (.slice (some ad) (L'.length + 1) c) (by kernel_rfl) (ld_ints rfl (by kernel_rfl) hbxD) ?_
      with_reducible refine wpStill_val (.slice (some ad) (L'.length + 1) c) (by kernel_rfl) (ld_ints rfl (by kernel_rfl) hbxD) ?_
      with_reducible refine wpStill_val (.int .i64 ((L'.length + 1 : Nat) : Int)) (by kernel_rfl) (len_ints (A := some ad) (c := c) rfl (by kernel_rfl)) ?_
      with_reducible refine wpStill_val (.int .i64 (L'.length : Int)) (by kernel_rfl) (sub_int (m := ((L'.length + 1 : Nat) : Int)) (n := 1) L'.length rfl (by kernel_rfl) (by kernel_rfl) hnD) ?_
      with_reducible refine wpStill_val (.pointer (some (ad.add L'.length))) (by kernel_rfl) (idx_ints (n := L'.length + 1) (c := c) rfl (by kernel_rfl) (by kernel_rfl) (Nat.lt_succ_self _)) ?_
      with_reducible refine wpStill_val (.int .i64 x) (by kernel_rfl) (ld_int rfl (by kernel_rfl) hyD) ?_
      with_reducible refine wpStill_val (.bool true) (by kernel_rfl) (eql_int (m := x) (n := x) true rfl (by kernel_rfl) (by kernel_rfl) (by simp)) ?_
      with_reducible refine wpStill_val (.bool true) (by kernel_rfl) (by kernel_rfl) ?_
      with_reducible refine wpStill_val (.bool true) (by kernel_rfl) (by kernel_rfl) ?_
      with_reducible refine wpStill_nil ?_
      with_reducible refine wpList_stored #[.pointer (some ⟨b, 0, none⟩), .slice (some ad) (L'.length + 1) c, undef, .pointer (some ⟨w.heap.size, 0, none⟩), .pointer (some ⟨w.heap.size + 1, 0, none⟩), .pointer (some ⟨w.heap.size + 1 + 1, 0, none⟩), undef, .int .i64 x, .bool true, .slice (some ad) (L'.length + 1) c, .int .i64 ((L'.length + 1 : Nat) : Int), .pointer (some ⟨b, 0, none⟩), .func (.func 46) #[] #[.pointer (some ⟨w.heap.size + 1 + 1 + 1, 0, none⟩)], undef, undef, undef, undef, undef, undef, undef, undef, undef, undef, undef, undef, undef, .tuple #[.int .i64 x, .bool true], .pointer (some ⟨b, 0, none⟩), .tuple #[.int .i64 x, .bool true], .int .i64 x, .bool true, .int .i64 0, .bool true, .bool true, .pointer (some ⟨b, 0, none⟩), .int .i64 ((L'.length + 1 : Nat) : Int), .slice (some ad) (L'.length + 1) c, .int .i64 ((L'.length + 1 : Nat) : Int), .bool true, .bool true, .bool true, .bool true, .slice (some ad) (L'.length + 1) c, .int .i64 ((L'.length + 1 : Nat) : Int), .bool true, .bool true, .bool true, .bool true, .bool true, .bool false, .bool false, .int .i64 x, .slice (some ad) (L'.length + 1) c, .slice (some ad) (L'.length + 1) c, .int .i64 ((L'.length + 1 : Nat) : Int), .int .i64 (L'.length : Int), .pointer (some (ad.add L'.length)), .int .i64 x, .bool true, .bool true, .bool true] [{ target := .collected D, args := #[] }] (by kernel_rfl) (by kernel_rfl) (st_bool (p := ⟨w.heap.size + 1, 0, none⟩) (b := true) rfl (by kernel_rfl) (by kernel_rfl) hrD hrfD) (by kernel_rfl) ?_
      simp only [Exit.then]
      gi_wp2
      have hDl : w.heap.size + 1 + 1 + 1 + 1 ≤ D := by simpa using hD
      have hB3 : Below w.heap.size w (W2.setCell ⟨w.heap.size + 1, 0, none⟩ (.bool true)) := hB2.setCell (p := ⟨w.heap.size + 1, 0, none⟩) (by simp) _
      have hK3 : (W2.setCell ⟨w.heap.size + 1, 0, none⟩ (.bool true)).heap[D]? = some (.deferred (some [])) := (Below.heap_setCell W2 _ _ D (by simp; omega)).trans hKD
      have hr3 : (W2.setCell ⟨w.heap.size + 1, 0, none⟩ (.bool true)).cell? ⟨w.heap.size + 1, 0, none⟩ = some (.bool true) := World.cell?_setCell_same' _ _ _ (by rw [hrD]; rfl)
      generalize W2.setCell ⟨w.heap.size + 1, 0, none⟩ (.bool true) = W3 at hB3 hK3 hr3 ⊢
      have hr4 : (W3.putObj D (.deferred none)).cell? ⟨w.heap.size + 1, 0, none⟩ = some (.bool true) := (World.cell?_of_block (World.putObj_heap_other (by show w.heap.size + 1 ≠ D; omega))).trans hr3
      have hB4 : Below w.heap.size w (W3.putObj D (.deferred none)) := hB3.trans (belowK_b (w := w) (Nat.le_refl _) W3 D _ _ (by omega) hK3 rfl rfl)
      refine ⟨by simp, .inl ⟨_, _, rfl, run_takeDeferred hK3, ?_⟩⟩
      generalize W3.putObj D (.deferred none) = W4 at hr4 hB4 ⊢
      exact ⟨.bool true, by simp [results, Try.results38, go_sem, hr4], rfl, hB4⟩
  case stop =>
    rintro D e pre W _ ⟨k, hk, rfl⟩ hn _
    exact absurd (Fits.of_take hk) hn
end Go.Proofs.Ytkfgnacbifiadaa
