/- The walk of StackKnown. -/
import Derived.Test.YtkfgnacbifiadaaAllS
import Derived.Test.YtkfgnacbifiadaaLawStack
namespace Go.Proofs.Ytkfgnacbifiadaa
set_option linter.unusedVariables false
set_option linter.unusedSimpArgs false
open Go.RowKit Go.Shelf
attribute [local go_sem] Oper.semAt_some

theorem StS.fresh (w : World) : StS w.heap.size w.heap.size (.slice none 0 0) [] (w.alloc (.cells #[.slice none 0 0] 40)) :=
  ⟨Blk.new w _ _, World.ownsRow_nil _ _ _ _, Nat.le_refl _⟩
theorem StS.step {B b : Nat} {v : Value} {L : List ByteArray} {w0 w1 w2 : World} (hB : Below B w0 w1) (hs : B ≤ w1.heap.size) (h : StS b b v L w1) (hb : B ≤ b) (m : Mv b v.ownBlock w1 w2) : Below B w0 w2 :=
  hB.trans (m.below hb hs (fun g hg => Nat.le_trans hb (h.own.lt g hg).1))

theorem own_ne_def {base n : Nat} {e : TypeId} {size : Nat} {v : Value} {xs : List Value} {w : World} {D : Nat} {x : Option (List Deferred)} (hO : w.ownsRow base e size v n xs) (hD : w.heap[D]? = some (.deferred x)) : v.ownBlock ≠ some D := by
  rcases hO.2 with ⟨rfl, _⟩ | ⟨g, cap, cur, rfl, _, hh, _⟩
  · simp [Value.ownBlock]
  · intro he
    have : g = D := by simpa [Value.ownBlock] using he
    subst this
    rw [hD] at hh
    cases hh
theorem StS.apart_def {base b D : Nat} {v : Value} {L : List ByteArray} {w : World} {x : Option (List Deferred)} (h : StS base b v L w) (hD : w.heap[D]? = some (.deferred x)) : D ≠ b := by
  rintro rfl
  have := h.blk
  unfold Blk at this
  rw [hD] at this
  cases this
theorem Mv.keep {b D : Nat} {r : Option Nat} {w w' : World} {o : Obj} (m : Mv b r w w') (hD : w.heap[D]? = some o) (h1 : D ≠ b) (h2 : r ≠ some D) : w'.heap[D]? = some o :=
  (m.block D (Array.getElem?_eq_some_iff.1 hD).1 h1 (fun e => h2 e.symm)).trans hD
theorem Mv.cellOf {b k : Nat} {r : Option Nat} {w w' : World} (m : Mv b r w w') (h1 : k ≠ b) (h2 : r ≠ some k) (hk : k < w.heap.size) : w'.cell? ⟨k, 0, none⟩ = w.cell? ⟨k, 0, none⟩ :=
  World.cell?_of_block (m.block k hk h1 (fun e => h2 e.symm))

set_option maxRecDepth 100000 in
set_option maxHeartbeats 3000000 in
theorem stackKnown_walk (w : World) : Calls Try.prog 10 #[] w fun e W' => e = .returned (.bool true) ∧ Below w.heap.size w W' := by
  refine (callsIn_wide (n := 3)).1 ?_
  refine callsIn_of_wp_marks Try.func10 rfl trivial ?_ rfl
  simp only [Try.ntmps10, List.size_toArray, List.length_cons, List.length_nil, Nat.reduceAdd, Nat.reduceSub, Array.replicate_succ, Array.replicate_zero, List.push_toArray, List.append_toArray, List.nil_append, List.cons_append]
  gi_wp2_with (fail)
  refine ⟨trivial, ?_⟩
  with_reducible refine (callsIn_wide.2 (known3_any _)).mono ?_
  rintro e w1 ⟨rfl, hB1⟩
  have H1 := Lib.hid (StS.fresh w1)
  gi_wp2_with (fail)
  refine ⟨trivial, ?_⟩
  with_reducible refine (callsIn_wide.2 (topS_nil _ _ _ _ H1.out)).mono ?_
  rintro e w2 ⟨rfl, rfl⟩
  gi_wp2_with (fail)
  refine ⟨trivial, ?_⟩
  with_reducible refine (allS_in _ _ trivial rfl _ _).mono ?_
  rintro e w2 ⟨rfl, rfl⟩
  gi_wp2_with (fail)
  have hS3 : StS w1.heap.size w1.heap.size (.slice none 0 0) [] (((w1.alloc (.cells #[.slice none 0 0] 40)).alloc (.cells #[.int .i64 0] 3)).alloc (.cells #[.pointer (some ⟨w1.heap.size, 0, none⟩)] 37)) :=
    H1.out.below (B := w1.heap.size + 1) (((Below.refl _ _).alloc (by simp) _).alloc (by simp) _) (by simp)
  have hB3 := (((hB1.alloc hB1.size (.cells #[.slice none 0 0] 40)).alloc (by have := hB1.size; simp; omega) (.cells #[.int .i64 0] 3)).alloc (by have := hB1.size; simp; omega) (.cells #[.pointer (some ⟨w1.heap.size, 0, none⟩)] 37))
  have hn3 := ((Boxed.new (w1.alloc (.cells #[.slice none 0 0] 40)) 3 (.int .i64 0)).alloc (.cells #[.pointer (some ⟨w1.heap.size, 0, none⟩)] 37)).cell
  have hnb3 : Blk (((w1.alloc (.cells #[.slice none 0 0] 40)).alloc (.cells #[.int .i64 0] 3)).alloc (.cells #[.pointer (some ⟨w1.heap.size, 0, none⟩)] 37)) (w1.heap.size + 1) 3 #[.int .i64 0] := by have := (Blk.new (w1.alloc (.cells #[.slice none 0 0] 40)) 3 #[.int .i64 0]).alloc (.cells #[.pointer (some ⟨w1.heap.size, 0, none⟩)] 37); simpa using this
  have hbx3 := (Boxed.new ((w1.alloc (.cells #[.slice none 0 0] 40)).alloc (.cells #[.int .i64 0] 3)) 37 (.pointer (some ⟨w1.heap.size, 0, none⟩))).cell
  have hsz3 : (((w1.alloc (.cells #[.slice none 0 0] 40)).alloc (.cells #[.int .i64 0] 3)).alloc (.cells #[.pointer (some ⟨w1.heap.size, 0, none⟩)] 37)).heap.size = w1.heap.size + 1 + 1 + 1 := by simp
  have hz := hB1.size
  simp only [World.size_alloc] at hn3 hbx3
  generalize (((w1.alloc (.cells #[.slice none 0 0] 40)).alloc (.cells #[.int .i64 0] 3)).alloc (.cells #[.pointer (some ⟨w1.heap.size, 0, none⟩)] 37)) = W3 at hS3 hB3 hn3 hnb3 hbx3 hsz3 ⊢
  clear H1 hB1
  generalize w1.heap.size = b at hS3 hB3 hn3 hnb3 hbx3 hsz3 hz ⊢
  have HZ := Lib.hid hsz3
  clear hsz3
  refine wpIn_rangeFunc_ownG rfl (by omega) (gf := 45) (lb := #[.pointer (some ⟨b + 1 + 1, 0, none⟩)]) rfl trivial (enters_of Try.func45 (by kernel_rfl) rfl)
    (allS_stops Fence.wide _ trivial rfl (by omega) (b + 1 + 1) b b (.slice none 0 0) [] (by simp) W3 (by rw [HZ.out]; omega) hbx3 hS3) Kp3.trans (Kp3.b (by rw [HZ.out]; omega) (by rw [HZ.out]; omega) (fun g h => by simp [Value.ownBlock] at h)) (Below.refl _ _) (fun _ => rfl)
    (fun pre W => (W.cell? ⟨b + 1, 0, none⟩ = some (.int .i64 0)) ∧ Below W3.heap.size W3 W)
    (fun _ _ _ => False)
    (OwnFrom.and (Own.from (fun s A' B' row hs hg hr => cell_kept hs hg hr) _) (ownFrom_below (Nat.le_refl _) (Nat.le_refl _)))
    (fun _ => Own.from (fun s A' B' row hs hg hr => hs) _)
    ⟨hn3, Below.refl _ _⟩
    (fun x => { tmps := #[Value.bool false, Value.pointer (some { block := b, off := 0 }), Value.string ByteArray.empty, Value.bool false, Value.pointer (some { block := b + 1, off := 0 }), undef, undef, Value.bool true, Value.bool false, Value.agg #[Value.slice none 0 0], Value.pointer (some { block := b, off := 0 }), Value.tuple #[Value.string ByteArray.empty, Value.bool false], Value.pointer (some { block := b, off := 0 }), Value.tuple #[Value.string ByteArray.empty, Value.bool false], Value.string ByteArray.empty, Value.bool false, Value.pointer (some { block := b, off := 0 }), Value.func (Fn.func 45) #[] #[Value.pointer (some { block := b + 1 + 1, off := 0 })], .string x, undef, undef, undef, undef, undef, undef, undef, undef, undef, undef, undef, undef, undef, undef, undef, undef, undef, undef, undef, undef, undef, undef, undef, undef, undef, undef, undef, undef, undef, undef, undef, undef, undef, undef, undef, undef], defers := [] }) ?assign ?body ?done ?stop
  case assign =>
    intro l x W K hK
    gi_wp2
    exact hK
  case body =>
    rintro l pre x W _ hlen
    exact absurd hlen (by simp)
  case stop =>
    rintro D e pre W _ _ hn _
    exact hn.elim
  case done =>
    rintro D ys W hD _ ⟨hn, hBW⟩ hK
    have hB4 := hB3.trans (hBW.mono (by rw [HZ.out]; omega))
    have H4 := Lib.hid (hS3.below hBW (Nat.le_refl _))
    have n4 := hnb3.below hBW (by rw [HZ.out]; omega)
    have hD4 : b + 1 + 1 + 1 ≤ D := by rw [← HZ.out]; exact hD
    clear hS3 hB3 hn3 hnb3 hbx3 HZ hBW hD hn
    gi_wp2_with (fail)
    refine ⟨trivial, ?_⟩
    with_reducible refine (callsIn_wide.2 (pushS_any _ _ _ [] _ _ H4.out (by simp))).mono ?_
    rintro e w5 ⟨rfl, v5, h5, m5, _⟩
    have hB5 := StS.step hB4 hB4.size H4.out hz m5
    have hK5 := m5.keep hK (H4.out.apart_def hK) (own_ne_def H4.out.own hK)
    have n5 := m5.blk n4 (by omega) (fun e => own_blk_ne H4.out.own n4 (by decide) e.symm)
    have H5 := Lib.hid h5
    clear h5 m5 H4 hB4 hK n4
    gi_wp2_with (fail)
    refine ⟨trivial, ?_⟩
    with_reducible refine (callsIn_wide.2 (pushS_any _ _ _ [_] _ _ H5.out (by simp))).mono ?_
    rintro e w6 ⟨rfl, v6, h6, m6, o6⟩
    have hB6 := StS.step hB5 hB5.size H5.out hz m6
    have hK6 := m6.keep hK5 (H5.out.apart_def hK5) (own_ne_def H5.out.own hK5)
    have n6 := m6.blk n5 (by omega) (fun e => own_blk_ne H5.out.own n5 (by decide) e.symm)
    have H6 := Lib.hid h6
    clear h6 m6 o6 H5 hB5 hK5 n5
    gi_wp2_with (fail)
    refine ⟨trivial, ?_⟩
    with_reducible refine (callsIn_wide.2 (popS_snoc _ _ _ [_] _ _ H6.out (by simp))).mono ?_
    rintro e w7 ⟨rfl, v7, h7, o7, m7⟩
    have hB7 := StS.step hB6 hB6.size H6.out hz m7
    have hK7 := m7.keep hK6 (H6.out.apart_def hK6) (own_ne_def H6.out.own hK6)
    have n7 := m7.blk n6 (by omega) (fun e => own_blk_ne H6.out.own n6 (by decide) e.symm)
    have H7 := Lib.hid h7
    clear h7 m7 o7 H6 hB6 hK6 n6
    gi_wp2_with (fail)
    refine ⟨trivial, ?_⟩
    with_reducible refine (callsIn_wide.2 (known3_any _)).mono ?_
    rintro e w8 ⟨rfl, hb⟩
    have hB8 := below_called hB7 hb
    have hK8 := (hb.block D (Array.getElem?_eq_some_iff.1 hK7).1).trans hK7
    have n8 := (n7.below hb n7.lt).cell 0
    have H8 := Lib.hid (H7.out.below hb (Nat.le_refl _))
    have e1 : (ByteArray.empty == ⟨#[]⟩) = true := by decide
    clear hb H7 hB7 hK7 n7
    gi_wp2_with (fail)
    refine ⟨trivial, ?_⟩
    with_reducible refine (callsIn_wide.2 (lenS_any _ _ _ _ _ H8.out)).mono ?_
    rintro e w9 ⟨rfl, rfl⟩
    gi_wp2_with (fail)
    have hB9 := hB8.trans (belowK_b (w := w) (Nat.le_refl _) w8 D _ (.deferred none) (by omega) hK8 rfl rfl)
    refine ⟨by simp, .inl ⟨_, _, rfl, run_takeDeferred hK8, ?_⟩⟩
    exact ⟨_, results_tmp rfl _ _ _, rfl, hB9⟩
end Go.Proofs.Ytkfgnacbifiadaa
