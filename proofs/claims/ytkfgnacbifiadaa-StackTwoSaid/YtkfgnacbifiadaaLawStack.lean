/- The walks of chapter 3's known and StackPlays. -/
import Derived.Test.YtkfgnacbifiadaaSame
import Derived.Test.YtkfgnacbifiadaaRowWords
import Derived.Deep.DeepFit
namespace Go.Proofs.Ytkfgnacbifiadaa
set_option linter.unusedVariables false
set_option linter.unusedSimpArgs false
open Go.RowKit

theorem StI.fresh (w : World) : StI w.heap.size w.heap.size (.slice none 0 0) [] (w.alloc (.cells #[.slice none 0 0] 51)) :=
  ⟨Blk.new w _ _, World.ownsRow_nil _ _ _ _, Nat.le_refl _⟩
theorem StI.step {B b : Nat} {v : Value} {L : List Int} {w0 w1 w2 : World} (hB : Below B w0 w1) (hs : B ≤ w1.heap.size) (h : StI B b v L w1) (m : Mv b v.ownBlock w1 w2) : Below B w0 w2 :=
  hB.trans (m.below h.base_le hs (fun g hg => (h.own.lt g hg).1))

set_option maxRecDepth 100000 in
set_option maxHeartbeats 4000000 in
theorem known3_any (w : World) : Calls Try.prog 30 #[] w fun e w' => e = .returned (.bool true) ∧ Below w.heap.size w w' := by
  have h0 := StI.fresh w
  have hB0 := (Below.refl w.heap.size w).alloc (Nat.le_refl _) (.cells #[.slice none 0 0] 51)
  have z0 : w.heap.size ≤ (w.alloc (.cells #[.slice none 0 0] 51)).heap.size := by simp
  have H0 := Lib.hid h0
  clear h0
  go_enter Try.func30, Try.ntmps30
  go_wp2_with (fail)
  with_reducible refine (pushI_any _ _ _ [] 1 _ H0.out (by simp)).mono ?_
  rintro e w1 ⟨rfl, v1, h1, m1, _⟩
  have hB1 := StI.step hB0 z0 H0.out m1
  have z1 := hB1.size
  have H1 := Lib.hid h1
  clear h1 m1 H0 hB0 z0
  go_wp2_with (fail)
  with_reducible refine (pushI_any _ _ _ [1] 2 _ H1.out (by simp)).mono ?_
  rintro e w2 ⟨rfl, v2, h2, m2, _⟩
  have hB2 := StI.step hB1 z1 H1.out m2
  have z2 := hB2.size
  have H2 := Lib.hid h2
  clear h2 m2 H1 hB1 z1
  go_wp2_with (fail)
  with_reducible refine (topI_snoc _ _ _ [1] 2 _ H2.out (by simp)).mono ?_
  rintro e w3 ⟨rfl, hd⟩
  have hB3 := hB2.trans (drawn_bl hd w.heap.size)
  have z3 := hB3.size
  have H3 := Lib.hid (H2.out.below (drawn_bl hd w2.heap.size) (Nat.le_refl _))
  clear H2 hB2 z2 hd
  go_wp2_with (fail)
  with_reducible refine (popI_snoc _ _ _ [1] 2 _ H3.out (by simp)).mono ?_
  rintro e w4 ⟨rfl, v4, h4, _, m4⟩
  have hB4 := StI.step hB3 z3 H3.out m4
  have z4 := hB4.size
  have H4 := Lib.hid h4
  clear h4 m4 H3 hB3 z3
  go_wp2_with (fail)
  with_reducible refine (lenI_any _ _ _ _ _ H4.out).mono ?_
  rintro e w5 ⟨rfl, rfl⟩
  go_wp2_with (fail)
  with_reducible refine (popI_snoc _ _ _ [] 1 _ H4.out (by simp)).mono ?_
  rintro e w5 ⟨rfl, v5, h5, _, m5⟩
  have hB5 := StI.step hB4 z4 H4.out m5
  have z5 := hB5.size
  have H5 := Lib.hid h5
  clear h5 m5 H4 hB4 z4
  go_wp2_with (fail)
  with_reducible refine (popI_nil _ _ _ _ H5.out).mono ?_
  rintro e w6 ⟨rfl, rfl⟩
  go_wp2_with (fail)
  with_reducible refine (lenI_any _ _ _ _ _ H5.out).mono ?_
  rintro e w6 ⟨rfl, rfl⟩
  go_wp2_with (fail)
  go_ret
  exact ⟨rfl, hB5⟩

theorem own_kept {base n : Nat} {e : TypeId} {size : Nat} {v : Value} {xs : List Value} {w w' : World} (hO : w.ownsRow base e size v n xs) {row : Option Nat} (hg : w.grownBy w' row) (h : v.ownBlock = none ∨ v.ownBlock ≠ row) : w'.ownsRow base e size v n xs := by
  refine ⟨hO.1, ?_⟩
  rcases hO.2 with hn | ⟨g, cap, cur, rfl, hb, hgg, rest⟩
  · exact .inl hn
  · refine .inr ⟨g, cap, cur, rfl, hb, ?_, rest⟩
    rw [hg.block g (Array.getElem?_eq_some_iff.1 hgg).1 (by simpa [Value.ownBlock] using h)]
    exact hgg
theorem StI.grown {base b : Nat} {v : Value} {L : List Int} {w w' : World} (h : StI base b v L w) {row : Option Nat} (hg : w.grownBy w' row) (h1 : row ≠ some b) (h2 : v.ownBlock = none ∨ v.ownBlock ≠ row) : StI base b v L w' :=
  ⟨h.blk.grown hg (fun e => h1 e.symm), own_kept h.own hg h2, h.base_le⟩
theorem own_new {v v' : Value} {n : Nat} (h : v'.ownBlock = v.ownBlock ∨ v'.ownBlock = some n) {u : Value} (hu : u.ownBlock = none ∨ u.ownBlock ≠ v.ownBlock) (hn : ∀ g, u.ownBlock = some g → g < n) : u.ownBlock = none ∨ u.ownBlock ≠ v'.ownBlock := by
  rcases hu with hu | hu
  · exact .inl hu
  · rcases h with h | h
    · rw [h]; exact .inr hu
    · rw [h]
      exact .inr fun e => by have := hn n e; omega

theorem dj_symm {a b : Option Nat} (h : a = none ∨ a ≠ b) : b = none ∨ b ≠ a := by
  rcases b with _ | b
  · exact .inl rfl
  · rcases h with h | h
    · right; rw [h]; simp
    · exact .inr fun e => h e.symm
theorem dj_push {v vs vs' : Value} {n : Nat} (ob : vs'.ownBlock = vs.ownBlock ∨ vs'.ownBlock = some (n + 1)) (hdj : v.ownBlock = none ∨ v.ownBlock ≠ vs.ownBlock) (hO : ∀ g, v.ownBlock = some g → g < n) : vs'.ownBlock = none ∨ vs'.ownBlock ≠ v.ownBlock := by
  rcases ob with h | h
  · rw [h]; exact dj_symm hdj
  · rw [h]
    exact .inr fun e => by have := hO _ e.symm; omega
theorem own_below {base n : Nat} {e : TypeId} {size : Nat} {v : Value} {xs : List Value} {w w' : World} (hO : w.ownsRow base e size v n xs) (hb : Below w.heap.size w w') : w'.ownsRow base e size v n xs :=
  hO.kept ⟨hb.os, hb.tape, hb.output, hb.size, fun k hk _ => hb.block k hk⟩ (row := none) (by cases v.ownBlock <;> simp)
theorem IntsRd.of_own {w : World} {base : Nat} {e : TypeId} {A : Option Addr} {c : Nat} {L : List Int} (h : w.ownsRow base e 1 (.slice A L.length c) L.length (L.map (Value.int .i64))) : IntsRd w w.heap.size A L := Reads.of_own h
/-- Behind so many rounds: the stack has L, the slice beside it the same. -/
def PlayRel (l : List Int) (w : World) (v i : Value) (wr : World) : Prop := ∃ (k : Nat) (L : List Int) (vs : Value), k ≤ l.length ∧ k ≤ 300 ∧ L.length ≤ k ∧ i = .int .i64 k ∧ StI w.heap.size w.heap.size vs L wr ∧ wr.ownsRow w.heap.size 3 1 v L.length (L.map (Value.int .i64)) ∧ v.ownBlock ≠ some w.heap.size ∧ (v.ownBlock = none ∨ v.ownBlock ≠ vs.ownBlock) ∧ Below w.heap.size w wr

set_option maxRecDepth 100000 in
set_option maxHeartbeats 4000000 in
theorem stackPlays_walk (A : Option Addr) (c : Nat) (l : List Int) {w : World} (hq : IntsAt w w.heap.size A l) (hl : l.length * 8 ≤ 140737488351232) (hc : l.length ≤ c) (hw : ∀ i, i < l.length → -9223372036854775808 ≤ keyAt l i ∧ keyAt l i ≤ 9223372036854775807) :
    Calls Try.prog 11 #[.slice A l.length c] w fun e w' => e = .returned (.bool true) ∧ Below w.heap.size w w' := by
  obtain ⟨i0, hi0, hz0, hz1, hz2⟩ := info_parts info_int3
  have HQ := Lib.hid hq
  have HW := Lib.hid hw
  have H0 := Lib.hid (StI.fresh w)
  have hB0 := (Below.refl w.heap.size w).alloc (Nat.le_refl _) (.cells #[.slice none 0 0] 51)
  clear hq hw
  go_enter Try.func11, Try.ntmps11
  go_wp2
  go_loopw [4, 5] (fun v i wr => PlayRel l w v i wr) (fun _ i _ => l.length - (intOf i).toNat)
  case atStart => unfold PlayRel; exact ⟨0, [], _, by omega, by omega, Nat.le_refl _, rfl, H0.out, World.ownsRow_nil _ _ _ _, by simp [Value.ownBlock], .inl rfl, hB0⟩
  case round =>
    obtain ⟨k, L, vs, k1, k2, k3, rfl, hS, hO, hne, hdj, hB⟩ := hrel
    by_cases hlt : k < l.length ∧ k < 300
    · obtain ⟨hlt1, hlt2⟩ := hlt
      obtain ⟨ad, rfl, hbl, hcc⟩ := (HQ.out.below hB).cells (by omega)
      have hx0 := hcc k hlt1
      obtain ⟨x0, x1⟩ := HW.out k hlt1
      obtain ⟨x, hx⟩ : ∃ x, keyAt l k = x := ⟨_, rfl⟩
      rw [hx] at hx0 x0 x1
      have HX := Lib.hid hx
      clear hcc hx
      by_cases hr : x.tmod 3 = 0
      · have hr1 : (x.tmod 3 != 0) = false := by simpa using hr
        clear hr
        rcases List.eq_nil_or_concat L with hL | ⟨L', y, hL⟩
        · subst hL
          obtain ⟨A1, c1, rfl⟩ := own_shape hO
          have HS := Lib.hid hS
          have HO := Lib.hid hO
          clear hS hO
          go_wp2_with (fail)
          with_reducible refine (popI_nil _ _ _ _ HS.out).mono ?_
          rintro e w1 ⟨rfl, rfl⟩
          go_wp2_with (fail)
          go_roundw
          case rel => unfold PlayRel; exact ⟨k + 1, [], vs, by omega, by omega, by simp, by go_num, HS.out, HO.out, hne, hdj, hB⟩
          case measure => simp [intOf]; omega
        · rw [List.concat_eq_append] at hL
          subst hL
          obtain ⟨A1, c1, rfl⟩ := own_shape hO
          have hln : (L' ++ [y]).length = L'.length + 1 := by simp
          rw [hln] at hO k3 hne hdj ⊢
          have HS := Lib.hid hS
          have HO := Lib.hid hO
          clear hS hO hln
          go_wp2_with (fail)
          with_reducible refine (popI_snoc _ _ _ L' y _ HS.out (by omega)).mono ?_
          rintro e w1 ⟨rfl, vs', hS1, ob, m1⟩
          have hB1 := StI.step hB hB.size HS.out m1
          have hO1 := m1.own HO.out hne hdj
          obtain ⟨g, c2, hv, _, hlt3⟩ := hO1.form (by omega)
          injection hv with hA _ hcc
          subst hA hcc
          have hy1 : w1.cell? ⟨g, L'.length, none⟩ = some (.int .i64 y) := by rw [hO1.cellAt L'.length (by simp)]; simp
          have hp := ownsRow_pop (n := L'.length) (size := 1) (xs := L'.map (Value.int .i64)) (last := [.int .i64 y]) (by simp) (by rw [map_snoc] at hO1; exact hO1)
          have HS1 := Lib.hid hS1
          have HO1 := Lib.hid hp
          have hlc : L'.length + 1 ≤ c1 := own_cap hO1
          have e1 : (L'.length : Int) + 1 - 1 = L'.length := by omega
          have hdj1 : (Value.slice (some ⟨g, 0, none⟩) L'.length c1).ownBlock = none ∨ (Value.slice (some ⟨g, 0, none⟩) L'.length c1).ownBlock ≠ vs'.ownBlock := by rw [ob]; exact hdj
          clear HS HO hO1 hp hS1 ob m1 hdj
          go_wp2_with (fail)
          go_roundw
          case rel => unfold PlayRel; exact ⟨k + 1, L', vs', by omega, by omega, by omega, by go_num, HS1.out, HO1.out, hne, hdj1, hB1⟩
          case measure => simp [intOf]; omega
      · have hr1 : (x.tmod 3 != 0) = true := by simpa using hr
        clear hr
        have HS := Lib.hid hS
        have HO := Lib.hid hO
        clear hS hO
        go_wp2_with (fail)
        with_reducible refine (pushI_any _ _ _ L x _ HS.out (by omega)).mono ?_
        rintro e w1 ⟨rfl, vs', hS1, m1, ob⟩
        have hB1 := StI.step hB hB.size HS.out m1
        have hO1 := m1.own HO.out hne hdj
        obtain ⟨ad2, had, hbl1, hcc1⟩ := (HQ.out.below hB1).cells (by omega)
        injection had with had
        subst had
        have hx1 := hcc1 k hlt1
        rw [HX.out] at hx1
        have HS1 := Lib.hid hS1
        have hsz1 := hB1.size
        have hsz0 := m1.size
        have hvs := dj_push ob hdj (fun g h => (HO.out.lt g h).2)
        clear hcc1 hS1 m1 ob HO
        go_wp2_with (at_builtin; refine wpList_append_any _ rfl _ _ 48 rfl w.heap.size 3 i0 (.int .i64 0) 1 8 Try.underlying48 hi0 hz0 hz1 hz2 rfl (by decide) _ L.length (L.map (Value.int .i64)) rfl (hO1.alloc _) (w1.heap.size + 1) (some ⟨w1.heap.size, 0, none⟩) 1 1 [Value.int .i64 x] rfl (reads_one _ _ _) (one_of _ rfl) ?p1 ?p2 ?p3 ?_; (case p1 => (unfold maxLen; omega)); (case p2 => omega); (case p3 => (have := World.size_alloc w1 (.cells #[Value.int .i64 x] 3); omega)); intro v' w2 hO2 hg hvb)
        have hS2 : StI w.heap.size w.heap.size vs' (L ++ [x]) w2 := (HS1.out.below (B := w1.heap.size) ((Below.refl _ w1).alloc (Nat.le_refl _) _) (Nat.le_refl _)).grown hg hne hvs
        have hB2 : Below w.heap.size w w2 := (hB1.alloc hsz1 _).grown hg (by simp; omega) (fun g h => (hO1.lt g h).1)
        have hdj2 := dj_symm (own_new (u := vs') hvb hvs (fun g h => by have := (HS1.out.own.lt g h).2; simp; omega))
        have hne2 : v'.ownBlock ≠ some w.heap.size := by
          rcases hvb with h | h
          · rw [h]; exact hne
          · rw [h]; simp; omega
        have hln : (L ++ [x]).length = L.length + 1 := by simp
        have hO3 : w2.ownsRow w.heap.size 3 1 v' (L ++ [x]).length ((L ++ [x]).map (Value.int .i64)) := by rw [map_snoc, hln]; exact hO2
        go_roundw
        case rel => unfold PlayRel; exact ⟨k + 1, L ++ [x], vs', by omega, by omega, by rw [hln]; omega, by go_num, hS2, hO3, hne2, hdj2, hB2⟩
        case measure => simp [intOf]; omega
    · obtain ⟨A1, c1, rfl⟩ := own_shape hO
      have HS := Lib.hid hS
      have HO := Lib.hid hO
      clear hS hO
      by_cases hlt1 : k < l.length
      · have hlt3 : ¬ (k : Int) < 300 := by omega
        clear hlt
        go_wp2_with (fail)
        with_reducible refine (known3_any _).mono ?_
        rintro e w1 ⟨rfl, hb⟩
        have hB1 := below_called hB hb
        have HO1 := Lib.hid (own_below HO.out hb)
        have HS1 := Lib.hid (HS.out.below hb (Nat.le_refl _))
        have hz1 := hB1.size
        clear hb HS HO hB
        go_wp2_with (fail)
        with_reducible refine (same_any _ _ _ L A1 c1 _ HS1.out (IntsRd.of_own HO1.out) (by omega)).mono ?_
        rintro e w2 ⟨rfl, hb⟩
        have hB2 := below_called hB1 hb
        go_wp2_with (fail)
        go_ret
        exact ⟨rfl, hB2⟩
      · clear hlt
        go_wp2_with (fail)
        with_reducible refine (known3_any _).mono ?_
        rintro e w1 ⟨rfl, hb⟩
        have hB1 := below_called hB hb
        have HO1 := Lib.hid (own_below HO.out hb)
        have HS1 := Lib.hid (HS.out.below hb (Nat.le_refl _))
        have hz1 := hB1.size
        clear hb HS HO hB
        go_wp2_with (fail)
        with_reducible refine (same_any _ _ _ L A1 c1 _ HS1.out (IntsRd.of_own HO1.out) (by omega)).mono ?_
        rintro e w2 ⟨rfl, hb⟩
        have hB2 := below_called hB1 hb
        go_wp2_with (fail)
        go_ret
        exact ⟨rfl, hB2⟩
end Go.Proofs.Ytkfgnacbifiadaa
