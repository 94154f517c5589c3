/- The walk of StackTwo. -/
import Derived.Test.YtkfgnacbifiadaaStackLeft
import Derived.Test.YtkfgnacbifiadaaRowStrs
namespace Go.Proofs.Ytkfgnacbifiadaa
set_option linter.unusedVariables false
set_option linter.unusedSimpArgs false
open Go.RowKit Go.Shelf
attribute [local go_sem] max2_int max_two min2_int min_two

theorem StrsAt.cells {w : World} {B : Nat} {A : Option Addr} {q : List ByteArray} (h : StrsAt w B A q) (hl : 0 < q.length) : ∃ ad, A = some ad ∧ ad.block < B ∧ ∀ k, k < q.length → w.cell? (ad.add k) = some (.string (txt q k)) := by
  obtain ⟨ad, e, hb, hc⟩ := h.2 hl
  refine ⟨ad, e, hb, fun k hk => hc k _ ?_⟩
  unfold txt
  rw [List.getElem?_map, List.getD_eq_getElem?_getD, List.getElem?_eq_getElem hk]
  rfl
theorem StrsAt.below {w w' : World} {B : Nat} {A : Option Addr} {q : List ByteArray} (h : StrsAt w B A q) (hb : Below B w w') : StrsAt w' B A q := Reads.below h hb
theorem take_snoc_int {l : List Int} {k : Nat} (h : k < l.length) : l.take (k + 1) = l.take k ++ [keyAt l k] := by rw [List.take_add_one, List.getElem?_eq_getElem h]; simp [keyAt, List.getD_eq_getElem?_getD, h]
theorem take_snoc_txt {l : List ByteArray} {k : Nat} (h : k < l.length) : l.take (k + 1) = l.take k ++ [txt l k] := by rw [List.take_add_one, List.getElem?_eq_getElem h]; simp [txt, List.getD_eq_getElem?_getD, h]

/-- Both stacks. -/
structure Two (B n : Nat) (va vb : Value) (La : List Int) (Lb : List ByteArray) (w0 w : World) : Prop where
  a : StI B n va La w
  b : StS B (n + 1) vb Lb w
  below : Below B w0 w
  base : B ≤ n
  base0 : B ≤ w0.heap.size
theorem own_ne_own {base base' n n' : Nat} {e e' : TypeId} {size size' : Nat} {v v' : Value} {xs xs' : List Value} {w : World} (h : w.ownsRow base e size v n xs) (h' : w.ownsRow base' e' size' v' n' xs') (hne : e ≠ e') : v.ownBlock = none ∨ v.ownBlock ≠ v'.ownBlock := by
  rcases h'.2 with ⟨rfl, _⟩ | ⟨g, cap, cur, rfl, _, hh, _⟩
  · rcases hv : v.ownBlock with _ | g
    · exact .inl rfl
    · exact .inr (by simp [Value.ownBlock])
  · exact .inr (own_blk_ne h (g := g) (t := e') (cs := cur) hh hne)
theorem Two.start (w : World) : Two w.heap.size w.heap.size (.slice none 0 0) (.slice none 0 0) [] [] w ((w.alloc (.cells #[.slice none 0 0] 51)).alloc (.cells #[.slice none 0 0] 40)) := by
  have h1 := (Blk.new w 51 #[.slice none 0 0]).alloc (.cells #[.slice none 0 0] 40)
  have h2 := Blk.new (w.alloc (.cells #[.slice none 0 0] 51)) 40 #[.slice none 0 0]
  simp only [World.size_alloc] at h2
  exact ⟨⟨h1, World.ownsRow_nil _ _ _ _, Nat.le_refl _⟩, ⟨h2, World.ownsRow_nil _ _ _ _, by omega⟩, ((Below.refl _ w).alloc (Nat.le_refl _) _).alloc (by simp) _, Nat.le_refl _, Nat.le_refl _⟩
section
variable {B n : Nat} {va vb v' : Value} {La L' : List Int} {Lb M' : List ByteArray} {w0 w w' : World}
theorem Two.onA (h : Two B n va vb La Lb w0 w) (h' : StI B n v' L' w') (m : Mv n va.ownBlock w w') : Two B n v' vb L' Lb w0 w' :=
  ⟨h', ⟨m.blk h.b.blk (by omega) (fun e => own_blk_ne h.a.own h.b.blk (by decide) e.symm), m.own h.b.own (own_blk_ne h.b.own h.a.blk (by decide)) (own_ne_own h.b.own h.a.own (by decide)), h.b.base_le⟩,
    h.below.trans (m.below h.base (Nat.le_trans h.base0 h.below.size) (fun g hg => (h.a.own.lt g hg).1)), h.base, h.base0⟩
theorem Two.onB (h : Two B n va vb La Lb w0 w) (h' : StS B (n + 1) v' M' w') (m : Mv (n + 1) vb.ownBlock w w') : Two B n va v' La M' w0 w' :=
  ⟨⟨m.blk h.a.blk (by omega) (fun e => own_blk_ne h.b.own h.a.blk (by decide) e.symm), m.own h.a.own (own_blk_ne h.a.own h.b.blk (by decide)) (own_ne_own h.a.own h.b.own (by decide)), h.a.base_le⟩, h',
    h.below.trans (m.below (by have := h.base; omega) (Nat.le_trans h.base0 h.below.size) (fun g hg => (h.b.own.lt g hg).1)), h.base, h.base0⟩
theorem Two.later (h : Two B n va vb La Lb w0 w) (hb : Below w.heap.size w w') : Two B n va vb La Lb w0 w' :=
  ⟨h.a.below hb (Nat.le_refl _), h.b.below hb (Nat.le_refl _), h.below.trans (hb.mono (Nat.le_trans h.base0 h.below.size)), h.base, h.base0⟩
end

set_option maxRecDepth 100000 in
set_option maxHeartbeats 4000000 in
theorem stackTwo_walk (A : Option Addr) (c : Nat) (l : List Int) (A2 : Option Addr) (c2 : Nat) (t : List ByteArray) {w : World} (hq : IntsAt w w.heap.size A l) (hl : l.length * 8 ≤ 140737488351232) (hc : l.length ≤ c) (hw : ∀ i, i < l.length → -9223372036854775808 ≤ keyAt l i ∧ keyAt l i ≤ 9223372036854775807) (ht : StrsAt w w.heap.size A2 t) (htl : t.length ≤ 140737488351232) :
    Calls Try.prog 13 #[.slice A l.length c, .slice A2 t.length c2] w fun e w' => e = .returned (.bool true) ∧ Below w.heap.size w w' := by
  have HQ := Lib.hid hq
  have HT := Lib.hid ht
  have T0 := Two.start w
  clear hq ht hw
  go_enter Try.func13, Try.ntmps13
  obtain ⟨mx, hmx0⟩ : ∃ mx : Nat, mx = max l.length t.length := ⟨_, rfl⟩
  have hx1 : l.length ≤ mx := by omega
  have hx2 : t.length ≤ mx := by omega
  have hx3 : Hid (mx = l.length ∨ mx = t.length) := Lib.hid (by omega)
  have hmx : (if (l.length : Int) < (t.length : Int) then (t.length : Int) else (l.length : Int)) = (mx : Int) := by split <;> omega
  have hmxN : (if l.length < t.length then (t.length : Int) else (l.length : Int)) = (mx : Int) := by split <;> omega
  clear hmx0
  go_wp2
  go_loopw [7] (fun i wr => ∃ (k : Nat) (va vb : Value), k ≤ 200 ∧ i = .int .i64 k ∧ Two w.heap.size w.heap.size va vb (l.take k) (t.take k) w wr) (fun i _ => 200 - (intOf i).toNat)
  case atStart => exact ⟨0, _, _, by omega, rfl, by simpa using T0⟩
  case round =>
    obtain ⟨k, va, vb, k1, rfl, h⟩ := hrel
    clear T0
    have H := Lib.hid h
    clear h
    by_cases h3 : k < 200
    · by_cases h1 : k < l.length
      · have hlx : (k : Int) < mx := by omega
        by_cases h2 : k < t.length
        · obtain ⟨ad, rfl, hbl, hcc⟩ := (HQ.out.below H.out.below).cells (by omega)
          have hx0 := hcc k h1
          have et := Lib.hid (take_snoc_int h1)
          obtain ⟨x, hx⟩ : ∃ x, keyAt l k = x := ⟨_, rfl⟩
          rw [hx] at hx0 et
          clear hcc hx
          go_wp2_with (fail)
          with_reducible refine (pushI_any _ _ _ (l.take k) x _ H.out.a (by rw [List.length_take]; omega)).mono ?_
          rintro e w2 ⟨rfl, va', ha', m1, _⟩
          have H2 := Lib.hid (H.out.onA ha' m1)
          rw [← et.out] at H2
          clear ha' m1 H hx0
          obtain ⟨ad2, rfl, hbl2, hcc⟩ := (HT.out.below H2.out.below).cells (by omega)
          have hy0 := hcc k h2
          have et2 := Lib.hid (take_snoc_txt h2)
          obtain ⟨y, hy⟩ : ∃ y, txt t k = y := ⟨_, rfl⟩
          rw [hy] at hy0 et2
          clear hcc hy
          go_wp2_with (fail)
          with_reducible refine (pushS_any _ _ _ (t.take k) y _ H2.out.b (by rw [List.length_take]; omega)).mono ?_
          rintro e w3 ⟨rfl, vb', hb', m1, _⟩
          have H3 := Lib.hid (H2.out.onB hb' m1)
          rw [← et2.out] at H3
          clear hb' m1 H2 hy0
          go_wp2_with (fail)
          go_roundw
          case rel => exact ⟨k + 1, va', vb', by omega, by go_num, H3.out⟩
          case measure => simp [intOf]; omega
        · obtain ⟨ad, rfl, hbl, hcc⟩ := (HQ.out.below H.out.below).cells (by omega)
          have hx0 := hcc k h1
          have et := Lib.hid (take_snoc_int h1)
          obtain ⟨x, hx⟩ : ∃ x, keyAt l k = x := ⟨_, rfl⟩
          rw [hx] at hx0 et
          clear hcc hx
          go_wp2_with (fail)
          with_reducible refine (pushI_any _ _ _ (l.take k) x _ H.out.a (by rw [List.length_take]; omega)).mono ?_
          rintro e w2 ⟨rfl, va', ha', m1, _⟩
          have H2 := Lib.hid (H.out.onA ha' m1)
          rw [← et.out] at H2
          clear ha' m1 H hx0
          have et2 : t.take (k + 1) = t.take k := by rw [List.take_of_length_le (by omega), List.take_of_length_le (by omega)]
          have ET := Lib.hid et2
          clear et2
          go_wp2_with (fail)
          go_roundw
          case rel => exact ⟨k + 1, va', vb, by omega, by go_num, by rw [ET.out]; exact H2.out⟩
          case measure => simp [intOf]; omega
      · by_cases h2 : k < t.length
        · have hlx : (k : Int) < mx := by omega
          have et : l.take (k + 1) = l.take k := by rw [List.take_of_length_le (by omega), List.take_of_length_le (by omega)]
          have ET := Lib.hid et
          clear et
          obtain ⟨ad2, rfl, hbl2, hcc⟩ := (HT.out.below H.out.below).cells (by omega)
          have hy0 := hcc k h2
          have et2 := Lib.hid (take_snoc_txt h2)
          obtain ⟨y, hy⟩ : ∃ y, txt t k = y := ⟨_, rfl⟩
          rw [hy] at hy0 et2
          clear hcc hy
          go_wp2_with (fail)
          with_reducible refine (pushS_any _ _ _ (t.take k) y _ H.out.b (by rw [List.length_take]; omega)).mono ?_
          rintro e w3 ⟨rfl, vb', hb', m1, _⟩
          have H3 := Lib.hid (H.out.onB hb' m1)
          rw [← et2.out] at H3
          clear hb' m1 H hy0
          go_wp2_with (fail)
          go_roundw
          case rel => exact ⟨k + 1, va, vb', by omega, by go_num, by rw [ET.out]; exact H3.out⟩
          case measure => simp [intOf]; omega
        · have hlx : ¬ (k : Int) < mx := by have := hx3.out; omega
          rw [List.take_of_length_le (show l.length ≤ k by omega), List.take_of_length_le (show t.length ≤ k by omega)] at H
          have hst : Hid (∀ n, n < t.length → txt t n = txt t n) := Lib.hid (fun n _ => rfl)
          have HM := HQ
          have hm1 : l.length ≤ 200 := by omega
          have hs1 : t.length ≤ 200 := by omega
          go_wp2_with (fail)
          obtain ⟨wo, rfl⟩ : ∃ wo : World, wo = wr := ⟨_, rfl⟩
          go_loopw [8] (fun i wz => ∃ (j : Nat) (va vb : Value), j ≤ t.length ∧ i = .int .i64 ((j : Int) - 1) ∧ Two w.heap.size w.heap.size va vb l (t.take j) w wz) (fun i _ => (intOf i + 1).toNat)
          case atStart => exact ⟨t.length, va, vb, Nat.le_refl _, rfl, by rw [List.take_of_length_le (Nat.le_refl _)]; exact H.out⟩
          case round =>
            obtain ⟨j, va, vb, j1, rfl, h⟩ := hrel
            clear H
            have H := Lib.hid h
            clear h
            rcases j with _ | n
            · have e0 : ((0 : Nat) : Int) - 1 = -1 := by omega
              rw [e0]
              go_wp2_with (fail)
              with_reducible refine (known3_any _).mono ?_
              rintro e w3 ⟨rfl, hb⟩
              have H3 := Lib.hid (H.out.later hb)
              clear hb H
              go_wp2_with (fail)
              with_reducible refine (lenS_any _ _ _ [] _ H3.out.b).mono ?_
              rintro e w4 ⟨rfl, rfl⟩
              go_wp2_with (fail)
              with_reducible refine (same_any _ _ _ l A c _ H3.out.a (IntsRd.of_at ((HM.out.below H3.out.below).more H3.out.below.size)) (by omega)).mono ?_
              rintro e w4 ⟨rfl, hb⟩
              have H4 := Lib.hid (H3.out.later hb)
              go_wp2_with (fail)
              go_ret
              exact ⟨rfl, H4.out.below⟩
            · have e1 : ((n + 1 : Nat) : Int) - 1 = n := by omega
              rw [e1]
              have et := Lib.hid (take_snoc_txt (l := t) (k := n) (by omega))
              obtain ⟨x, hx⟩ : ∃ x, txt t n = x := ⟨_, rfl⟩
              rw [hx] at et
              have HX := Lib.hid hx
              rw [et.out] at H
              clear hx
              go_wp2_with (fail)
              with_reducible refine (popS_snoc _ _ _ (t.take n) x _ H.out.b (by rw [List.length_take]; omega)).mono ?_
              rintro e w3 ⟨rfl, vb', hb', ob, m1⟩
              have H3 := Lib.hid (H.out.onB hb' m1)
              obtain ⟨ad2, rfl, hbl2, hcc⟩ := (HT.out.below H3.out.below).cells (by omega)
              have hy0 := hcc n (by omega)
              rw [HX.out] at hy0
              have hnt : (n : Int) < t.length := by omega
              clear hcc hb' ob m1 H
              go_wp2_with (fail)
              go_roundw
              case rel => exact ⟨n, va, vb', by omega, rfl, H3.out⟩
              case measure => simp [intOf]
    · have ek : k = 200 := by omega
      have hk2 : ¬ (k : Int) < 200 := by omega
      by_cases hlx : (k : Int) < mx
      · have em : l.take k = l.take 200 := by
          rcases (show k = 200 ∨ l.length ≤ k by omega) with e | e
          · rw [e]
          · rw [List.take_of_length_le e, List.take_of_length_le (by omega)]
        have es : t.take k = t.take 200 := by
          rcases (show k = 200 ∨ t.length ≤ k by omega) with e | e
          · rw [e]
          · rw [List.take_of_length_le e, List.take_of_length_le (by omega)]
        rw [em, es] at H
        clear em es
        have hmL : Hid ((l.take 200).length = min l.length 200) := Lib.hid (by rw [List.length_take]; omega)
        have hsL : Hid ((t.take 200).length = min t.length 200) := Lib.hid (by rw [List.length_take]; omega)
        have hst : Hid (∀ n, n < (t.take 200).length → txt (t.take 200) n = txt t n) := Lib.hid (fun n hn => by rw [List.length_take] at hn; simp only [txt, List.getD_eq_getElem?_getD, List.getElem?_take]; rw [if_pos (by omega)])
        have HM := Lib.hid (HQ.out.take 200)
        generalize l.take 200 = m at H hmL HM
        generalize t.take 200 = s at H hsL hst
        have hmin : (if (200 : Int) < (t.length : Int) then (200 : Int) else (t.length : Int)) = (s.length : Int) := by have := hsL.out; split <;> omega
        have hmin2 : (if (200 : Int) < (l.length : Int) then (200 : Int) else (l.length : Int)) = (m.length : Int) := by have := hmL.out; split <;> omega
        have hm1 : m.length ≤ 200 := by have := hmL.out; omega
        have hs1 : s.length ≤ 200 := by have := hsL.out; omega
        have hs2 : s.length ≤ t.length := by have := hsL.out; omega
        have hm2 : m.length ≤ c := by have := hmL.out; omega
        go_wp2_with (fail)
        obtain ⟨wo, rfl⟩ : ∃ wo : World, wo = wr := ⟨_, rfl⟩
        go_loopw [8] (fun i wz => ∃ (j : Nat) (va vb : Value), j ≤ s.length ∧ i = .int .i64 ((j : Int) - 1) ∧ Two w.heap.size w.heap.size va vb m (s.take j) w wz) (fun i _ => (intOf i + 1).toNat)
        case atStart => exact ⟨s.length, va, vb, Nat.le_refl _, rfl, by rw [List.take_of_length_le (Nat.le_refl _)]; exact H.out⟩
        case round =>
          obtain ⟨j, va, vb, j1, rfl, h⟩ := hrel
          clear H
          have H := Lib.hid h
          clear h
          rcases j with _ | n
          · have e0 : ((0 : Nat) : Int) - 1 = -1 := by omega
            rw [e0]
            go_wp2_with (fail)
            with_reducible refine (known3_any _).mono ?_
            rintro e w3 ⟨rfl, hb⟩
            have H3 := Lib.hid (H.out.later hb)
            clear hb H
            go_wp2_with (fail)
            with_reducible refine (lenS_any _ _ _ [] _ H3.out.b).mono ?_
            rintro e w4 ⟨rfl, rfl⟩
            go_wp2_with (fail)
            with_reducible refine (same_any _ _ _ m A c _ H3.out.a (IntsRd.of_at ((HM.out.below H3.out.below).more H3.out.below.size)) (by omega)).mono ?_
            rintro e w4 ⟨rfl, hb⟩
            have H4 := Lib.hid (H3.out.later hb)
            go_wp2_with (fail)
            go_ret
            exact ⟨rfl, H4.out.below⟩
          · have e1 : ((n + 1 : Nat) : Int) - 1 = n := by omega
            rw [e1]
            have et := Lib.hid (take_snoc_txt (l := s) (k := n) (by omega))
            obtain ⟨x, hx⟩ : ∃ x, txt s n = x := ⟨_, rfl⟩
            have hx2 := hst.out n (by omega)
            rw [hx] at et hx2
            have HX := Lib.hid hx2.symm
            rw [et.out] at H
            clear hx hx2
            go_wp2_with (fail)
            with_reducible refine (popS_snoc _ _ _ (s.take n) x _ H.out.b (by rw [List.length_take]; omega)).mono ?_
            rintro e w3 ⟨rfl, vb', hb', ob, m1⟩
            have H3 := Lib.hid (H.out.onB hb' m1)
            obtain ⟨ad2, rfl, hbl2, hcc⟩ := (HT.out.below H3.out.below).cells (by omega)
            have hy0 := hcc n (by omega)
            rw [HX.out] at hy0
            have hnt : (n : Int) < t.length := by omega
            clear hcc hb' ob m1 H
            go_wp2_with (fail)
            go_roundw
            case rel => exact ⟨n, va, vb', by omega, rfl, H3.out⟩
            case measure => simp [intOf]
      · have em : l.take k = l.take 200 := by
          rcases (show k = 200 ∨ l.length ≤ k by omega) with e | e
          · rw [e]
          · rw [List.take_of_length_le e, List.take_of_length_le (by omega)]
        have es : t.take k = t.take 200 := by
          rcases (show k = 200 ∨ t.length ≤ k by omega) with e | e
          · rw [e]
          · rw [List.take_of_length_le e, List.take_of_length_le (by omega)]
        rw [em, es] at H
        clear em es
        have hmL : Hid ((l.take 200).length = min l.length 200) := Lib.hid (by rw [List.length_take]; omega)
        have hsL : Hid ((t.take 200).length = min t.length 200) := Lib.hid (by rw [List.length_take]; omega)
        have hst : Hid (∀ n, n < (t.take 200).length → txt (t.take 200) n = txt t n) := Lib.hid (fun n hn => by rw [List.length_take] at hn; simp only [txt, List.getD_eq_getElem?_getD, List.getElem?_take]; rw [if_pos (by omega)])
        have HM := Lib.hid (HQ.out.take 200)
        generalize l.take 200 = m at H hmL HM
        generalize t.take 200 = s at H hsL hst
        have hmin : (if (200 : Int) < (t.length : Int) then (200 : Int) else (t.length : Int)) = (s.length : Int) := by have := hsL.out; split <;> omega
        have hmin2 : (if (200 : Int) < (l.length : Int) then (200 : Int) else (l.length : Int)) = (m.length : Int) := by have := hmL.out; split <;> omega
        have hm1 : m.length ≤ 200 := by have := hmL.out; omega
        have hs1 : s.length ≤ 200 := by have := hsL.out; omega
        have hs2 : s.length ≤ t.length := by have := hsL.out; omega
        have hm2 : m.length ≤ c := by have := hmL.out; omega
        go_wp2_with (fail)
        obtain ⟨wo, rfl⟩ : ∃ wo : World, wo = wr := ⟨_, rfl⟩
        go_loopw [8] (fun i wz => ∃ (j : Nat) (va vb : Value), j ≤ s.length ∧ i = .int .i64 ((j : Int) - 1) ∧ Two w.heap.size w.heap.size va vb m (s.take j) w wz) (fun i _ => (intOf i + 1).toNat)
        case atStart => exact ⟨s.length, va, vb, Nat.le_refl _, rfl, by rw [List.take_of_length_le (Nat.le_refl _)]; exact H.out⟩
        case round =>
          obtain ⟨j, va, vb, j1, rfl, h⟩ := hrel
          clear H
          have H := Lib.hid h
          clear h
          rcases j with _ | n
          · have e0 : ((0 : Nat) : Int) - 1 = -1 := by omega
            rw [e0]
            go_wp2_with (fail)
            with_reducible refine (known3_any _).mono ?_
            rintro e w3 ⟨rfl, hb⟩
            have H3 := Lib.hid (H.out.later hb)
            clear hb H
            go_wp2_with (fail)
            with_reducible refine (lenS_any _ _ _ [] _ H3.out.b).mono ?_
            rintro e w4 ⟨rfl, rfl⟩
            go_wp2_with (fail)
            with_reducible refine (same_any _ _ _ m A c _ H3.out.a (IntsRd.of_at ((HM.out.below H3.out.below).more H3.out.below.size)) (by omega)).mono ?_
            rintro e w4 ⟨rfl, hb⟩
            have H4 := Lib.hid (H3.out.later hb)
            go_wp2_with (fail)
            go_ret
            exact ⟨rfl, H4.out.below⟩
          · have e1 : ((n + 1 : Nat) : Int) - 1 = n := by omega
            rw [e1]
            have et := Lib.hid (take_snoc_txt (l := s) (k := n) (by omega))
            obtain ⟨x, hx⟩ : ∃ x, txt s n = x := ⟨_, rfl⟩
            have hx2 := hst.out n (by omega)
            rw [hx] at et hx2
            have HX := Lib.hid hx2.symm
            rw [et.out] at H
            clear hx hx2
            go_wp2_with (fail)
            with_reducible refine (popS_snoc _ _ _ (s.take n) x _ H.out.b (by rw [List.length_take]; omega)).mono ?_
            rintro e w3 ⟨rfl, vb', hb', ob, m1⟩
            have H3 := Lib.hid (H.out.onB hb' m1)
            obtain ⟨ad2, rfl, hbl2, hcc⟩ := (HT.out.below H3.out.below).cells (by omega)
            have hy0 := hcc n (by omega)
            rw [HX.out] at hy0
            have hnt : (n : Int) < t.length := by omega
            clear hcc hb' ob m1 H
            go_wp2_with (fail)
            go_roundw
            case rel => exact ⟨n, va, vb', by omega, rfl, H3.out⟩
            case measure => simp [intOf]
end Go.Proofs.Ytkfgnacbifiadaa
