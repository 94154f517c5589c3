/- Wide: the strictly ascending keys of raw numbers. -/
import Derived.Test.YtblajeildolloaaGreatPairs
namespace Go.Proofs.YtblajeildolloaaGreat
set_option linter.unusedVariables false
set_option linter.unusedSimpArgs false
open Go.RowKit

def keysP (L : List (Int × Int)) : List Int := L.map (·.1)
theorem keysP_len (L : List (Int × Int)) : (keysP L).length = L.length := by simp [keysP]
theorem keysP_at (L : List (Int × Int)) (i : Nat) (h : i < L.length) : keyAt (keysP L) i = pkey L i := by
  unfold keyAt pkey keysP
  rw [List.getD_eq_getElem?_getD, List.getD_eq_getElem?_getD]
  simp [h]
def putR : List (Int × Int) → Int → Int → List (Int × Int)
  | [], k, v => [(k, v)]
  | p :: L, k, v => if p.1 < k then p :: putR L k v else if p.1 = k then (k, v) :: L else (k, v) :: p :: L
theorem putP_eq : ∀ (L : List (Int × Int)) (k v : Int), putP L k v = putR L k v
  | [], k, v => rfl
  | p :: L, k, v => by
    have ih := putP_eq L k v
    unfold putP at ih ⊢
    by_cases c : p.1 < k
    · have ep : placeP (p :: L) k = placeP L k + 1 := by simp [placeP, c]
      have er : putR (p :: L) k v = p :: putR L k v := by simp [putR, c]
      have e : pkey (p :: L) (placeP L k + 1) = pkey L (placeP L k) := rfl
      simp only [ep, er, e]
      rw [← ih]
      by_cases d : placeP L k < L.length ∧ pkey L (placeP L k) = k
      · rw [if_pos d, if_pos ⟨by simp only [List.length_cons]; omega, d.2⟩]; simp
      · rw [if_neg d, if_neg fun h => d ⟨by have := h.1; simp only [List.length_cons] at this; omega, h.2⟩]; simp
    · have ep : placeP (p :: L) k = 0 := by simp [placeP, c]
      have e : pkey (p :: L) 0 = p.1 := rfl
      simp only [ep, e]
      by_cases d : p.1 = k
      · have er : putR (p :: L) k v = (k, v) :: L := by simp only [putR]; rw [if_neg c, if_pos d]
        rw [er, if_pos ⟨by simp, d⟩]; simp
      · have er : putR (p :: L) k v = (k, v) :: p :: L := by simp only [putR]; rw [if_neg c, if_neg d]
        rw [er, if_neg fun h => d h.2]; simp
theorem putR_mem : ∀ (L : List (Int × Int)) (k v x : Int), x ∈ keysP (putR L k v) → x = k ∨ x ∈ keysP L
  | [], k, v, x, h => by simp [putR, keysP] at h; exact .inl h
  | p :: L, k, v, x, h => by
    simp only [putR] at h
    split at h
    · simp only [keysP, List.map_cons, List.mem_cons] at h ⊢
      rcases h with h | h
      · exact .inr (.inl h)
      · rcases putR_mem L k v x h with h | h
        · exact .inl h
        · exact .inr (.inr h)
    · split at h
      · simp only [keysP, List.map_cons, List.mem_cons] at h ⊢
        rcases h with h | h
        · exact .inl h
        · exact .inr (.inr h)
      · simp only [keysP, List.map_cons, List.mem_cons] at h ⊢
        exact h
theorem putR_asc : ∀ (L : List (Int × Int)) (k v : Int), (keysP L).Pairwise (· < ·) → (keysP (putR L k v)).Pairwise (· < ·)
  | [], k, v, _ => by simp [putR, keysP]
  | p :: L, k, v, h => by
    have h' : (∀ x ∈ keysP L, p.1 < x) ∧ (keysP L).Pairwise (· < ·) := List.pairwise_cons.1 h
    simp only [putR]
    split
    · rename_i c
      refine List.pairwise_cons.2 ⟨fun x hx => ?_, putR_asc L k v h'.2⟩
      rcases putR_mem L k v x hx with e | e
      · subst e; exact c
      · exact h'.1 x e
    · split
      · rename_i c d
        exact List.pairwise_cons.2 ⟨fun x hx => by have := h'.1 x hx; simp only; omega, h'.2⟩
      · rename_i c d
        refine List.pairwise_cons.2 ⟨fun x hx => ?_, h⟩
        rcases List.mem_cons.1 hx with e | e
        · have e2 : x = p.1 := e
          simp only; omega
        · have := h'.1 x e; simp only; omega
theorem putR_len : ∀ (L : List (Int × Int)) (k v : Int), (putR L k v).length ≤ L.length + 1
  | [], k, v => by simp [putR]
  | p :: L, k, v => by
    have := putR_len L k v
    simp only [putR]
    split
    · simp only [List.length_cons]; omega
    · split <;> simp
def wideTo (l : List Int) : Nat → List (Int × Int)
  | 0 => []
  | k + 1 => putP (wideTo l k) (keyAt l k) 0
def wideL (l : List Int) : List Int := keysP (wideTo l (min l.length 80))
theorem wideTo_len (l : List Int) : ∀ k, (wideTo l k).length ≤ k
  | 0 => Nat.le_refl _
  | k + 1 => by
    have := wideTo_len l k
    rw [wideTo, putP_eq]
    have := putR_len (wideTo l k) (keyAt l k) 0
    omega
theorem wideTo_asc (l : List Int) : ∀ k, (keysP (wideTo l k)).Pairwise (· < ·)
  | 0 => by simp [wideTo, keysP]
  | k + 1 => by rw [wideTo, putP_eq]; exact putR_asc _ _ _ (wideTo_asc l k)
theorem wideTo_mem (l : List Int) : ∀ k x, x ∈ keysP (wideTo l k) → ∃ j, j < k ∧ x = keyAt l j
  | 0, x, h => by simp [wideTo, keysP] at h
  | k + 1, x, h => by
    rw [wideTo, putP_eq] at h
    rcases putR_mem _ _ _ _ h with e | e
    · exact ⟨k, by omega, e⟩
    · obtain ⟨j, a, b⟩ := wideTo_mem l k x e
      exact ⟨j, by omega, b⟩
theorem keyAt_mem' {p : List Int} {t : Nat} (h : t < p.length) : keyAt p t ∈ p := by
  simp [keyAt, List.getD_eq_getElem?_getD, h]
theorem wideL_len (l : List Int) : (wideL l).length ≤ 80 := by
  unfold wideL
  have := wideTo_len l (min l.length 80)
  rw [keysP_len]; omega
theorem wideL_right (l : List Int) : rightB (wideL l) = true := by
  refine rightB_of (by have := wideL_len l; omega) (fun i a b => ?_)
  have h := wideTo_asc l (min l.length 80)
  have := List.pairwise_iff_getElem.1 h (i - 1) i (by show i - 1 < (wideL l).length; omega) b (by omega)
  unfold keyAt
  rw [List.getD_eq_getElem?_getD, List.getD_eq_getElem?_getD, List.getElem?_eq_getElem (by omega), List.getElem?_eq_getElem b]
  exact this
theorem wideL_bd {l : List Int} (hw : ∀ i, i < l.length → -9223372036854775808 ≤ keyAt l i ∧ keyAt l i ≤ 9223372036854775807) (i : Nat) (h : i < (wideL l).length) : -9223372036854775808 ≤ keyAt (wideL l) i ∧ keyAt (wideL l) i ≤ 9223372036854775807 := by
  obtain ⟨j, a, b⟩ := wideTo_mem l _ _ (keyAt_mem' h)
  have e : keyAt (wideL l) i = keyAt l j := b
  rw [e]
  exact hw j (by omega)
theorem take_succ_key {p : List Int} {t : Nat} (h : t < p.length) : p.take (t + 1) = p.take t ++ [keyAt p t] := by
  rw [List.take_add_one, List.getElem?_eq_getElem h]
  simp [keyAt, List.getD_eq_getElem?_getD, h]

def WideRel (l : List Int) (w : World) (v i : Value) (wr : World) : Prop := ∃ (k : Nat) (A : Option Addr) (c : Nat), k ≤ l.length ∧ k ≤ 80 ∧ v = .slice A (wideTo l k).length c ∧ i = .int .i64 k ∧ (wideTo l k).length ≤ c ∧ PairsAt wr wr.heap.size A (wideTo l k) ∧ Below w.heap.size w wr
def OutRel (L : List (Int × Int)) (V : World) (v i : Value) (wr : World) : Prop := ∃ k : Nat, k ≤ L.length ∧ i = .int .i64 k ∧ wr.ownsRow V.heap.size 2 1 v k (((keysP L).take k).map (Value.int .i64)) ∧ Below V.heap.size V wr

set_option maxHeartbeats 4000000 in
set_option maxRecDepth 100000 in
theorem wide_any (A : Option Addr) (c : Nat) (l : List Int) (w : World) (hq : IntsAt w w.heap.size A l) (hl : l.length ≤ 140737488351232) (hw : ∀ i, i < l.length → -9223372036854775808 ≤ keyAt l i ∧ keyAt l i ≤ 9223372036854775807) :
    Calls Tryz.prog 21 #[.slice A l.length c] w (SomeInts (wideL l) w) := by
  obtain ⟨i0, hi0, hz0, hz1, hz2⟩ := info_parts info_int64
  have HQ := Lib.hid hq
  have HW := Lib.hid hw
  clear hq hw
  go_enter Tryz.func21, Tryz.ntmps21
  go_wp2
  go_loopw [3, 4] (fun v i wr => WideRel l w v i wr) (fun _ i _ => l.length - (intOf i).toNat)
  case atStart => unfold WideRel; exact ⟨0, none, 0, by omega, by omega, rfl, rfl, Nat.le_refl _, Reads.none_, Below.refl _ _⟩
  case round =>
    obtain ⟨k, A1, c1, k1, k2, rfl, rfl, hc1, hp, hB⟩ := hrel
    have hlen := wideTo_len l k
    by_cases hlt : k < l.length ∧ k < 80
    · obtain ⟨hlt1, hlt2⟩ := hlt
      obtain ⟨ad, rfl, hbl, hc⟩ := (HQ.out.below hB).cells (by omega)
      have hcell := hc k hlt1
      have e := Lib.hid (show wideTo l (k + 1) = putP (wideTo l k) (keyAt l k) 0 from rfl)
      clear hc
      go_wp2_with (fail)
      refine (put_any A1 c1 (wideTo l k) (keyAt l k) 0 wr hp (by omega) hc1).mono ?_
      rintro x V2 ⟨A2, c2, rfl, hc2, hp2, hb⟩
      have hB2 := below_called hB hb
      clear hp hb hcell
      rw [← e.out] at hc2 hp2 ⊢
      go_wp2_with (fail)
      go_roundw
      case rel => unfold WideRel; exact ⟨k + 1, A2, c2, by omega, by omega, rfl, by go_num, hc2, hp2, hB2⟩
      case measure => simp [intOf]; omega
    · have hk : Hid (wideL l = keysP (wideTo l k)) := Lib.hid (by unfold wideL; congr 2; omega)
      have hk5 : (wideTo l k).length ≤ 80 := by omega
      by_cases hlt1 : k < l.length
      · have hlt3 : ¬ (k : Int) < 80 := by omega
        clear hlt
        obtain ⟨L, hL⟩ : ∃ L, wideTo l k = L := ⟨_, rfl⟩
        rw [hL] at hp hc1 hk hk5 ⊢
        clear hlen hL
        have HP := Lib.hid hp
        clear hp
        obtain ⟨V, rfl⟩ : ∃ V, V = wr := ⟨_, rfl⟩
        go_wp2_with (fail)
        go_loopw [5, 6] (fun v i wz => OutRel L V v i wz) (fun _ i _ => L.length - (intOf i).toNat)
        case atStart => unfold OutRel; exact ⟨0, by omega, rfl, World.ownsRow_nil _ _ _ _, Below.refl _ _⟩
        case round =>
          obtain ⟨j, j1, rfl, hown, hBj⟩ := hrel
          by_cases hj : j < L.length
          · obtain ⟨ad, rfl, hbl, hc⟩ := PairsAt.key (Reads.below HP.out hBj) (by omega)
            have hcell := hc j hj
            have ej := Lib.hid (take_succ_key (p := keysP L) (t := j) (by rw [keysP_len]; exact hj))
            have kj := keysP_at L j hj
            clear hc
            go_wp2_with (at_builtin; refine wpList_append_own _ rfl _ _ 22 rfl V.heap.size 2 i0 (.int .i64 0) 1 8 Tryz.underlying22 hi0 hz0 hz1 hz2 rfl (by decide) _ _ _ rfl (hown.alloc _) ⟨wr.heap.size, 0, none⟩ 1 1 [.int .i64 (pkey L j)] rfl rfl (cell_one_new _ _ _) (by simp [Value.oneCell']) (by simp only [maxLen]; omega) (by omega) (by have := hBj.size; simp; omega) ?_; intro v' w1 hown' hgrow _; have hB1 : Below V.heap.size V w1 := (hBj.alloc hBj.size _).grown hgrow (by have := hBj.size; simp; omega) (fun g hg => (hown.lt g hg).1))
            go_roundw
            case rel => unfold OutRel; exact ⟨j + 1, by omega, by go_num, by rw [ej.out, kj]; simpa using hown', hB1⟩
            case measure => simp [intOf]; omega
          · have e : j = L.length := by omega
            subst e
            rw [List.take_of_length_le (by rw [keysP_len]; exact Nat.le_refl _)] at hown
            have hBB := below_called hB hBj
            go_wp2_with (fail)
            go_ret
            rw [hk.out]
            exact SomeInts.of_own hown hBB
      · clear hlt
        obtain ⟨L, hL⟩ : ∃ L, wideTo l k = L := ⟨_, rfl⟩
        rw [hL] at hp hc1 hk hk5 ⊢
        clear hlen hL
        have HP := Lib.hid hp
        clear hp
        obtain ⟨V, rfl⟩ : ∃ V, V = wr := ⟨_, rfl⟩
        go_wp2_with (fail)
        go_loopw [5, 6] (fun v i wz => OutRel L V v i wz) (fun _ i _ => L.length - (intOf i).toNat)
        case atStart => unfold OutRel; exact ⟨0, by omega, rfl, World.ownsRow_nil _ _ _ _, Below.refl _ _⟩
        case round =>
          obtain ⟨j, j1, rfl, hown, hBj⟩ := hrel
          by_cases hj : j < L.length
          · obtain ⟨ad, rfl, hbl, hc⟩ := PairsAt.key (Reads.below HP.out hBj) (by omega)
            have hcell := hc j hj
            have ej := Lib.hid (take_succ_key (p := keysP L) (t := j) (by rw [keysP_len]; exact hj))
            have kj := keysP_at L j hj
            clear hc
            go_wp2_with (at_builtin; refine wpList_append_own _ rfl _ _ 22 rfl V.heap.size 2 i0 (.int .i64 0) 1 8 Tryz.underlying22 hi0 hz0 hz1 hz2 rfl (by decide) _ _ _ rfl (hown.alloc _) ⟨wr.heap.size, 0, none⟩ 1 1 [.int .i64 (pkey L j)] rfl rfl (cell_one_new _ _ _) (by simp [Value.oneCell']) (by simp only [maxLen]; omega) (by omega) (by have := hBj.size; simp; omega) ?_; intro v' w1 hown' hgrow _; have hB1 : Below V.heap.size V w1 := (hBj.alloc hBj.size _).grown hgrow (by have := hBj.size; simp; omega) (fun g hg => (hown.lt g hg).1))
            go_roundw
            case rel => unfold OutRel; exact ⟨j + 1, by omega, by go_num, by rw [ej.out, kj]; simpa using hown', hB1⟩
            case measure => simp [intOf]; omega
          · have e : j = L.length := by omega
            subst e
            rw [List.take_of_length_le (by rw [keysP_len]; exact Nat.le_refl _)] at hown
            have hBB := below_called hB hBj
            go_wp2_with (fail)
            go_ret
            rw [hk.out]
            exact SomeInts.of_own hown hBB
end Go.Proofs.YtblajeildolloaaGreat
