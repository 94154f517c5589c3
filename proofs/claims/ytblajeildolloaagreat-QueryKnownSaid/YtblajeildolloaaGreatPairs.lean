/- Place, Put, Wide: lists of pairs. -/
import Derived.Test.YtblajeildolloaaGreatPath
namespace Go.Proofs.YtblajeildolloaaGreat
set_option linter.unusedVariables false
set_option linter.unusedSimpArgs false
open Go.RowKit

def cellsP (L : List (Int × Int)) : List Value := L.flatMap fun p => [.int .i64 p.1, .int .i64 p.2]
theorem cellsP_len : ∀ L, (cellsP L).length = L.length * 2
  | [] => rfl
  | p :: L => by
    have := cellsP_len L
    simp [cellsP] at this ⊢
    omega
theorem cellsP_append (a b : List (Int × Int)) : cellsP (a ++ b) = cellsP a ++ cellsP b := by simp [cellsP]
def pkey (L : List (Int × Int)) (i : Nat) : Int := (L.getD i (0, 0)).1
def PairsAt (w : World) (B : Nat) (A : Option Addr) (L : List (Int × Int)) : Prop := Reads w B 2 A L.length (cellsP L)
theorem cellsP_key : ∀ {L : List (Int × Int)} {i : Nat}, i < L.length → (cellsP L)[i * 2]? = some (.int .i64 (pkey L i))
  | [], i, h => absurd h (by simp)
  | p :: L, 0, h => by simp [cellsP, pkey]
  | p :: L, i + 1, h => by
    have := cellsP_key (L := L) (i := i) (by simpa using h)
    have e : (i + 1) * 2 = i * 2 + 1 + 1 := by omega
    rw [e]
    simp [cellsP, pkey] at this ⊢
    exact this
theorem PairsAt.key {w : World} {B : Nat} {A : Option Addr} {L : List (Int × Int)} (h : PairsAt w B A L) (hl : 0 < L.length) : ∃ ad, A = some ad ∧ ad.block < B ∧ ∀ i, i < L.length → w.cell? (ad.add (i * 2)) = some (.int .i64 (pkey L i)) := by
  obtain ⟨ad, e, hb, hc⟩ := h.2 hl
  exact ⟨ad, e, hb, fun i hi => hc _ _ (cellsP_key hi)⟩

/-- How many keys at the front are below k. -/
def placeP : List (Int × Int) → Int → Nat
  | [], _ => 0
  | p :: L, k => if p.1 < k then placeP L k + 1 else 0
theorem placeP_le : ∀ (L : List (Int × Int)) (k : Int), placeP L k ≤ L.length
  | [], k => Nat.le_refl _
  | p :: L, k => by
    have := placeP_le L k
    simp only [placeP, List.length_cons]
    split <;> omega
theorem placeP_at {k : Int} : ∀ {L : List (Int × Int)} {i : Nat}, i ≤ L.length → (∀ x, x < i → pkey L x < k) → (i < L.length → ¬ pkey L i < k) → placeP L k = i
  | [], i, h, _, _ => by simp at h; simp [placeP, h]
  | p :: L, 0, h, h1, h2 => by
    have := h2 (by simp)
    simp [pkey] at this
    simp only [placeP]
    rw [if_neg (by omega)]
  | p :: L, i + 1, h, h1, h2 => by
    have a := h1 0 (by omega)
    simp [pkey] at a
    simp only [placeP]
    rw [if_pos a, placeP_at (L := L) (i := i) (by simpa using h) (fun x hx => by have := h1 (x + 1) (by omega); simpa [pkey] using this) (fun hi => by have := h2 (by simpa using hi); simpa [pkey] using this)]

set_option maxHeartbeats 2000000 in
set_option maxRecDepth 100000 in
theorem place_any (A : Option Addr) (c : Nat) (L : List (Int × Int)) (k : Int) (w : World) (hq : PairsAt w w.heap.size A L) (hl : L.length ≤ 80) :
    Calls Tryz.prog 126 #[.slice A L.length c, .int .i64 k] w fun e w' => e = .returned (.int .i64 (placeP L k)) ∧ Drawn w w' := by
  have HQ := Lib.hid hq
  clear hq
  go_enter Tryz.func126, Tryz.ntmps126
  go_wp2_with (fail)
  go_loopw [5] (fun u wr => ∃ (i m : Nat), i ≤ L.length ∧ u = .int .i64 i ∧ Hid (∀ x, x < i → pkey L x < k) ∧ wr = w.drewN m) (fun u _ => L.length - (intOf u).toNat)
  case atStart => exact ⟨0, 0, by omega, rfl, Lib.hid (fun x h => absurd h (by omega)), rfl⟩
  case round =>
    obtain ⟨i, m, i1, rfl, hlow, rfl⟩ := hrel
    by_cases hlt : i < L.length
    · obtain ⟨ad, rfl, hbl, hc⟩ := PairsAt.key HQ.out (by omega)
      have hcell : (w.drewN m).cell? (ad.add (i * 2)) = some (.int .i64 (pkey L i)) := hc i hlt
      clear hc
      by_cases hk : pkey L i < k
      · go_wp2_with (fail)
        go_roundw
        case rel => exact ⟨i + 1, m, by omega, by go_num, Lib.hid (fun x h => by
          by_cases e : x = i
          · subst e; exact hk
          · exact hlow.out x (by omega)), rfl⟩
        case measure => simp [intOf]; omega
      · have E := Lib.hid (placeP_at i1 hlow.out (fun _ => hk))
        go_wp2_with (fail)
        go_ret
        rw [E.out]
        exact ⟨rfl, ⟨_, rfl⟩⟩
    · have E := Lib.hid (placeP_at (k := k) i1 hlow.out (fun h => absurd h hlt))
      go_wp2_with (fail)
      go_ret
      rw [E.out]
      exact ⟨rfl, ⟨_, rfl⟩⟩

/-! ### Put -/
def putP (L : List (Int × Int)) (k v : Int) : List (Int × Int) := L.take (placeP L k) ++ [(k, v)] ++ L.drop (if placeP L k < L.length ∧ pkey L (placeP L k) = k then placeP L k + 1 else placeP L k)
def SomePairs (L : List (Int × Int)) (w : World) (e : Ending) (w' : World) : Prop := ∃ A c, e = .returned (.slice A L.length c) ∧ L.length ≤ c ∧ PairsAt w' w'.heap.size A L ∧ Below w.heap.size w w'
theorem PairsAt.take {w : World} {B : Nat} {A : Option Addr} {L : List (Int × Int)} {n : Nat} (h : PairsAt w B A L) (hn : n ≤ L.length) : Reads w B 2 A n (cellsP (L.take n)) := by
  refine ⟨by rw [cellsP_len, List.length_take]; omega, fun h0 => ?_⟩
  obtain ⟨ad, e, hb, hc⟩ := h.2 (by omega)
  refine ⟨ad, e, hb, fun j u hu => hc j u ?_⟩
  have := cellsP_append (L.take n) (L.drop n)
  rw [List.take_append_drop] at this
  rw [this, List.getElem?_append_left]
  · exact hu
  · rcases Nat.lt_or_ge j (cellsP (L.take n)).length with g | g
    · exact g
    · rw [List.getElem?_eq_none g] at hu; cases hu
theorem cellsP_drop : ∀ (L : List (Int × Int)) (n : Nat), (cellsP L).drop (n * 2) = cellsP (L.drop n)
  | L, 0 => by simp
  | [], n + 1 => by simp [cellsP]
  | p :: L, n + 1 => by
    have := cellsP_drop L n
    have e : (n + 1) * 2 = n * 2 + 1 + 1 := by omega
    rw [e]
    simp [cellsP] at this ⊢
    exact this
theorem cellsP_one {L : List (Int × Int)} : ∀ u ∈ cellsP L, u.oneCell' = true := by
  intro u hu
  simp [cellsP] at hu
  obtain ⟨a, b, _, rfl | rfl⟩ := hu <;> simp [Value.oneCell']
theorem info_pair : (Tryz.prog.info? 52).map (fun i => (i.zero, i.size, i.bytes)) = some (some (.agg #[.int .i64 0, .int .i64 0]), 2, 16) := by kernel_rfl
theorem run_storeCells_nil {P : Program} {w : World} (a : Addr) : (storeCells a []).run P w = .ok () w := by simp [storeCells]
theorem reads_pair (w : World) (t : TypeId) (a b : Value) : Reads (w.alloc (.cells #[a, b] t)) (w.heap.size + 1) 2 (some ⟨w.heap.size, 0, none⟩) 1 [a, b] := by
  refine ⟨rfl, fun _ => ⟨_, rfl, Nat.lt_succ_self _, fun j u hu => ?_⟩⟩
  rcases j with _ | _ | j
  · simp at hu; subst hu; rw [add_zero', World.cell?_alloc_at _ _ _ _ rfl] <;> rfl
  · simp at hu; subst hu; simp [Addr.add]; try (rw [World.cell?_alloc_at _ _ _ _ rfl] <;> rfl)
  · simp at hu

theorem PairsAt.keyAt {w : World} {B : Nat} {ad : Addr} {L : List (Int × Int)} (h : PairsAt w B (some ad) L) {i : Nat} (hi : i < L.length) : w.cell? (ad.add (i * 2)) = some (.int .i64 (pkey L i)) := by
  obtain ⟨ad', e, hb, hc⟩ := PairsAt.key h (by omega)
  injection e with e
  subst e
  exact hc i hi
theorem SomePairs.of_own {L : List (Int × Int)} {w w' : World} {base : Nat} {et : TypeId} {v : Value} {n : Nat} (h : w'.ownsRow base et 2 v n (cellsP L)) (hb : Below w.heap.size w w') : SomePairs L w (.returned v) w' := by
  have hn : n = L.length := by have := h.1; rw [cellsP_len] at this; omega
  subst hn
  rcases h.2 with ⟨rfl, h0⟩ | ⟨g, cap, cur, rfl, _, _, hle, _⟩
  · have : L = [] := List.eq_nil_of_length_eq_zero h0
    subst this
    exact ⟨none, 0, rfl, Nat.le_refl _, Reads.none_, hb⟩
  · exact ⟨_, cap, rfl, hle, Reads.of_own h, hb⟩
theorem PairsAt.cut {w : World} {B n : Nat} {ad : Addr} {L : List (Int × Int)} (h : PairsAt w B (some ad) L) (hn : n ≤ L.length) : Reads w B 2 (some (ad.add (n * 2))) (L.length - n) (cellsP (L.drop n)) := by
  have := Reads.cut h (k := n) (cap := L.length + n + 1) hn (by omega)
  rw [if_neg (by omega), cellsP_drop] at this
  exact this
theorem PairsAt.cut0 {w : World} {B n : Nat} {A : Option Addr} {L : List (Int × Int)} (h : PairsAt w B A L) (hn : n ≤ L.length) (he : L.length ≤ n) : Reads w B 2 A (L.length - n) (cellsP (L.drop n)) := by
  have e : L.length - n = 0 := by omega
  rw [e, List.drop_eq_nil_of_le he]
  exact ⟨rfl, fun h => absurd h (by omega)⟩
theorem put_cells {L : List (Int × Int)} {k v : Int} {n : Nat} (h : (if placeP L k < L.length ∧ pkey L (placeP L k) = k then placeP L k + 1 else placeP L k) = n) : cellsP (L.take (placeP L k)) ++ [.int .i64 k, .int .i64 v] ++ cellsP (L.drop n) = cellsP (putP L k v) := by
  subst h
  unfold putP
  simp [cellsP_append, cellsP]

section
attribute [local go_sem] run_storeCells_nil Sem.run_pure Array.toList_empty
set_option maxHeartbeats 4000000 in
set_option maxRecDepth 100000 in
theorem put_any (A : Option Addr) (c : Nat) (L : List (Int × Int)) (k v : Int) (w : World) (hq : PairsAt w w.heap.size A L) (hl : L.length ≤ 80) (hc : L.length ≤ c) :
    Calls Tryz.prog 87 #[.slice A L.length c, .int .i64 k, .int .i64 v] w (SomePairs (putP L k v) w) := by
  obtain ⟨i0, hi0, hz0, hz1, hz2⟩ := info_parts info_pair
  have hn := placeP_le L k
  have e1 : ((placeP L k : Int) + 1).toNat = placeP L k + 1 := by omega
  rcases A with _ | ad
  · have hL : L = [] := by
      rcases Nat.eq_zero_or_pos L.length with g | g
      · exact List.eq_nil_of_length_eq_zero g
      · obtain ⟨ad, h, _⟩ := hq.2 g
        cases h
    subst hL
    have ep : placeP [] k = 0 := rfl
    have HE := Lib.hid (show putP [] k v = [(k, v)] from rfl)
    clear e1
    go_enter Tryz.func87, Tryz.ntmps87
    go_wp2_with (fail)
    refine (place_any none c [] k w hq hl).mono ?_
    rintro e V1 ⟨rfl, hd⟩
    have hge := (drawn_facts hd).2
    have hB1 := (drawn_facts hd).1
    clear hq hd
    rw [ep]
    have hc0 : 0 ≤ c := hc
    go_wp2_with (first | (at_builtin; refine wpList_append_any _ rfl _ _ 40 rfl w.heap.size 52 i0 (.agg #[.int .i64 0, .int .i64 0]) 2 16 Tryz.underlying40 hi0 hz0 hz1 hz2 rfl (by decide) _ 0 [] rfl (World.ownsRow_lit V1 #[] 0 (by omega) (by simp [maxLen]) rfl) w.heap.size none 0 _ [] rfl Reads.none_ (by simp) (by simp only [maxLen]; omega) (by omega) (by simp; omega) ?_; intro v1 W1 hown1 hg1 hb1; clear hb1; simp only [Nat.zero_add, List.nil_append] at hown1; have hB2 : Below w.heap.size w W1 := (hB1.alloc (by omega) _).grown hg1 (by simp; omega) (fun g hg => by injection hg with hg; subst hg; exact hge); clear hg1; have hz1' := hB2.size) | (at_builtin; refine wpList_append_any _ rfl _ _ 40 rfl w.heap.size 52 i0 (.agg #[.int .i64 0, .int .i64 0]) 2 16 Tryz.underlying40 hi0 hz0 hz1 hz2 rfl (by decide) v1 0 [] rfl (hown1.alloc _) (W1.heap.size + 1) (some ⟨W1.heap.size, 0, none⟩) 1 1 [.int .i64 k, .int .i64 v] rfl (reads_pair _ _ _ _) (by simp [Value.oneCell']) (by simp only [maxLen]; omega) (by omega) (by simp; omega) ?_; intro v2 W2 hown2 hg2 hb2; clear hb2; simp only [Nat.zero_add, List.nil_append] at hown2; have hB3 : Below w.heap.size w W2 := (hB2.alloc hz1' _).grown hg2 (by simp; omega) (fun g hg => (hown1.lt g hg).1); clear hg2; have hz2' := hB3.size) | (at_builtin; refine wpList_append_any _ rfl _ _ 40 rfl w.heap.size 52 i0 (.agg #[.int .i64 0, .int .i64 0]) 2 16 Tryz.underlying40 hi0 hz0 hz1 hz2 rfl (by decide) v2 1 [.int .i64 k, .int .i64 v] rfl hown2 w.heap.size none 0 _ [] rfl Reads.none_ (by simp) (by simp only [maxLen]; omega) (by omega) (by omega) ?_; intro v3 W3 hown3 hg3 hb3; clear hb3; have hB4 : Below w.heap.size w W3 := hB3.grown hg3 (by omega) (fun g hg => (hown2.lt g hg).1); clear hg3))
    all_goals go_ret
    all_goals exact SomePairs.of_own (L := putP [] k v) (by rw [HE.out]; exact hown3) hB4
  go_enter Tryz.func87, Tryz.ntmps87
  go_wp2_with (fail)
  refine (place_any (some ad) c L k w hq hl).mono ?_
  rintro e V1 ⟨rfl, hd⟩
  have hge := (drawn_facts hd).2
  have hB1 := (drawn_facts hd).1
  have HQ := Lib.hid hq
  clear hq hd
  by_cases hlt : placeP L k < L.length
  · by_cases hk : pkey L (placeP L k) = k
    · have E := Lib.hid (put_cells (L := L) (k := k) (v := v) (n := placeP L k + 1) (if_pos ⟨hlt, hk⟩))
      have hk' : (pkey L (placeP L k) == k) = true := by simpa using hk
      by_cases hcn : c = placeP L k + 1
      · go_wp2_with (first | (at_builtin; refine wpList_append_any _ rfl _ _ 40 rfl w.heap.size 52 i0 (.agg #[.int .i64 0, .int .i64 0]) 2 16 Tryz.underlying40 hi0 hz0 hz1 hz2 rfl (by decide) _ 0 [] rfl (World.ownsRow_lit V1 #[] 0 (by omega) (by simp [maxLen]) rfl) w.heap.size _ _ _ (cellsP (L.take (placeP L k))) rfl ((PairsAt.take (Reads.below HQ.out hB1) hn).alloc (by omega) _) cellsP_one (by simp only [maxLen]; omega) (by omega) (by simp; omega) ?_; intro v1 W1 hown1 hg1 hb1; clear hb1; simp only [Nat.zero_add, List.nil_append] at hown1; have hB2 : Below w.heap.size w W1 := (hB1.alloc (by omega) _).grown hg1 (by simp; omega) (fun g hg => by injection hg with hg; subst hg; exact hge); clear hg1; have hz1' := hB2.size) | (at_builtin; refine wpList_append_any _ rfl _ _ 40 rfl w.heap.size 52 i0 (.agg #[.int .i64 0, .int .i64 0]) 2 16 Tryz.underlying40 hi0 hz0 hz1 hz2 rfl (by decide) v1 (placeP L k) (cellsP (L.take (placeP L k))) rfl (hown1.alloc _) (W1.heap.size + 1) (some ⟨W1.heap.size, 0, none⟩) 1 1 [.int .i64 k, .int .i64 v] rfl (reads_pair _ _ _ _) (by simp [Value.oneCell']) (by simp only [maxLen]; omega) (by omega) (by simp; omega) ?_; intro v2 W2 hown2 hg2 hb2; clear hb2; have hB3 : Below w.heap.size w W2 := (hB2.alloc hz1' _).grown hg2 (by simp; omega) (fun g hg => (hown1.lt g hg).1); clear hg2; have hz2' := hB3.size; have hcell := PairsAt.keyAt (Reads.below HQ.out hB3) hlt) | (at_builtin; have HR3 : Reads W2 w.heap.size 2 (some ad) (L.length - (placeP L k + 1)) (cellsP (L.drop (placeP L k + 1))) := PairsAt.cut0 (Reads.below HQ.out hB3) (by omega) (by omega); refine wpList_append_any _ rfl _ _ 40 rfl w.heap.size 52 i0 (.agg #[.int .i64 0, .int .i64 0]) 2 16 Tryz.underlying40 hi0 hz0 hz1 hz2 rfl (by decide) v2 (placeP L k + 1) (cellsP (L.take (placeP L k)) ++ [.int .i64 k, .int .i64 v]) rfl hown2 w.heap.size (some ad) (L.length - (placeP L k + 1)) _ (cellsP (L.drop (placeP L k + 1))) rfl HR3 cellsP_one (by simp only [maxLen]; omega) (by omega) (by omega) ?_; intro v3 W3 hown3 hg3 hb3; clear hb3; have hB4 : Below w.heap.size w W3 := hB3.grown hg3 (by omega) (fun g hg => (hown2.lt g hg).1); clear hg3))
        go_ret
        rw [E.out] at hown3
        exact SomePairs.of_own hown3 hB4
      · go_wp2_with (first | (at_builtin; refine wpList_append_any _ rfl _ _ 40 rfl w.heap.size 52 i0 (.agg #[.int .i64 0, .int .i64 0]) 2 16 Tryz.underlying40 hi0 hz0 hz1 hz2 rfl (by decide) _ 0 [] rfl (World.ownsRow_lit V1 #[] 0 (by omega) (by simp [maxLen]) rfl) w.heap.size _ _ _ (cellsP (L.take (placeP L k))) rfl ((PairsAt.take (Reads.below HQ.out hB1) hn).alloc (by omega) _) cellsP_one (by simp only [maxLen]; omega) (by omega) (by simp; omega) ?_; intro v1 W1 hown1 hg1 hb1; clear hb1; simp only [Nat.zero_add, List.nil_append] at hown1; have hB2 : Below w.heap.size w W1 := (hB1.alloc (by omega) _).grown hg1 (by simp; omega) (fun g hg => by injection hg with hg; subst hg; exact hge); clear hg1; have hz1' := hB2.size) | (at_builtin; refine wpList_append_any _ rfl _ _ 40 rfl w.heap.size 52 i0 (.agg #[.int .i64 0, .int .i64 0]) 2 16 Tryz.underlying40 hi0 hz0 hz1 hz2 rfl (by decide) v1 (placeP L k) (cellsP (L.take (placeP L k))) rfl (hown1.alloc _) (W1.heap.size + 1) (some ⟨W1.heap.size, 0, none⟩) 1 1 [.int .i64 k, .int .i64 v] rfl (reads_pair _ _ _ _) (by simp [Value.oneCell']) (by simp only [maxLen]; omega) (by omega) (by simp; omega) ?_; intro v2 W2 hown2 hg2 hb2; clear hb2; have hB3 : Below w.heap.size w W2 := (hB2.alloc hz1' _).grown hg2 (by simp; omega) (fun g hg => (hown1.lt g hg).1); clear hg2; have hz2' := hB3.size; have hcell := PairsAt.keyAt (Reads.below HQ.out hB3) hlt) | (at_builtin; have HR3 : Reads W2 w.heap.size 2 (some (ad.add ((placeP L k + 1) * 2))) (L.length - (placeP L k + 1)) (cellsP (L.drop (placeP L k + 1))) := PairsAt.cut (Reads.below HQ.out hB3) (by omega); refine wpList_append_any _ rfl _ _ 40 rfl w.heap.size 52 i0 (.agg #[.int .i64 0, .int .i64 0]) 2 16 Tryz.underlying40 hi0 hz0 hz1 hz2 rfl (by decide) v2 (placeP L k + 1) (cellsP (L.take (placeP L k)) ++ [.int .i64 k, .int .i64 v]) rfl hown2 w.heap.size (some (ad.add ((placeP L k + 1) * 2))) (L.length - (placeP L k + 1)) _ (cellsP (L.drop (placeP L k + 1))) rfl HR3 cellsP_one (by simp only [maxLen]; omega) (by omega) (by omega) ?_; intro v3 W3 hown3 hg3 hb3; clear hb3; have hB4 : Below w.heap.size w W3 := hB3.grown hg3 (by omega) (fun g hg => (hown2.lt g hg).1); clear hg3))
        go_ret
        rw [E.out] at hown3
        exact SomePairs.of_own hown3 hB4
    · have E := Lib.hid (put_cells (L := L) (k := k) (v := v) (n := placeP L k) (if_neg fun h => hk h.2))
      have hk' : (pkey L (placeP L k) == k) = false := by simpa using hk
      have hcn : ¬ c = placeP L k := by omega
      · go_wp2_with (first | (at_builtin; refine wpList_append_any _ rfl _ _ 40 rfl w.heap.size 52 i0 (.agg #[.int .i64 0, .int .i64 0]) 2 16 Tryz.underlying40 hi0 hz0 hz1 hz2 rfl (by decide) _ 0 [] rfl (World.ownsRow_lit V1 #[] 0 (by omega) (by simp [maxLen]) rfl) w.heap.size _ _ _ (cellsP (L.take (placeP L k))) rfl ((PairsAt.take (Reads.below HQ.out hB1) hn).alloc (by omega) _) cellsP_one (by simp only [maxLen]; omega) (by omega) (by simp; omega) ?_; intro v1 W1 hown1 hg1 hb1; clear hb1; simp only [Nat.zero_add, List.nil_append] at hown1; have hB2 : Below w.heap.size w W1 := (hB1.alloc (by omega) _).grown hg1 (by simp; omega) (fun g hg => by injection hg with hg; subst hg; exact hge); clear hg1; have hz1' := hB2.size) | (at_builtin; refine wpList_append_any _ rfl _ _ 40 rfl w.heap.size 52 i0 (.agg #[.int .i64 0, .int .i64 0]) 2 16 Tryz.underlying40 hi0 hz0 hz1 hz2 rfl (by decide) v1 (placeP L k) (cellsP (L.take (placeP L k))) rfl (hown1.alloc _) (W1.heap.size + 1) (some ⟨W1.heap.size, 0, none⟩) 1 1 [.int .i64 k, .int .i64 v] rfl (reads_pair _ _ _ _) (by simp [Value.oneCell']) (by simp only [maxLen]; omega) (by omega) (by simp; omega) ?_; intro v2 W2 hown2 hg2 hb2; clear hb2; have hB3 : Below w.heap.size w W2 := (hB2.alloc hz1' _).grown hg2 (by simp; omega) (fun g hg => (hown1.lt g hg).1); clear hg2; have hz2' := hB3.size; have hcell := PairsAt.keyAt (Reads.below HQ.out hB3) hlt) | (at_builtin; have HR3 : Reads W2 w.heap.size 2 (some (ad.add ((placeP L k) * 2))) (L.length - (placeP L k)) (cellsP (L.drop (placeP L k))) := PairsAt.cut (Reads.below HQ.out hB3) (by omega); refine wpList_append_any _ rfl _ _ 40 rfl w.heap.size 52 i0 (.agg #[.int .i64 0, .int .i64 0]) 2 16 Tryz.underlying40 hi0 hz0 hz1 hz2 rfl (by decide) v2 (placeP L k + 1) (cellsP (L.take (placeP L k)) ++ [.int .i64 k, .int .i64 v]) rfl hown2 w.heap.size (some (ad.add ((placeP L k) * 2))) (L.length - (placeP L k)) _ (cellsP (L.drop (placeP L k))) rfl HR3 cellsP_one (by simp only [maxLen]; omega) (by omega) (by omega) ?_; intro v3 W3 hown3 hg3 hb3; clear hb3; have hB4 : Below w.heap.size w W3 := hB3.grown hg3 (by omega) (fun g hg => (hown2.lt g hg).1); clear hg3))
        go_ret
        rw [E.out] at hown3
        exact SomePairs.of_own hown3 hB4
  · have E := Lib.hid (put_cells (L := L) (k := k) (v := v) (n := placeP L k) (if_neg fun h => hlt h.1))
    by_cases hcn : c = placeP L k
    · go_wp2_with (first | (at_builtin; refine wpList_append_any _ rfl _ _ 40 rfl w.heap.size 52 i0 (.agg #[.int .i64 0, .int .i64 0]) 2 16 Tryz.underlying40 hi0 hz0 hz1 hz2 rfl (by decide) _ 0 [] rfl (World.ownsRow_lit V1 #[] 0 (by omega) (by simp [maxLen]) rfl) w.heap.size _ _ _ (cellsP (L.take (placeP L k))) rfl ((PairsAt.take (Reads.below HQ.out hB1) hn).alloc (by omega) _) cellsP_one (by simp only [maxLen]; omega) (by omega) (by simp; omega) ?_; intro v1 W1 hown1 hg1 hb1; clear hb1; simp only [Nat.zero_add, List.nil_append] at hown1; have hB2 : Below w.heap.size w W1 := (hB1.alloc (by omega) _).grown hg1 (by simp; omega) (fun g hg => by injection hg with hg; subst hg; exact hge); clear hg1; have hz1' := hB2.size) | (at_builtin; refine wpList_append_any _ rfl _ _ 40 rfl w.heap.size 52 i0 (.agg #[.int .i64 0, .int .i64 0]) 2 16 Tryz.underlying40 hi0 hz0 hz1 hz2 rfl (by decide) v1 (placeP L k) (cellsP (L.take (placeP L k))) rfl (hown1.alloc _) (W1.heap.size + 1) (some ⟨W1.heap.size, 0, none⟩) 1 1 [.int .i64 k, .int .i64 v] rfl (reads_pair _ _ _ _) (by simp [Value.oneCell']) (by simp only [maxLen]; omega) (by omega) (by simp; omega) ?_; intro v2 W2 hown2 hg2 hb2; clear hb2; have hB3 : Below w.heap.size w W2 := (hB2.alloc hz1' _).grown hg2 (by simp; omega) (fun g hg => (hown1.lt g hg).1); clear hg2; have hz2' := hB3.size) | (at_builtin; have HR3 : Reads W2 w.heap.size 2 (some ad) (L.length - (placeP L k)) (cellsP (L.drop (placeP L k))) := PairsAt.cut0 (Reads.below HQ.out hB3) (by omega) (by omega); refine wpList_append_any _ rfl _ _ 40 rfl w.heap.size 52 i0 (.agg #[.int .i64 0, .int .i64 0]) 2 16 Tryz.underlying40 hi0 hz0 hz1 hz2 rfl (by decide) v2 (placeP L k + 1) (cellsP (L.take (placeP L k)) ++ [.int .i64 k, .int .i64 v]) rfl hown2 w.heap.size (some ad) (L.length - (placeP L k)) _ (cellsP (L.drop (placeP L k))) rfl HR3 cellsP_one (by simp only [maxLen]; omega) (by omega) (by omega) ?_; intro v3 W3 hown3 hg3 hb3; clear hb3; have hB4 : Below w.heap.size w W3 := hB3.grown hg3 (by omega) (fun g hg => (hown2.lt g hg).1); clear hg3))
      go_ret
      rw [E.out] at hown3
      exact SomePairs.of_own hown3 hB4
    · go_wp2_with (first | (at_builtin; refine wpList_append_any _ rfl _ _ 40 rfl w.heap.size 52 i0 (.agg #[.int .i64 0, .int .i64 0]) 2 16 Tryz.underlying40 hi0 hz0 hz1 hz2 rfl (by decide) _ 0 [] rfl (World.ownsRow_lit V1 #[] 0 (by omega) (by simp [maxLen]) rfl) w.heap.size _ _ _ (cellsP (L.take (placeP L k))) rfl ((PairsAt.take (Reads.below HQ.out hB1) hn).alloc (by omega) _) cellsP_one (by simp only [maxLen]; omega) (by omega) (by simp; omega) ?_; intro v1 W1 hown1 hg1 hb1; clear hb1; simp only [Nat.zero_add, List.nil_append] at hown1; have hB2 : Below w.heap.size w W1 := (hB1.alloc (by omega) _).grown hg1 (by simp; omega) (fun g hg => by injection hg with hg; subst hg; exact hge); clear hg1; have hz1' := hB2.size) | (at_builtin; refine wpList_append_any _ rfl _ _ 40 rfl w.heap.size 52 i0 (.agg #[.int .i64 0, .int .i64 0]) 2 16 Tryz.underlying40 hi0 hz0 hz1 hz2 rfl (by decide) v1 (placeP L k) (cellsP (L.take (placeP L k))) rfl (hown1.alloc _) (W1.heap.size + 1) (some ⟨W1.heap.size, 0, none⟩) 1 1 [.int .i64 k, .int .i64 v] rfl (reads_pair _ _ _ _) (by simp [Value.oneCell']) (by simp only [maxLen]; omega) (by omega) (by simp; omega) ?_; intro v2 W2 hown2 hg2 hb2; clear hb2; have hB3 : Below w.heap.size w W2 := (hB2.alloc hz1' _).grown hg2 (by simp; omega) (fun g hg => (hown1.lt g hg).1); clear hg2; have hz2' := hB3.size) | (at_builtin; have HR3 : Reads W2 w.heap.size 2 (some (ad.add ((placeP L k) * 2))) (L.length - (placeP L k)) (cellsP (L.drop (placeP L k))) := PairsAt.cut (Reads.below HQ.out hB3) (by omega); refine wpList_append_any _ rfl _ _ 40 rfl w.heap.size 52 i0 (.agg #[.int .i64 0, .int .i64 0]) 2 16 Tryz.underlying40 hi0 hz0 hz1 hz2 rfl (by decide) v2 (placeP L k + 1) (cellsP (L.take (placeP L k)) ++ [.int .i64 k, .int .i64 v]) rfl hown2 w.heap.size (some (ad.add ((placeP L k) * 2))) (L.length - (placeP L k)) _ (cellsP (L.drop (placeP L k))) rfl HR3 cellsP_one (by simp only [maxLen]; omega) (by omega) (by omega) ?_; intro v3 W3 hown3 hg3 hb3; clear hb3; have hB4 : Below w.heap.size w W3 := hB3.grown hg3 (by omega) (fun g hg => (hown2.lt g hg).1); clear hg3))
      go_ret
      rw [E.out] at hown3
      exact SomePairs.of_own hown3 hB4
end
end Go.Proofs.YtblajeildolloaaGreat
