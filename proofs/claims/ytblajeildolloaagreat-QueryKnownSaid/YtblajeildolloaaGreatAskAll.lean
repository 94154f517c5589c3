import Derived.Test.YtblajeildolloaaGreatRetryAll
import Derived.Deep.RegionHeld3
namespace Go.Proofs.YtblajeildolloaaGreat
set_option linter.unusedVariables false
set_option linter.unusedSimpArgs false
open Go.RowKit
/- Questions over the tree of three keys: what they come to. No program's text. -/

def op25 (kind k : Int) : Op := ⟨kind, k, 2⟩
def run25 (kind k : Nat) (t : Nat) : QP := QP.it (op25 kind k) 1 (rdC tree3) (QP.init (op25 kind k) 1) t
def steps25 (kind k : Nat) : Nat := ((List.range 100).find? fun t => (run25 kind k t).next == 3).getD 0
def resOf : QP → Res
  | .done _ r => r
  | _ => Res.none
def leftOf : QP → Int
  | .done l _ => l
  | _ => 0
theorem done_eq {q : QP} (h : q.next = 3) : q = .done (leftOf q) (resOf q) := by
  cases q with
  | seek s => exact absurd (show (0 : Int) = 3 from h) (by decide)
  | walk l s => exact absurd (show (1 : Int) = 3 from h) (by decide)
  | look l s a => exact absurd (show (2 : Int) = 3 from h) (by decide)
  | done l r => rfl
theorem runs25 : ∀ kind, kind < 7 → ∀ k, k < 5 → (∀ t, t < steps25 (kind + 4) k → (run25 (kind + 4) k t).next ≠ 3 ∧ fewB (rdC tree3) (run25 (kind + 4) k t) = true) ∧ (run25 (kind + 4) k (steps25 (kind + 4) k)).next = 3 ∧ steps25 (kind + 4) k ≤ 1000 ∧ (resOf (run25 (kind + 4) k (steps25 (kind + 4) k))).list.length ≤ 1000000 := by decide +kernel
theorem asked25k {kind k : Nat} (hi : kind < 7) (hk : k < 5) {M : List Int} (hM : tree3 = M) : ∃ S st, AskedQ (rdC M) (op25 ((kind + 4 : Nat) : Int) k) 1 S st (leftOf (run25 (kind + 4) k (steps25 (kind + 4) k))) (resOf (run25 (kind + 4) k (steps25 (kind + 4) k))) := by
  obtain ⟨q1, q2, q3, q4⟩ := runs25 kind hi k hk
  subst hM
  have hb : (op25 ((kind + 4 : Nat) : Int) k).Bd := by
    show leastI ≤ (k : Int) ∧ (k : Int) ≤ mostI ∧ leastI ≤ 2 ∧ (2 : Int) ≤ mostI
    unfold leastI mostI; omega
  exact ⟨steps25 (kind + 4) k, run25 (kind + 4) k, rfl, fun t => rfl, fun t => QP.Inv.it hb (rdC_bd (bd_of (memK_bd 0 (by omega)))) (QP.Inv.init hb 1) t, fun t ht => few_of (q1 t ht).2, fun t ht => (q1 t ht).1, done_eq q2, q3, q4⟩
/- ordinateref1's answers over ascending pairs. -/

set_option maxHeartbeats 1000000 in
theorem mapOk_any (A : Option Addr) (c N : Nat) (l : List (Int × Int)) (w : World) (hN : N = l.length) (hq : PairsAt w w.heap.size A l) (hl : l.length ≤ 1000000) (ha : AscP l) :
    Calls Tryz.prog 86 #[.slice A N c] w fun e w' => e = .returned (.bool true) ∧ Drawn w w' := by
  subst hN
  have HQ := Lib.hid hq
  have HA := Lib.hid ha
  clear hq ha
  go_enter Tryz.func86, Tryz.ntmps86
  go_wp2_with (fail)
  go_loopw [3] (fun v wr => ∃ (i m : Nat), 1 ≤ i ∧ (i ≤ l.length ∨ i = 1) ∧ v = .int .i64 i ∧ wr = w.drewN m) (fun v _ => l.length - (intOf v).toNat)
  case atStart => exact ⟨1, 0, by omega, .inr rfl, rfl, rfl⟩
  case round =>
    obtain ⟨i, m, i0, i1, rfl, rfl⟩ := hrel
    by_cases hlt : i < l.length
    · obtain ⟨j, rfl⟩ : ∃ j, i = j + 1 := ⟨i - 1, by omega⟩
      obtain ⟨ad, rfl, _, hc⟩ := HQ.out.key (by omega)
      have k1 := hc j (by omega)
      have k2 := hc (j + 1) hlt
      have hk := HA.out j hlt
      have e1 : (j : Int) + 1 - 1 = j := by omega
      generalize pkey l j = x at k1 hk
      generalize pkey l (j + 1) = y at k2 hk
      clear hc i1
      have k2' : w.cell? (ad.add (j * 2 + 2)) = some (.int .i64 y) := by rw [show (j + 1) * 2 = j * 2 + 2 by omega] at k2; exact k2
      have hlt2 : (j : Int) + 1 < l.length := by omega
      have hk2 : ¬ y ≤ x := by omega
      go_wp2_with (fail)
      go_quiet (fail)
      go_wp2_with (fail)
      go_roundw
      case rel => exact ⟨j + 1 + 1, _, by omega, .inl (by omega), by go_num, rfl⟩
      case measure => simp [intOf]; omega
    · have hlt2 : ¬ (i : Int) < l.length := by omega
      go_wp2_with (fail)
      go_ret
      exact ⟨rfl, Drawn.of _ _⟩
set_option maxHeartbeats 2000000 in
set_option maxRecDepth 100000 in
theorem placeL_any (A : Option Addr) (c : Nat) (L : List (Int × Int)) (k : Int) (w : World) (hq : PairsAt w w.heap.size A L) (hl : L.length ≤ 1000000) :
    Calls Tryz.prog 126 #[.slice A L.length c, .int .i64 k] w fun e w' => e = .returned (.int .i64 (placeP L k)) ∧ Drawn w w' := by
  have HQ := Lib.hid hq
  clear hq
  go_enter Tryz.func126, Tryz.ntmps126
  go_wp2_with (fail)
  go_loopw [5] (fun u wr => ∃ (i m : Nat), i ≤ L.length ∧ u = .int .i64 i ∧ Hid (∀ x, x < i → pkey L x < k) ∧ wr = w.drewN m) (fun u _ => L.length - (intOf u).toNat)
  case atStart => exact ⟨0, 0, by omega, rfl, Lib.hid (fun x h => absurd h (by omega)), rfl⟩
  case round =>
    obtain ⟨i, m, i1, rfl, hlow, rfl⟩ := hrel
    by_cases hlt : i < L.length
    · obtain ⟨ad, rfl, hbl, hc⟩ := PairsAt.key HQ.out (by omega)
      have hcell : (w.drewN m).cell? (ad.add (i * 2)) = some (.int .i64 (pkey L i)) := hc i hlt
      clear hc
      by_cases hk : pkey L i < k
      · go_wp2_with (fail)
        go_roundw
        case rel => exact ⟨i + 1, m, by omega, by go_num, Lib.hid (fun x h => by
          by_cases e : x = i
          · subst e; exact hk
          · exact hlow.out x (by omega)), rfl⟩
        case measure => simp [intOf]; omega
      · have E := Lib.hid (placeP_at i1 hlow.out (fun _ => hk))
        go_wp2_with (fail)
        go_ret
        rw [E.out]
        exact ⟨rfl, ⟨_, rfl⟩⟩
    · have E := Lib.hid (placeP_at (k := k) i1 hlow.out (fun h => absurd h hlt))
      go_wp2_with (fail)
      go_ret
      rw [E.out]
      exact ⟨rfl, ⟨_, rfl⟩⟩
def getI (L : List (Int × Int)) (k : Int) : Int × Bool := if placeP L k < L.length ∧ pkey L (placeP L k) = k then (pval L (placeP L k), true) else (0, false)
set_option maxHeartbeats 1000000 in
theorem getL_any (A : Option Addr) (c : Nat) (L : List (Int × Int)) (k : Int) (w : World) (hq : PairsAt w w.heap.size A L) (hl : L.length ≤ 1000000) :
    Calls Tryz.prog 58 #[.slice A L.length c, .int .i64 k] w fun e w' => e = .returned (.tuple #[.int .i64 (getI L k).1, .bool (getI L k).2]) ∧ Drawn w w' := by
  have HQ := Lib.hid hq
  have hple := placeP_le L k
  clear hq
  by_cases h1 : placeP L k < L.length
  · by_cases h2 : pkey L (placeP L k) = k
    · have HG := Lib.hid (show getI L k = (pval L (placeP L k), true) from if_pos ⟨h1, h2⟩)
      have hk : (pkey L (placeP L k) == k) = true := by simpa using h2
      clear h2
      go_enter Tryz.func58, Tryz.ntmps58
      go_wp2_with (fail)
      with_reducible refine (placeL_any A c L k _ HQ.out hl).mono ?_
      rintro e w1 ⟨rfl, hd⟩
      have HD := Lib.hid hd
      obtain ⟨ad, rfl, _, hc⟩ := PairsAt.both (w := w1) (B := w.heap.size) (A := A) (L := L) (Reads.below HQ.out (drawn_bl hd _)) (by omega)
      obtain ⟨k1, v1⟩ := hc _ h1
      have u1 : w1.cell? { block := (ad.add (placeP L k * 2)).block, off := (ad.add (placeP L k * 2)).off + 1 } = some (.int .i64 (pval L (placeP L k))) := by rw [← Addr.add_add] at v1; exact v1
      clear hc hd
      go_wp2_with (fail)
      refine bodyPost_ret (v := (.tuple #[.int .i64 (pval L (placeP L k)), .bool true])) (by simp [results, Tryz.results58, go_sem]) rfl ?_
      rw [HG.out]
      exact ⟨rfl, HD.out⟩
    · have HG := Lib.hid (show getI L k = (0, false) from if_neg (fun h => h2 h.2))
      have hk : (pkey L (placeP L k) == k) = false := by simpa using h2
      clear h2
      go_enter Tryz.func58, Tryz.ntmps58
      go_wp2_with (fail)
      with_reducible refine (placeL_any A c L k _ HQ.out hl).mono ?_
      rintro e w1 ⟨rfl, hd⟩
      have HD := Lib.hid hd
      obtain ⟨ad, rfl, _, hc⟩ := PairsAt.both (w := w1) (B := w.heap.size) (A := A) (L := L) (Reads.below HQ.out (drawn_bl hd _)) (by omega)
      obtain ⟨k1, v1⟩ := hc _ h1
      clear hc hd
      go_wp2_with (fail)
      refine bodyPost_ret (v := (.tuple #[.int .i64 0, .bool false])) (by simp [results, Tryz.results58, go_sem]) rfl ?_
      rw [HG.out]
      exact ⟨rfl, HD.out⟩
  · have HG := Lib.hid (show getI L k = (0, false) from if_neg (fun h => h1 h.1))
    go_enter Tryz.func58, Tryz.ntmps58
    go_wp2_with (fail)
    with_reducible refine (placeL_any A c L k _ HQ.out hl).mono ?_
    rintro e w1 ⟨rfl, hd⟩
    have HD := Lib.hid hd
    clear hd
    go_wp2_with (fail)
    refine bodyPost_ret (v := (.tuple #[.int .i64 0, .bool false])) (by simp [results, Tryz.results58, go_sem]) rfl ?_
    rw [HG.out]
    exact ⟨rfl, HD.out⟩

def pairI (L : List (Int × Int)) (i : Nat) : Int × Int := (pkey L i, pval L i)
def floorI (L : List (Int × Int)) (k : Int) : (Int × Int) × Bool :=
  if placeP L k < L.length ∧ pkey L (placeP L k) = k then (pairI L (placeP L k), true) else if placeP L k = 0 then ((0, 0), false) else (pairI L (placeP L k - 1), true)
def ceilI (L : List (Int × Int)) (k : Int) : (Int × Int) × Bool := if placeP L k = L.length then ((0, 0), false) else (pairI L (placeP L k), true)
def rangeI (L : List (Int × Int)) (lo hi : Int) : List (Int × Int) := L.filter fun p => decide (lo ≤ p.1 ∧ p.1 ≤ hi)
def foundI (p : Int × Int) (b : Bool) : Res := if b = true then ⟨0, true, p.1, p.2, 0, []⟩ else Res.none
def ansI (L : List (Int × Int)) (o : Op) : Res :=
  if o.kind = 1 ∨ o.kind = 2 ∨ o.kind = 3 ∨ o.kind = 4 then foundI (o.key, (getI L o.key).1) (getI L o.key).2
  else if o.kind = 5 then foundI (floorI L o.key).1 (floorI L o.key).2
  else if o.kind = 6 then foundI (ceilI L o.key).1 (ceilI L o.key).2
  else if o.kind = 7 then foundI (ceilI L leastI).1 (ceilI L leastI).2
  else if o.kind = 8 then foundI (floorI L mostI).1 (floorI L mostI).2
  else if o.kind = 9 then ⟨0, false, 0, 0, 0, rangeI L o.key o.val⟩
  else if o.kind = 10 then ⟨0, false, 0, 0, (rangeI L o.key o.val).length, []⟩
  else Res.err 5
theorem rangeI_len (L : List (Int × Int)) (lo hi : Int) : (rangeI L lo hi).length ≤ L.length := List.length_filter_le _ _
theorem PairsAt.at_ {w : World} {B : Nat} {ad : Addr} {L : List (Int × Int)} {i : Nat} (h : PairsAt w B (some ad) L) (hi : i < L.length) : w.cell? (ad.add (i * 2)) = some (.int .i64 (pkey L i)) ∧ w.cell? { block := (ad.add (i * 2)).block, off := (ad.add (i * 2)).off + 1 } = some (.int .i64 (pval L i)) := by
  obtain ⟨ad', e, _, hc⟩ := PairsAt.both h (by omega)
  injection e with e; subst e
  obtain ⟨k1, v1⟩ := hc _ hi
  rw [← Addr.add_add] at v1
  exact ⟨k1, v1⟩
theorem PairsAt.some_ {w : World} {B : Nat} {A : Option Addr} {L : List (Int × Int)} (h : PairsAt w B A L) (hl : 0 < L.length) : ∃ ad, A = some ad := by
  obtain ⟨ad, e, _⟩ := PairsAt.both h hl
  exact ⟨ad, e⟩
set_option maxHeartbeats 1000000 in
theorem floorL_any (A : Option Addr) (c : Nat) (L : List (Int × Int)) (k : Int) (w : World) (hq : PairsAt w w.heap.size A L) (hl : L.length ≤ 1000000) :
    Calls Tryz.prog 104 #[.slice A L.length c, .int .i64 k] w fun e w' => e = .returned (.tuple #[.agg #[.int .i64 (floorI L k).1.1, .int .i64 (floorI L k).1.2], .bool (floorI L k).2]) ∧ Below w.heap.size w w' := by
  have hx := Blk.new w 52 #[.int .i64 0, .int .i64 0]
  have hb0 := (Below.refl w.heap.size w).alloc (Nat.le_refl _) (.cells #[.int .i64 0, .int .i64 0] 52)
  have HQ : Hid (PairsAt (w.alloc (.cells #[.int .i64 0, .int .i64 0] 52)) (w.alloc (.cells #[.int .i64 0, .int .i64 0] 52)).heap.size A L) := Lib.hid ((hq.below hb0).more hb0.size)
  have hz0 : (w.alloc (.cells #[.int .i64 0, .int .i64 0] 52)).heap.size = w.heap.size + 1 := by simp
  have HX := Lib.hid hx
  have HB := Lib.hid hb0
  have HZ := Lib.hid hz0
  clear hx hb0 hz0
  clear hq
  have hple := placeP_le L k
  by_cases h1 : placeP L k < L.length ∧ pkey L (placeP L k) = k
  · obtain ⟨h1, h2⟩ := h1
    have HG := Lib.hid (show floorI L k = (pairI L (placeP L k), true) from if_pos ⟨h1, h2⟩)
    have hk : (pkey L (placeP L k) == k) = true := by simpa using h2
    clear h2
    go_enter Tryz.func104, Tryz.ntmps104
    go_wp2_with (fail)
    generalize w.alloc (.cells #[.int .i64 0, .int .i64 0] 52) = w0 at HX HQ HB HZ ⊢
    with_reducible refine (placeL_any A c L k w0 HQ.out hl).mono ?_
    rintro e w1 ⟨rfl, hd⟩
    have hx1 := HX.out.below (drawn_bl hd _) HX.out.lt
    have x0 : w1.cell? ⟨w.heap.size, 0, none⟩ = some (.int .i64 0) := hx1.cell 0
    have x1 : w1.cell? ⟨w.heap.size, 1, none⟩ = some (.int .i64 0) := hx1.cell 1
    have f0 := hx1.frozen 0
    have f1 := hx1.frozen 1
    have HQ1 := Lib.hid (Reads.below HQ.out (drawn_bl hd _) : PairsAt w1 w0.heap.size A L)
    have HB1 := Lib.hid (HB.out.trans ((drawn_bl hd _).mono HB.out.size))
    have HN := Lib.hid HX.out.lt
    clear hx1 hd HX HQ HB
    obtain ⟨ad, rfl⟩ := PairsAt.some_ HQ1.out (by omega)
    obtain ⟨k1, v1⟩ := PairsAt.at_ HQ1.out h1
    go_wp2_with (fail)
    refine bodyPost_ret (v := (.tuple #[.agg #[.int .i64 (pkey L (placeP L k)), .int .i64 (pval L (placeP L k))], .bool true])) (by simp [results, Tryz.results104, go_sem, x0, x1, f0, f1]) rfl ?_
    rw [HG.out]
    exact ⟨rfl, (HB1.out.setCell (by simp) _).setCell (by simp) _⟩
  · have T : ∀ b : Bool, b = decide (placeP L k < L.length) → (b = true → (pkey L (placeP L k) == k) = false) := fun b hb ht => by
      have : placeP L k < L.length := of_decide_eq_true (hb ▸ ht)
      simpa using fun e => h1 ⟨this, e⟩
    by_cases h0 : placeP L k = 0
    · have HG := Lib.hid (show floorI L k = ((0, 0), false) by unfold floorI; rw [if_neg h1, if_pos h0])
      have e0 : (((placeP L k : Nat) : Int) == 0) = true := by simpa using h0
      by_cases hlt : placeP L k < L.length
      · have hk := T true (decide_eq_true hlt).symm rfl
        clear h1 h0 T
        go_enter Tryz.func104, Tryz.ntmps104
        go_wp2_with (fail)
        generalize w.alloc (.cells #[.int .i64 0, .int .i64 0] 52) = w0 at HX HQ HB HZ ⊢
        with_reducible refine (placeL_any A c L k w0 HQ.out hl).mono ?_
        rintro e w1 ⟨rfl, hd⟩
        have hx1 := HX.out.below (drawn_bl hd _) HX.out.lt
        have x0 : w1.cell? ⟨w.heap.size, 0, none⟩ = some (.int .i64 0) := hx1.cell 0
        have x1 : w1.cell? ⟨w.heap.size, 1, none⟩ = some (.int .i64 0) := hx1.cell 1
        have f0 := hx1.frozen 0
        have f1 := hx1.frozen 1
        have HQ1 := Lib.hid (Reads.below HQ.out (drawn_bl hd _) : PairsAt w1 w0.heap.size A L)
        have HB1 := Lib.hid (HB.out.trans ((drawn_bl hd _).mono HB.out.size))
        have HN := Lib.hid HX.out.lt
        clear hx1 hd HX HQ HB
        obtain ⟨ad, rfl⟩ := PairsAt.some_ HQ1.out (by omega)
        obtain ⟨k1, v1⟩ := PairsAt.at_ HQ1.out hlt
        go_wp2_with (fail)
        refine bodyPost_ret (v := (.tuple #[.agg #[.int .i64 0, .int .i64 0], .bool false])) (by simp [results, Tryz.results104, go_sem, x0, x1, f0, f1]) rfl ?_
        rw [HG.out]
        exact ⟨rfl, (HB1.out.setCell (by simp) _).setCell (by simp) _⟩
      · clear h1 h0 T
        go_enter Tryz.func104, Tryz.ntmps104
        go_wp2_with (fail)
        generalize w.alloc (.cells #[.int .i64 0, .int .i64 0] 52) = w0 at HX HQ HB HZ ⊢
        with_reducible refine (placeL_any A c L k w0 HQ.out hl).mono ?_
        rintro e w1 ⟨rfl, hd⟩
        have hx1 := HX.out.below (drawn_bl hd _) HX.out.lt
        have x0 : w1.cell? ⟨w.heap.size, 0, none⟩ = some (.int .i64 0) := hx1.cell 0
        have x1 : w1.cell? ⟨w.heap.size, 1, none⟩ = some (.int .i64 0) := hx1.cell 1
        have f0 := hx1.frozen 0
        have f1 := hx1.frozen 1
        have HQ1 := Lib.hid (Reads.below HQ.out (drawn_bl hd _) : PairsAt w1 w0.heap.size A L)
        have HB1 := Lib.hid (HB.out.trans ((drawn_bl hd _).mono HB.out.size))
        have HN := Lib.hid HX.out.lt
        clear hx1 hd HX HQ HB
        go_wp2_with (fail)
        refine bodyPost_ret (v := (.tuple #[.agg #[.int .i64 0, .int .i64 0], .bool false])) (by simp [results, Tryz.results104, go_sem, x0, x1, f0, f1]) rfl ?_
        rw [HG.out]
        exact ⟨rfl, (HB1.out.setCell (by simp) _).setCell (by simp) _⟩
    · obtain ⟨j, hj⟩ : ∃ j, placeP L k = j + 1 := ⟨placeP L k - 1, by omega⟩
      have HG := Lib.hid (show floorI L k = (pairI L j, true) by unfold floorI; rw [if_neg h1, if_neg h0, hj]; rfl)
      have e0 : (((j + 1 : Nat) : Int) == 0) = false := by rw [beq_eq_false_iff_ne]; omega
      have e0' : ((j : Int) + 1 == 0) = false := by rw [beq_eq_false_iff_ne]; omega
      have ej : (j : Int) + 1 - 1 = j := by omega
      have hjl : j < L.length := by omega
      rw [hj] at T hple
      have HJ := Lib.hid hj
      clear h1 h0 hj
      by_cases hlt : j + 1 < L.length
      · have hk := T true (decide_eq_true hlt).symm rfl
        clear T
        go_enter Tryz.func104, Tryz.ntmps104
        go_wp2_with (fail)
        generalize w.alloc (.cells #[.int .i64 0, .int .i64 0] 52) = w0 at HX HQ HB HZ ⊢
        with_reducible refine (placeL_any A c L k w0 HQ.out hl).mono ?_
        rintro e w1 ⟨rfl, hd⟩
        have hx1 := HX.out.below (drawn_bl hd _) HX.out.lt
        have x0 : w1.cell? ⟨w.heap.size, 0, none⟩ = some (.int .i64 0) := hx1.cell 0
        have x1 : w1.cell? ⟨w.heap.size, 1, none⟩ = some (.int .i64 0) := hx1.cell 1
        have f0 := hx1.frozen 0
        have f1 := hx1.frozen 1
        have HQ1 := Lib.hid (Reads.below HQ.out (drawn_bl hd _) : PairsAt w1 w0.heap.size A L)
        have HB1 := Lib.hid (HB.out.trans ((drawn_bl hd _).mono HB.out.size))
        have HN := Lib.hid HX.out.lt
        clear hx1 hd HX HQ HB
        rw [HJ.out]
        obtain ⟨ad, rfl⟩ := PairsAt.some_ HQ1.out (by omega)
        obtain ⟨k1, v1⟩ := PairsAt.at_ HQ1.out hlt
        obtain ⟨k2, v2⟩ := PairsAt.at_ HQ1.out hjl
        have hlt2 : (j : Int) + 1 < L.length := by omega
        go_wp2_with (fail)
        refine bodyPost_ret (v := (.tuple #[.agg #[.int .i64 (pkey L j), .int .i64 (pval L j)], .bool true])) (by simp [results, Tryz.results104, go_sem, x0, x1, f0, f1]) rfl ?_
        rw [HG.out]
        exact ⟨rfl, (HB1.out.setCell (by simp) _).setCell (by simp) _⟩
      · clear T
        have hlt2 : ¬ (j : Int) + 1 < L.length := by omega
        go_enter Tryz.func104, Tryz.ntmps104
        go_wp2_with (fail)
        generalize w.alloc (.cells #[.int .i64 0, .int .i64 0] 52) = w0 at HX HQ HB HZ ⊢
        with_reducible refine (placeL_any A c L k w0 HQ.out hl).mono ?_
        rintro e w1 ⟨rfl, hd⟩
        have hx1 := HX.out.below (drawn_bl hd _) HX.out.lt
        have x0 : w1.cell? ⟨w.heap.size, 0, none⟩ = some (.int .i64 0) := hx1.cell 0
        have x1 : w1.cell? ⟨w.heap.size, 1, none⟩ = some (.int .i64 0) := hx1.cell 1
        have f0 := hx1.frozen 0
        have f1 := hx1.frozen 1
        have HQ1 := Lib.hid (Reads.below HQ.out (drawn_bl hd _) : PairsAt w1 w0.heap.size A L)
        have HB1 := Lib.hid (HB.out.trans ((drawn_bl hd _).mono HB.out.size))
        have HN := Lib.hid HX.out.lt
        clear hx1 hd HX HQ HB
        rw [HJ.out]
        obtain ⟨ad, rfl⟩ := PairsAt.some_ HQ1.out (by omega)
        obtain ⟨k2, v2⟩ := PairsAt.at_ HQ1.out hjl
        go_wp2_with (fail)
        refine bodyPost_ret (v := (.tuple #[.agg #[.int .i64 (pkey L j), .int .i64 (pval L j)], .bool true])) (by simp [results, Tryz.results104, go_sem, x0, x1, f0, f1]) rfl ?_
        rw [HG.out]
        exact ⟨rfl, (HB1.out.setCell (by simp) _).setCell (by simp) _⟩
set_option maxHeartbeats 1000000 in
theorem ceilL_any (A : Option Addr) (c : Nat) (L : List (Int × Int)) (k : Int) (w : World) (hq : PairsAt w w.heap.size A L) (hl : L.length ≤ 1000000) :
    Calls Tryz.prog 105 #[.slice A L.length c, .int .i64 k] w fun e w' => e = .returned (.tuple #[.agg #[.int .i64 (ceilI L k).1.1, .int .i64 (ceilI L k).1.2], .bool (ceilI L k).2]) ∧ Below w.heap.size w w' := by
  have hx := Blk.new w 52 #[.int .i64 0, .int .i64 0]
  have hb0 := (Below.refl w.heap.size w).alloc (Nat.le_refl _) (.cells #[.int .i64 0, .int .i64 0] 52)
  have HQ : Hid (PairsAt (w.alloc (.cells #[.int .i64 0, .int .i64 0] 52)) (w.alloc (.cells #[.int .i64 0, .int .i64 0] 52)).heap.size A L) := Lib.hid ((hq.below hb0).more hb0.size)
  have hz0 : (w.alloc (.cells #[.int .i64 0, .int .i64 0] 52)).heap.size = w.heap.size + 1 := by simp
  have HX := Lib.hid hx
  have HB := Lib.hid hb0
  have HZ := Lib.hid hz0
  clear hx hb0 hz0
  clear hq
  have hple := placeP_le L k
  by_cases h1 : placeP L k = L.length
  · have HG := Lib.hid (show ceilI L k = ((0, 0), false) from if_pos h1)
    have e1 : (((placeP L k : Nat) : Int) == (L.length : Int)) = true := by rw [beq_iff_eq]; omega
    have e2 : (placeP L k == L.length) = true := by simpa using h1
    clear h1
    go_enter Tryz.func105, Tryz.ntmps105
    go_wp2_with (fail)
    generalize w.alloc (.cells #[.int .i64 0, .int .i64 0] 52) = w0 at HX HQ HB HZ ⊢
    with_reducible refine (placeL_any A c L k w0 HQ.out hl).mono ?_
    rintro e w1 ⟨rfl, hd⟩
    have hx1 := HX.out.below (drawn_bl hd _) HX.out.lt
    have x0 : w1.cell? ⟨w.heap.size, 0, none⟩ = some (.int .i64 0) := hx1.cell 0
    have x1 : w1.cell? ⟨w.heap.size, 1, none⟩ = some (.int .i64 0) := hx1.cell 1
    have f0 := hx1.frozen 0
    have f1 := hx1.frozen 1
    have HQ1 := Lib.hid (Reads.below HQ.out (drawn_bl hd _) : PairsAt w1 w0.heap.size A L)
    have HB1 := Lib.hid (HB.out.trans ((drawn_bl hd _).mono HB.out.size))
    have HN := Lib.hid HX.out.lt
    clear hx1 hd HX HQ HB
    go_wp2_with (fail)
    refine bodyPost_ret (v := (.tuple #[.agg #[.int .i64 0, .int .i64 0], .bool false])) (by simp [results, Tryz.results105, go_sem, x0, x1, f0, f1]) rfl ?_
    rw [HG.out]
    exact ⟨rfl, (HB1.out.setCell (by simp) _).setCell (by simp) _⟩
  · have HG := Lib.hid (show ceilI L k = (pairI L (placeP L k), true) from if_neg h1)
    have e1 : (((placeP L k : Nat) : Int) == (L.length : Int)) = false := by rw [beq_eq_false_iff_ne]; omega
    have e2 : (placeP L k == L.length) = false := by rw [beq_eq_false_iff_ne]; omega
    have hlt : placeP L k < L.length := by omega
    clear h1
    go_enter Tryz.func105, Tryz.ntmps105
    go_wp2_with (fail)
    generalize w.alloc (.cells #[.int .i64 0, .int .i64 0] 52) = w0 at HX HQ HB HZ ⊢
    with_reducible refine (placeL_any A c L k w0 HQ.out hl).mono ?_
    rintro e w1 ⟨rfl, hd⟩
    have hx1 := HX.out.below (drawn_bl hd _) HX.out.lt
    have x0 : w1.cell? ⟨w.heap.size, 0, none⟩ = some (.int .i64 0) := hx1.cell 0
    have x1 : w1.cell? ⟨w.heap.size, 1, none⟩ = some (.int .i64 0) := hx1.cell 1
    have f0 := hx1.frozen 0
    have f1 := hx1.frozen 1
    have HQ1 := Lib.hid (Reads.below HQ.out (drawn_bl hd _) : PairsAt w1 w0.heap.size A L)
    have HB1 := Lib.hid (HB.out.trans ((drawn_bl hd _).mono HB.out.size))
    have HN := Lib.hid HX.out.lt
    clear hx1 hd HX HQ HB
    obtain ⟨ad, rfl⟩ := PairsAt.some_ HQ1.out (by omega)
    obtain ⟨k1, v1⟩ := PairsAt.at_ HQ1.out hlt
    go_wp2_with (fail)
    refine bodyPost_ret (v := (.tuple #[.agg #[.int .i64 (pkey L (placeP L k)), .int .i64 (pval L (placeP L k))], .bool true])) (by simp [results, Tryz.results105, go_sem, x0, x1, f0, f1]) rfl ?_
    rw [HG.out]
    exact ⟨rfl, (HB1.out.setCell (by simp) _).setCell (by simp) _⟩
set_option maxHeartbeats 400000 in
theorem foundL_any (a b : Int) (ok : Bool) (w : World) : Calls Tryz.prog 103 #[.agg #[.int .i64 a, .int .i64 b], .bool ok] w fun e w' => e = .returned (resV (foundI (a, b) ok) (.slice none 0 0)) ∧ Below w.heap.size w w' := by
  have hB := (((Below.refl w.heap.size w).alloc (Nat.le_refl _) (.cells #[.int .i64 a, .int .i64 b] 52)))
  cases ok with
  | false =>
    go_enter Tryz.func103, Tryz.ntmps103
    go_wp2_with (fail)
    refine bodyPost_ret (v := resV Res.none (.slice none 0 0)) (by simp [results, Tryz.results103, go_sem, resV, Res.none]) rfl ?_
    exact ⟨rfl, hB.alloc (by simp) _⟩
  | true =>
    go_enter Tryz.func103, Tryz.ntmps103
    go_wp2_with (fail)
    refine bodyPost_ret (v := resV ⟨0, true, a, b, 0, []⟩ (.slice none 0 0)) (by simp [results, Tryz.results103, go_sem, resV]) rfl ?_
    exact ⟨rfl, hB.alloc (by simp) _⟩
theorem take_snoc_p {L : List (Int × Int)} {i : Nat} (h : i < L.length) : L.take (i + 1) = L.take i ++ [(pkey L i, pval L i)] := by
  rw [List.take_succ_eq_append_getElem h]
  unfold pkey pval
  rw [List.getD_eq_getElem?_getD, List.getElem?_eq_getElem h]; rfl
def RangeRel (L : List (Int × Int)) (lo hi : Int) (w : World) (v i : Value) (wr : World) : Prop := ∃ j : Nat, j ≤ L.length ∧ i = .int .i64 j ∧ wr.ownsRow w.heap.size 52 2 v (rangeI (L.take j) lo hi).length (cellsP (rangeI (L.take j) lo hi)) ∧ Below w.heap.size w wr
def RangePost (L : List (Int × Int)) (lo hi : Int) (w : World) (e : Ending) (w' : World) : Prop := ∃ A c, e = .returned (.slice A (rangeI L lo hi).length c) ∧ w'.ownsRow w.heap.size 52 2 (.slice A (rangeI L lo hi).length c) (rangeI L lo hi).length (cellsP (rangeI L lo hi)) ∧ Below w.heap.size w w'
theorem cells_two (w : World) (t : TypeId) (a b : Value) : ∀ j u, [a, b][j]? = some u → (w.alloc (.cells #[a, b] t)).cell? ((⟨w.heap.size, 0, none⟩ : Addr).add j) = some u := fun j u hu => by
  have e : (⟨w.heap.size, 0, none⟩ : Addr).add j = ⟨w.heap.size, j, none⟩ := by unfold Addr.add; split <;> simp_all
  rw [e, (Blk.new w t #[a, b]).cell j]
  simpa using hu
set_option maxRecDepth 100000 in
set_option maxHeartbeats 2000000 in
theorem rangeL_any (A : Option Addr) (c : Nat) (L : List (Int × Int)) (lo hi : Int) (w : World) (hq : PairsAt w w.heap.size A L) (hl : L.length ≤ 1000000) :
    Calls Tryz.prog 67 #[.slice A L.length c, .int .i64 lo, .int .i64 hi] w (RangePost L lo hi w) := by
  obtain ⟨i0, hi0, hz0, hz1, hz2⟩ := info_parts info_pair
  have HQ := Lib.hid hq
  clear hq
  go_enter Tryz.func67, Tryz.ntmps67
  go_wp2_with (fail)
  go_loopw [7, 8] (fun v i wr => RangeRel L lo hi w v i wr) (fun _ i _ => L.length - (intOf i).toNat)
  case atStart => unfold RangeRel; exact ⟨0, by omega, rfl, World.ownsRow_nil _ _ _ _, Below.refl _ _⟩
  case round =>
    obtain ⟨j, j1, rfl, hown, hB⟩ := hrel
    by_cases hlt : j < L.length
    · have hr : (rangeI (L.take j) lo hi).length ≤ 1000000 := by have := rangeI_len (L.take j) lo hi; have := List.length_take_le j L; omega
      have hQ := Reads.below HQ.out hB
      obtain ⟨ad, rfl⟩ := PairsAt.some_ hQ (by omega)
      obtain ⟨k1, v1⟩ := PairsAt.at_ hQ hlt
      have ht := take_snoc_p hlt
      have hs : rangeI (L.take (j + 1)) lo hi = rangeI (L.take j) lo hi ++ (if lo ≤ pkey L j ∧ pkey L j ≤ hi then [(pkey L j, pval L j)] else []) := by
        rw [ht]; unfold rangeI; rw [List.filter_append]; congr 1
        by_cases h : lo ≤ pkey L j ∧ pkey L j ≤ hi
        · rw [if_pos h]; simp [h]
        · rw [if_neg h]; simp [h]
      generalize rangeI (L.take j) lo hi = R at hown hr hs
      have HS := Lib.hid hs
      have HO := Lib.hid hown
      have HB := Lib.hid hB
      generalize pkey L j = pk at *
      generalize pval L j = pv at *
      clear hQ ht hs hown hB
      by_cases h1 : lo ≤ pk
      · by_cases h2 : pk ≤ hi
        · have HS2 : Hid (rangeI (L.take (j + 1)) lo hi = R ++ [(pk, pv)]) := Lib.hid (by rw [HS.out, if_pos ⟨h1, h2⟩])
          have hb1 := HB.out.alloc HB.out.size (.cells #[.int .i64 pk, .int .i64 pv] 52)
          have HB1 := Lib.hid hb1
          have hzz : w.heap.size ≤ (wr.alloc (.cells #[.int .i64 pk, .int .i64 pv] 52)).heap.size := hb1.size
          have HN := Lib.hid (cells_two wr 52 (.int .i64 pk) (.int .i64 pv))
          have HOA := Lib.hid (HO.out.alloc (.cells #[.int .i64 pk, .int .i64 pv] 52))
          clear hb1 HS
          go_wp2_with (at_builtin; refine wpList_append_own _ rfl _ _ 40 rfl w.heap.size 52 i0 (.agg #[.int .i64 0, .int .i64 0]) 2 16 Tryz.underlying40 hi0 hz0 hz1 hz2 rfl (by decide) _ _ _ rfl HOA.out ⟨wr.heap.size, 0, none⟩ 1 1 [.int .i64 pk, .int .i64 pv] rfl rfl HN.out (by simp [Value.oneCell']) (by unfold maxLen; omega) (by omega) hzz ?_; intro v' w1 hown' hgrow _; have HBN := Lib.hid (HB1.out.grown hgrow hzz (fun g hg => (HO.out.lt g hg).1)); have HON := Lib.hid hown'; clear hown' hgrow)
          go_roundw
          case rel => unfold RangeRel; exact ⟨j + 1, by omega, by go_num, by rw [HS2.out]; simpa [cellsP] using HON.out, HBN.out⟩
          case measure => simp [intOf]; omega
        · have HS2 : Hid (rangeI (L.take (j + 1)) lo hi = R) := Lib.hid (by rw [HS.out, if_neg (fun h => h2 h.2), List.append_nil])
          clear HS
          go_wp2_with (fail)
          go_roundw
          case rel => unfold RangeRel; exact ⟨j + 1, by omega, by go_num, by rw [HS2.out]; exact HO.out, HB.out⟩
          case measure => simp [intOf]; omega
      · have HS2 : Hid (rangeI (L.take (j + 1)) lo hi = R) := Lib.hid (by rw [HS.out, if_neg (fun h => h1 h.1), List.append_nil])
        clear HS
        go_wp2_with (fail)
        go_roundw
        case rel => unfold RangeRel; exact ⟨j + 1, by omega, by go_num, by rw [HS2.out]; exact HO.out, HB.out⟩
        case measure => simp [intOf]; omega
    · have e : j = L.length := by omega
      subst e
      rw [List.take_of_length_le (Nat.le_refl _)] at hown
      obtain ⟨A2, c2, rfl⟩ := own_shape hown
      have HO := Lib.hid hown
      have HB := Lib.hid hB
      clear hown hB
      go_wp2_with (fail)
      go_ret
      exact ⟨_, _, rfl, HO.out, HB.out⟩
/- ordinateref1.Answer over ascending pairs, kind by kind (printed by genanswer.py). -/

def AnsLPost (L : List (Int × Int)) (o : Op) (w : World) (e : Ending) (w' : World) : Prop := ∃ lv, e = .returned (resV (ansI L o) lv) ∧ w'.ownsRow w.heap.size 52 2 lv (ansI L o).list.length (cellsP (ansI L o).list) ∧ Below w.heap.size w w'
theorem foundI_list (p : Int × Int) (b : Bool) : (foundI p b).list = [] := by unfold foundI; split <;> rfl
theorem AnsLPost.none {L : List (Int × Int)} {o : Op} {w w' : World} (h : (ansI L o).list = []) (hb : Below w.heap.size w w') : AnsLPost L o w (.returned (resV (ansI L o) (.slice none 0 0))) w' :=
  ⟨_, rfl, by rw [h]; exact World.ownsRow_nil _ _ _ _, hb⟩
/-- Six cells stored into the result's block. -/
theorem below_set6 {B : Nat} {w w' : World} (h : Below B w w') {b : Nat} (hb : B ≤ b) (v0 v1 v2 v3 v4 v5 : Value) : Below B w ((((((w'.setCell ⟨b, 0, none⟩ v0).setCell ⟨b, 1, none⟩ v1).setCell ⟨b, 2, none⟩ v2).setCell ⟨b, 3, none⟩ v3).setCell ⟨b, 4, none⟩ v4).setCell ⟨b, 5, none⟩ v5) :=
  (((((h.setCell (by simpa using hb) _).setCell (by simpa using hb) _).setCell (by simpa using hb) _).setCell (by simpa using hb) _).setCell (by simpa using hb) _).setCell (by simpa using hb) _
theorem own_set6 {base n : Nat} {et t : TypeId} {size : Nat} {v : Value} {xs : List Value} {cs : Array Value} {w : World} {b : Nat} (hO : w.ownsRow base et size v n xs) (hy : Blk w b t cs) (hne : et ≠ t) (v0 v1 v2 v3 v4 v5 : Value) :
    ((((((w.setCell ⟨b, 0, none⟩ v0).setCell ⟨b, 1, none⟩ v1).setCell ⟨b, 2, none⟩ v2).setCell ⟨b, 3, none⟩ v3).setCell ⟨b, 4, none⟩ v4).setCell ⟨b, 5, none⟩ v5).ownsRow base et size v n xs := by
  have hn : ∀ g, v.ownBlock = some g → ¬ g = b := own_blk_not hO hy hne
  exact (Chg.of_mv (F := fun x => x = b) ((((((Mv.set1 w b 0 v0).trans_ (Mv.set1 _ b 1 v1)).trans_ (Mv.set1 _ b 2 v2)).trans_ (Mv.set1 _ b 3 v3)).trans_ (Mv.set1 _ b 4 v4)).trans_ (Mv.set1 _ b 5 v5)) rfl).own hO hn
set_option maxRecDepth 100000 in
set_option maxHeartbeats 2000000 in
theorem ans1_any (A : Option Addr) (c : Nat) (L : List (Int × Int)) (key val : Int) (w : World) (hq : PairsAt w w.heap.size A L) (hl : L.length ≤ 1000000) (ha : AscP L) :
    Calls Tryz.prog 43 #[.slice A L.length c, .agg #[.int .i64 1, .int .i64 key, .int .i64 val]] w (AnsLPost L ⟨1, key, val⟩ w) := by
  have hx := Blk.new w 48 #[.int .i64 1, .int .i64 key, .int .i64 val]
  have hy := Blk.new (w.alloc (.cells #[.int .i64 1, .int .i64 key, .int .i64 val] 48)) 54 #[.int .i64 0, .bool false, .int .i64 0, .int .i64 0, .int .i64 0, .slice none 0 0]
  have hb1 := (Below.refl w.heap.size w).alloc (Nat.le_refl _) (.cells #[.int .i64 1, .int .i64 key, .int .i64 val] 48)
  have hz1 : (w.alloc (.cells #[.int .i64 1, .int .i64 key, .int .i64 val] 48)).heap.size = w.heap.size + 1 := by simp
  have hb2 := hb1.alloc hb1.size (.cells #[.int .i64 0, .bool false, .int .i64 0, .int .i64 0, .int .i64 0, .slice none 0 0] 54)
  have hbx := (Below.refl (w.alloc (.cells #[.int .i64 1, .int .i64 key, .int .i64 val] 48)).heap.size (w.alloc (.cells #[.int .i64 1, .int .i64 key, .int .i64 val] 48))).alloc (Nat.le_refl _) (.cells #[.int .i64 0, .bool false, .int .i64 0, .int .i64 0, .int .i64 0, .slice none 0 0] 54)
  have hx2 := hx.below hbx hx.lt
  rw [hz1] at hy
  have HQ := Lib.hid (show PairsAt _ ((w.alloc (.cells #[.int .i64 1, .int .i64 key, .int .i64 val] 48)).alloc (.cells #[.int .i64 0, .bool false, .int .i64 0, .int .i64 0, .int .i64 0, .slice none 0 0] 54)).heap.size A L from (hq.below hb2).more hb2.size)
  have HX := Lib.hid hx2
  have HY := Lib.hid hy
  have HB := Lib.hid hb2
  have HA := Lib.hid ha
  clear hq hx hy hb1 hz1 hb2 hx2 ha hbx
  go_enter Tryz.func43, Tryz.ntmps43
  go_wp2_with (fail)
  generalize (w.alloc (.cells #[.int .i64 1, .int .i64 key, .int .i64 val] 48)).alloc (.cells #[.int .i64 0, .bool false, .int .i64 0, .int .i64 0, .int .i64 0, .slice none 0 0] 54) = w0 at HX HY HQ HB ⊢
  with_reducible refine (mapOk_any A c _ L w0 rfl HQ.out hl HA.out).mono ?_
  rintro e w1 ⟨rfl, hd⟩
  have hx1 := HX.out.below (drawn_bl hd _) HX.out.lt
  have o0 : w1.cell? ⟨w.heap.size, 0, none⟩ = some (.int .i64 1) := hx1.cell 0
  have o1 : w1.cell? ⟨w.heap.size, 1, none⟩ = some (.int .i64 key) := hx1.cell 1
  have o2 : w1.cell? ⟨w.heap.size, 2, none⟩ = some (.int .i64 val) := hx1.cell 2
  have HY1 := Lib.hid (HY.out.below (drawn_bl hd _) HY.out.lt)
  have HQ1 := Lib.hid (show PairsAt w1 w1.heap.size A L from (Reads.below HQ.out (drawn_bl hd _)).more (drawn_bl hd w0.heap.size).size)
  have HB1 := Lib.hid (HB.out.trans ((drawn_bl hd _).mono HB.out.size))
  clear hx1 hd HX HQ HB HY HA
  go_wp2_with (fail)
  with_reducible refine (getL_any A c L key w1 HQ1.out hl).mono ?_
  rintro e w2 ⟨rfl, hd⟩
  have hb : Below w1.heap.size w1 w2 := drawn_bl hd _
  clear hd
  have o1 : w2.cell? ⟨w.heap.size, 1, none⟩ = some (.int .i64 key) := (hb.cell (p := ⟨w.heap.size, 1, none⟩) (by show w.heap.size < _; have := HY1.out.lt; omega)).trans o1
  have HY2 := Lib.hid (HY1.out.below hb HY1.out.lt)
  have HB2 := Lib.hid (HB1.out.trans (hb.mono HB1.out.size))
  clear hb HY1 HB1 HQ1
  generalize hG1 : (getI L key).1 = G1
  generalize hG2 : (getI L key).2 = G2
  have HG1 := Lib.hid hG1
  have HG2 := Lib.hid hG2
  clear hG1 hG2
  go_wp2_with (fail)
  with_reducible refine (foundL_any key G1 G2 w2).mono ?_
  rintro e w3 ⟨rfl, hb⟩
  have HY3 := Lib.hid (HY2.out.below hb HY2.out.lt)
  have HB3 := Lib.hid (HB2.out.trans (hb.mono HB2.out.size))
  clear hb HY2 HB2
  generalize hF : foundI (key, G1) G2 = F
  have HF := Lib.hid hF
  clear hF
  unfold resV
  have hy := HY3.out
  have y0 : w3.cell? ⟨w.heap.size + 1, 0, none⟩ = some (.int .i64 0) := hy.cell 0
  have y1 : w3.cell? ⟨w.heap.size + 1, 1, none⟩ = some (.bool false) := hy.cell 1
  have y2 : w3.cell? ⟨w.heap.size + 1, 2, none⟩ = some (.int .i64 0) := hy.cell 2
  have y3 : w3.cell? ⟨w.heap.size + 1, 3, none⟩ = some (.int .i64 0) := hy.cell 3
  have y4 : w3.cell? ⟨w.heap.size + 1, 4, none⟩ = some (.int .i64 0) := hy.cell 4
  have y5 : w3.cell? ⟨w.heap.size + 1, 5, none⟩ = some (.slice none 0 0) := hy.cell 5
  have g0 := hy.frozen 0
  have g1 := hy.frozen 1
  have g2 := hy.frozen 2
  have g3 := hy.frozen 3
  have g4 := hy.frozen 4
  have g5 := hy.frozen 5
  clear hy
  go_wp2_with (fail)
  refine bodyPost_ret (v := resV F (.slice none 0 0)) (by simp [results, Tryz.results43, go_sem, resV, y0, y1, y2, y3, y4, y5, g0, g1, g2, g3, g4, g5]) rfl ?_
  have hA : ansI L ⟨1, key, val⟩ = F := by rw [← HF.out, ← HG2.out, ← HG1.out]; rfl
  rw [← hA]
  exact AnsLPost.none (by rw [hA, ← HF.out, foundI_list]) (below_set6 HB3.out (by omega) _ _ _ _ _ _)
set_option maxRecDepth 100000 in
set_option maxHeartbeats 2000000 in
theorem ans2_any (A : Option Addr) (c : Nat) (L : List (Int × Int)) (key val : Int) (w : World) (hq : PairsAt w w.heap.size A L) (hl : L.length ≤ 1000000) (ha : AscP L) :
    Calls Tryz.prog 43 #[.slice A L.length c, .agg #[.int .i64 2, .int .i64 key, .int .i64 val]] w (AnsLPost L ⟨2, key, val⟩ w) := by
  have hx := Blk.new w 48 #[.int .i64 2, .int .i64 key, .int .i64 val]
  have hy := Blk.new (w.alloc (.cells #[.int .i64 2, .int .i64 key, .int .i64 val] 48)) 54 #[.int .i64 0, .bool false, .int .i64 0, .int .i64 0, .int .i64 0, .slice none 0 0]
  have hb1 := (Below.refl w.heap.size w).alloc (Nat.le_refl _) (.cells #[.int .i64 2, .int .i64 key, .int .i64 val] 48)
  have hz1 : (w.alloc (.cells #[.int .i64 2, .int .i64 key, .int .i64 val] 48)).heap.size = w.heap.size + 1 := by simp
  have hb2 := hb1.alloc hb1.size (.cells #[.int .i64 0, .bool false, .int .i64 0, .int .i64 0, .int .i64 0, .slice none 0 0] 54)
  have hbx := (Below.refl (w.alloc (.cells #[.int .i64 2, .int .i64 key, .int .i64 val] 48)).heap.size (w.alloc (.cells #[.int .i64 2, .int .i64 key, .int .i64 val] 48))).alloc (Nat.le_refl _) (.cells #[.int .i64 0, .bool false, .int .i64 0, .int .i64 0, .int .i64 0, .slice none 0 0] 54)
  have hx2 := hx.below hbx hx.lt
  rw [hz1] at hy
  have HQ := Lib.hid (show PairsAt _ ((w.alloc (.cells #[.int .i64 2, .int .i64 key, .int .i64 val] 48)).alloc (.cells #[.int .i64 0, .bool false, .int .i64 0, .int .i64 0, .int .i64 0, .slice none 0 0] 54)).heap.size A L from (hq.below hb2).more hb2.size)
  have HX := Lib.hid hx2
  have HY := Lib.hid hy
  have HB := Lib.hid hb2
  have HA := Lib.hid ha
  clear hq hx hy hb1 hz1 hb2 hx2 ha hbx
  go_enter Tryz.func43, Tryz.ntmps43
  go_wp2_with (fail)
  generalize (w.alloc (.cells #[.int .i64 2, .int .i64 key, .int .i64 val] 48)).alloc (.cells #[.int .i64 0, .bool false, .int .i64 0, .int .i64 0, .int .i64 0, .slice none 0 0] 54) = w0 at HX HY HQ HB ⊢
  with_reducible refine (mapOk_any A c _ L w0 rfl HQ.out hl HA.out).mono ?_
  rintro e w1 ⟨rfl, hd⟩
  have hx1 := HX.out.below (drawn_bl hd _) HX.out.lt
  have o0 : w1.cell? ⟨w.heap.size, 0, none⟩ = some (.int .i64 2) := hx1.cell 0
  have o1 : w1.cell? ⟨w.heap.size, 1, none⟩ = some (.int .i64 key) := hx1.cell 1
  have o2 : w1.cell? ⟨w.heap.size, 2, none⟩ = some (.int .i64 val) := hx1.cell 2
  have HY1 := Lib.hid (HY.out.below (drawn_bl hd _) HY.out.lt)
  have HQ1 := Lib.hid (show PairsAt w1 w1.heap.size A L from (Reads.below HQ.out (drawn_bl hd _)).more (drawn_bl hd w0.heap.size).size)
  have HB1 := Lib.hid (HB.out.trans ((drawn_bl hd _).mono HB.out.size))
  clear hx1 hd HX HQ HB HY HA
  go_wp2_with (fail)
  with_reducible refine (getL_any A c L key w1 HQ1.out hl).mono ?_
  rintro e w2 ⟨rfl, hd⟩
  have hb : Below w1.heap.size w1 w2 := drawn_bl hd _
  clear hd
  have o1 : w2.cell? ⟨w.heap.size, 1, none⟩ = some (.int .i64 key) := (hb.cell (p := ⟨w.heap.size, 1, none⟩) (by show w.heap.size < _; have := HY1.out.lt; omega)).trans o1
  have HY2 := Lib.hid (HY1.out.below hb HY1.out.lt)
  have HB2 := Lib.hid (HB1.out.trans (hb.mono HB1.out.size))
  clear hb HY1 HB1 HQ1
  generalize hG1 : (getI L key).1 = G1
  generalize hG2 : (getI L key).2 = G2
  have HG1 := Lib.hid hG1
  have HG2 := Lib.hid hG2
  clear hG1 hG2
  go_wp2_with (fail)
  with_reducible refine (foundL_any key G1 G2 w2).mono ?_
  rintro e w3 ⟨rfl, hb⟩
  have HY3 := Lib.hid (HY2.out.below hb HY2.out.lt)
  have HB3 := Lib.hid (HB2.out.trans (hb.mono HB2.out.size))
  clear hb HY2 HB2
  generalize hF : foundI (key, G1) G2 = F
  have HF := Lib.hid hF
  clear hF
  unfold resV
  have hy := HY3.out
  have y0 : w3.cell? ⟨w.heap.size + 1, 0, none⟩ = some (.int .i64 0) := hy.cell 0
  have y1 : w3.cell? ⟨w.heap.size + 1, 1, none⟩ = some (.bool false) := hy.cell 1
  have y2 : w3.cell? ⟨w.heap.size + 1, 2, none⟩ = some (.int .i64 0) := hy.cell 2
  have y3 : w3.cell? ⟨w.heap.size + 1, 3, none⟩ = some (.int .i64 0) := hy.cell 3
  have y4 : w3.cell? ⟨w.heap.size + 1, 4, none⟩ = some (.int .i64 0) := hy.cell 4
  have y5 : w3.cell? ⟨w.heap.size + 1, 5, none⟩ = some (.slice none 0 0) := hy.cell 5
  have g0 := hy.frozen 0
  have g1 := hy.frozen 1
  have g2 := hy.frozen 2
  have g3 := hy.frozen 3
  have g4 := hy.frozen 4
  have g5 := hy.frozen 5
  clear hy
  go_wp2_with (fail)
  refine bodyPost_ret (v := resV F (.slice none 0 0)) (by simp [results, Tryz.results43, go_sem, resV, y0, y1, y2, y3, y4, y5, g0, g1, g2, g3, g4, g5]) rfl ?_
  have hA : ansI L ⟨2, key, val⟩ = F := by rw [← HF.out, ← HG2.out, ← HG1.out]; rfl
  rw [← hA]
  exact AnsLPost.none (by rw [hA, ← HF.out, foundI_list]) (below_set6 HB3.out (by omega) _ _ _ _ _ _)
set_option maxRecDepth 100000 in
set_option maxHeartbeats 2000000 in
theorem ans3_any (A : Option Addr) (c : Nat) (L : List (Int × Int)) (key val : Int) (w : World) (hq : PairsAt w w.heap.size A L) (hl : L.length ≤ 1000000) (ha : AscP L) :
    Calls Tryz.prog 43 #[.slice A L.length c, .agg #[.int .i64 3, .int .i64 key, .int .i64 val]] w (AnsLPost L ⟨3, key, val⟩ w) := by
  have hx := Blk.new w 48 #[.int .i64 3, .int .i64 key, .int .i64 val]
  have hy := Blk.new (w.alloc (.cells #[.int .i64 3, .int .i64 key, .int .i64 val] 48)) 54 #[.int .i64 0, .bool false, .int .i64 0, .int .i64 0, .int .i64 0, .slice none 0 0]
  have hb1 := (Below.refl w.heap.size w).alloc (Nat.le_refl _) (.cells #[.int .i64 3, .int .i64 key, .int .i64 val] 48)
  have hz1 : (w.alloc (.cells #[.int .i64 3, .int .i64 key, .int .i64 val] 48)).heap.size = w.heap.size + 1 := by simp
  have hb2 := hb1.alloc hb1.size (.cells #[.int .i64 0, .bool false, .int .i64 0, .int .i64 0, .int .i64 0, .slice none 0 0] 54)
  have hbx := (Below.refl (w.alloc (.cells #[.int .i64 3, .int .i64 key, .int .i64 val] 48)).heap.size (w.alloc (.cells #[.int .i64 3, .int .i64 key, .int .i64 val] 48))).alloc (Nat.le_refl _) (.cells #[.int .i64 0, .bool false, .int .i64 0, .int .i64 0, .int .i64 0, .slice none 0 0] 54)
  have hx2 := hx.below hbx hx.lt
  rw [hz1] at hy
  have HQ := Lib.hid (show PairsAt _ ((w.alloc (.cells #[.int .i64 3, .int .i64 key, .int .i64 val] 48)).alloc (.cells #[.int .i64 0, .bool false, .int .i64 0, .int .i64 0, .int .i64 0, .slice none 0 0] 54)).heap.size A L from (hq.below hb2).more hb2.size)
  have HX := Lib.hid hx2
  have HY := Lib.hid hy
  have HB := Lib.hid hb2
  have HA := Lib.hid ha
  clear hq hx hy hb1 hz1 hb2 hx2 ha hbx
  go_enter Tryz.func43, Tryz.ntmps43
  go_wp2_with (fail)
  generalize (w.alloc (.cells #[.int .i64 3, .int .i64 key, .int .i64 val] 48)).alloc (.cells #[.int .i64 0, .bool false, .int .i64 0, .int .i64 0, .int .i64 0, .slice none 0 0] 54) = w0 at HX HY HQ HB ⊢
  with_reducible refine (mapOk_any A c _ L w0 rfl HQ.out hl HA.out).mono ?_
  rintro e w1 ⟨rfl, hd⟩
  have hx1 := HX.out.below (drawn_bl hd _) HX.out.lt
  have o0 : w1.cell? ⟨w.heap.size, 0, none⟩ = some (.int .i64 3) := hx1.cell 0
  have o1 : w1.cell? ⟨w.heap.size, 1, none⟩ = some (.int .i64 key) := hx1.cell 1
  have o2 : w1.cell? ⟨w.heap.size, 2, none⟩ = some (.int .i64 val) := hx1.cell 2
  have HY1 := Lib.hid (HY.out.below (drawn_bl hd _) HY.out.lt)
  have HQ1 := Lib.hid (show PairsAt w1 w1.heap.size A L from (Reads.below HQ.out (drawn_bl hd _)).more (drawn_bl hd w0.heap.size).size)
  have HB1 := Lib.hid (HB.out.trans ((drawn_bl hd _).mono HB.out.size))
  clear hx1 hd HX HQ HB HY HA
  go_wp2_with (fail)
  with_reducible refine (getL_any A c L key w1 HQ1.out hl).mono ?_
  rintro e w2 ⟨rfl, hd⟩
  have hb : Below w1.heap.size w1 w2 := drawn_bl hd _
  clear hd
  have o1 : w2.cell? ⟨w.heap.size, 1, none⟩ = some (.int .i64 key) := (hb.cell (p := ⟨w.heap.size, 1, none⟩) (by show w.heap.size < _; have := HY1.out.lt; omega)).trans o1
  have HY2 := Lib.hid (HY1.out.below hb HY1.out.lt)
  have HB2 := Lib.hid (HB1.out.trans (hb.mono HB1.out.size))
  clear hb HY1 HB1 HQ1
  generalize hG1 : (getI L key).1 = G1
  generalize hG2 : (getI L key).2 = G2
  have HG1 := Lib.hid hG1
  have HG2 := Lib.hid hG2
  clear hG1 hG2
  go_wp2_with (fail)
  with_reducible refine (foundL_any key G1 G2 w2).mono ?_
  rintro e w3 ⟨rfl, hb⟩
  have HY3 := Lib.hid (HY2.out.below hb HY2.out.lt)
  have HB3 := Lib.hid (HB2.out.trans (hb.mono HB2.out.size))
  clear hb HY2 HB2
  generalize hF : foundI (key, G1) G2 = F
  have HF := Lib.hid hF
  clear hF
  unfold resV
  have hy := HY3.out
  have y0 : w3.cell? ⟨w.heap.size + 1, 0, none⟩ = some (.int .i64 0) := hy.cell 0
  have y1 : w3.cell? ⟨w.heap.size + 1, 1, none⟩ = some (.bool false) := hy.cell 1
  have y2 : w3.cell? ⟨w.heap.size + 1, 2, none⟩ = some (.int .i64 0) := hy.cell 2
  have y3 : w3.cell? ⟨w.heap.size + 1, 3, none⟩ = some (.int .i64 0) := hy.cell 3
  have y4 : w3.cell? ⟨w.heap.size + 1, 4, none⟩ = some (.int .i64 0) := hy.cell 4
  have y5 : w3.cell? ⟨w.heap.size + 1, 5, none⟩ = some (.slice none 0 0) := hy.cell 5
  have g0 := hy.frozen 0
  have g1 := hy.frozen 1
  have g2 := hy.frozen 2
  have g3 := hy.frozen 3
  have g4 := hy.frozen 4
  have g5 := hy.frozen 5
  clear hy
  go_wp2_with (fail)
  refine bodyPost_ret (v := resV F (.slice none 0 0)) (by simp [results, Tryz.results43, go_sem, resV, y0, y1, y2, y3, y4, y5, g0, g1, g2, g3, g4, g5]) rfl ?_
  have hA : ansI L ⟨3, key, val⟩ = F := by rw [← HF.out, ← HG2.out, ← HG1.out]; rfl
  rw [← hA]
  exact AnsLPost.none (by rw [hA, ← HF.out, foundI_list]) (below_set6 HB3.out (by omega) _ _ _ _ _ _)
set_option maxRecDepth 100000 in
set_option maxHeartbeats 2000000 in
theorem ans4_any (A : Option Addr) (c : Nat) (L : List (Int × Int)) (key val : Int) (w : World) (hq : PairsAt w w.heap.size A L) (hl : L.length ≤ 1000000) (ha : AscP L) :
    Calls Tryz.prog 43 #[.slice A L.length c, .agg #[.int .i64 4, .int .i64 key, .int .i64 val]] w (AnsLPost L ⟨4, key, val⟩ w) := by
  have hx := Blk.new w 48 #[.int .i64 4, .int .i64 key, .int .i64 val]
  have hy := Blk.new (w.alloc (.cells #[.int .i64 4, .int .i64 key, .int .i64 val] 48)) 54 #[.int .i64 0, .bool false, .int .i64 0, .int .i64 0, .int .i64 0, .slice none 0 0]
  have hb1 := (Below.refl w.heap.size w).alloc (Nat.le_refl _) (.cells #[.int .i64 4, .int .i64 key, .int .i64 val] 48)
  have hz1 : (w.alloc (.cells #[.int .i64 4, .int .i64 key, .int .i64 val] 48)).heap.size = w.heap.size + 1 := by simp
  have hb2 := hb1.alloc hb1.size (.cells #[.int .i64 0, .bool false, .int .i64 0, .int .i64 0, .int .i64 0, .slice none 0 0] 54)
  have hbx := (Below.refl (w.alloc (.cells #[.int .i64 4, .int .i64 key, .int .i64 val] 48)).heap.size (w.alloc (.cells #[.int .i64 4, .int .i64 key, .int .i64 val] 48))).alloc (Nat.le_refl _) (.cells #[.int .i64 0, .bool false, .int .i64 0, .int .i64 0, .int .i64 0, .slice none 0 0] 54)
  have hx2 := hx.below hbx hx.lt
  rw [hz1] at hy
  have HQ := Lib.hid (show PairsAt _ ((w.alloc (.cells #[.int .i64 4, .int .i64 key, .int .i64 val] 48)).alloc (.cells #[.int .i64 0, .bool false, .int .i64 0, .int .i64 0, .int .i64 0, .slice none 0 0] 54)).heap.size A L from (hq.below hb2).more hb2.size)
  have HX := Lib.hid hx2
  have HY := Lib.hid hy
  have HB := Lib.hid hb2
  have HA := Lib.hid ha
  clear hq hx hy hb1 hz1 hb2 hx2 ha hbx
  go_enter Tryz.func43, Tryz.ntmps43
  go_wp2_with (fail)
  generalize (w.alloc (.cells #[.int .i64 4, .int .i64 key, .int .i64 val] 48)).alloc (.cells #[.int .i64 0, .bool false, .int .i64 0, .int .i64 0, .int .i64 0, .slice none 0 0] 54) = w0 at HX HY HQ HB ⊢
  with_reducible refine (mapOk_any A c _ L w0 rfl HQ.out hl HA.out).mono ?_
  rintro e w1 ⟨rfl, hd⟩
  have hx1 := HX.out.below (drawn_bl hd _) HX.out.lt
  have o0 : w1.cell? ⟨w.heap.size, 0, none⟩ = some (.int .i64 4) := hx1.cell 0
  have o1 : w1.cell? ⟨w.heap.size, 1, none⟩ = some (.int .i64 key) := hx1.cell 1
  have o2 : w1.cell? ⟨w.heap.size, 2, none⟩ = some (.int .i64 val) := hx1.cell 2
  have HY1 := Lib.hid (HY.out.below (drawn_bl hd _) HY.out.lt)
  have HQ1 := Lib.hid (show PairsAt w1 w1.heap.size A L from (Reads.below HQ.out (drawn_bl hd _)).more (drawn_bl hd w0.heap.size).size)
  have HB1 := Lib.hid (HB.out.trans ((drawn_bl hd _).mono HB.out.size))
  clear hx1 hd HX HQ HB HY HA
  go_wp2_with (fail)
  with_reducible refine (getL_any A c L key w1 HQ1.out hl).mono ?_
  rintro e w2 ⟨rfl, hd⟩
  have hb : Below w1.heap.size w1 w2 := drawn_bl hd _
  clear hd
  have o1 : w2.cell? ⟨w.heap.size, 1, none⟩ = some (.int .i64 key) := (hb.cell (p := ⟨w.heap.size, 1, none⟩) (by show w.heap.size < _; have := HY1.out.lt; omega)).trans o1
  have HY2 := Lib.hid (HY1.out.below hb HY1.out.lt)
  have HB2 := Lib.hid (HB1.out.trans (hb.mono HB1.out.size))
  clear hb HY1 HB1 HQ1
  generalize hG1 : (getI L key).1 = G1
  generalize hG2 : (getI L key).2 = G2
  have HG1 := Lib.hid hG1
  have HG2 := Lib.hid hG2
  clear hG1 hG2
  go_wp2_with (fail)
  with_reducible refine (foundL_any key G1 G2 w2).mono ?_
  rintro e w3 ⟨rfl, hb⟩
  have HY3 := Lib.hid (HY2.out.below hb HY2.out.lt)
  have HB3 := Lib.hid (HB2.out.trans (hb.mono HB2.out.size))
  clear hb HY2 HB2
  generalize hF : foundI (key, G1) G2 = F
  have HF := Lib.hid hF
  clear hF
  unfold resV
  have hy := HY3.out
  have y0 : w3.cell? ⟨w.heap.size + 1, 0, none⟩ = some (.int .i64 0) := hy.cell 0
  have y1 : w3.cell? ⟨w.heap.size + 1, 1, none⟩ = some (.bool false) := hy.cell 1
  have y2 : w3.cell? ⟨w.heap.size + 1, 2, none⟩ = some (.int .i64 0) := hy.cell 2
  have y3 : w3.cell? ⟨w.heap.size + 1, 3, none⟩ = some (.int .i64 0) := hy.cell 3
  have y4 : w3.cell? ⟨w.heap.size + 1, 4, none⟩ = some (.int .i64 0) := hy.cell 4
  have y5 : w3.cell? ⟨w.heap.size + 1, 5, none⟩ = some (.slice none 0 0) := hy.cell 5
  have g0 := hy.frozen 0
  have g1 := hy.frozen 1
  have g2 := hy.frozen 2
  have g3 := hy.frozen 3
  have g4 := hy.frozen 4
  have g5 := hy.frozen 5
  clear hy
  go_wp2_with (fail)
  refine bodyPost_ret (v := resV F (.slice none 0 0)) (by simp [results, Tryz.results43, go_sem, resV, y0, y1, y2, y3, y4, y5, g0, g1, g2, g3, g4, g5]) rfl ?_
  have hA : ansI L ⟨4, key, val⟩ = F := by rw [← HF.out, ← HG2.out, ← HG1.out]; rfl
  rw [← hA]
  exact AnsLPost.none (by rw [hA, ← HF.out, foundI_list]) (below_set6 HB3.out (by omega) _ _ _ _ _ _)
set_option maxRecDepth 100000 in
set_option maxHeartbeats 2000000 in
theorem ans5_any (A : Option Addr) (c : Nat) (L : List (Int × Int)) (key val : Int) (w : World) (hq : PairsAt w w.heap.size A L) (hl : L.length ≤ 1000000) (ha : AscP L) :
    Calls Tryz.prog 43 #[.slice A L.length c, .agg #[.int .i64 5, .int .i64 key, .int .i64 val]] w (AnsLPost L ⟨5, key, val⟩ w) := by
  have hx := Blk.new w 48 #[.int .i64 5, .int .i64 key, .int .i64 val]
  have hy := Blk.new (w.alloc (.cells #[.int .i64 5, .int .i64 key, .int .i64 val] 48)) 54 #[.int .i64 0, .bool false, .int .i64 0, .int .i64 0, .int .i64 0, .slice none 0 0]
  have hb1 := (Below.refl w.heap.size w).alloc (Nat.le_refl _) (.cells #[.int .i64 5, .int .i64 key, .int .i64 val] 48)
  have hz1 : (w.alloc (.cells #[.int .i64 5, .int .i64 key, .int .i64 val] 48)).heap.size = w.heap.size + 1 := by simp
  have hb2 := hb1.alloc hb1.size (.cells #[.int .i64 0, .bool false, .int .i64 0, .int .i64 0, .int .i64 0, .slice none 0 0] 54)
  have hbx := (Below.refl (w.alloc (.cells #[.int .i64 5, .int .i64 key, .int .i64 val] 48)).heap.size (w.alloc (.cells #[.int .i64 5, .int .i64 key, .int .i64 val] 48))).alloc (Nat.le_refl _) (.cells #[.int .i64 0, .bool false, .int .i64 0, .int .i64 0, .int .i64 0, .slice none 0 0] 54)
  have hx2 := hx.below hbx hx.lt
  rw [hz1] at hy
  have HQ := Lib.hid (show PairsAt _ ((w.alloc (.cells #[.int .i64 5, .int .i64 key, .int .i64 val] 48)).alloc (.cells #[.int .i64 0, .bool false, .int .i64 0, .int .i64 0, .int .i64 0, .slice none 0 0] 54)).heap.size A L from (hq.below hb2).more hb2.size)
  have HX := Lib.hid hx2
  have HY := Lib.hid hy
  have HB := Lib.hid hb2
  have HA := Lib.hid ha
  clear hq hx hy hb1 hz1 hb2 hx2 ha hbx
  go_enter Tryz.func43, Tryz.ntmps43
  go_wp2_with (fail)
  generalize (w.alloc (.cells #[.int .i64 5, .int .i64 key, .int .i64 val] 48)).alloc (.cells #[.int .i64 0, .bool false, .int .i64 0, .int .i64 0, .int .i64 0, .slice none 0 0] 54) = w0 at HX HY HQ HB ⊢
  with_reducible refine (mapOk_any A c _ L w0 rfl HQ.out hl HA.out).mono ?_
  rintro e w1 ⟨rfl, hd⟩
  have hx1 := HX.out.below (drawn_bl hd _) HX.out.lt
  have o0 : w1.cell? ⟨w.heap.size, 0, none⟩ = some (.int .i64 5) := hx1.cell 0
  have o1 : w1.cell? ⟨w.heap.size, 1, none⟩ = some (.int .i64 key) := hx1.cell 1
  have o2 : w1.cell? ⟨w.heap.size, 2, none⟩ = some (.int .i64 val) := hx1.cell 2
  have HY1 := Lib.hid (HY.out.below (drawn_bl hd _) HY.out.lt)
  have HQ1 := Lib.hid (show PairsAt w1 w1.heap.size A L from (Reads.below HQ.out (drawn_bl hd _)).more (drawn_bl hd w0.heap.size).size)
  have HB1 := Lib.hid (HB.out.trans ((drawn_bl hd _).mono HB.out.size))
  clear hx1 hd HX HQ HB HY HA
  go_wp2_with (fail)
  with_reducible refine (floorL_any A c L key w1 HQ1.out hl).mono ?_
  rintro e w2 ⟨rfl, hb⟩
  have HY2 := Lib.hid (HY1.out.below hb HY1.out.lt)
  have HB2 := Lib.hid (HB1.out.trans (hb.mono HB1.out.size))
  clear hb HY1 HB1 HQ1
  generalize hG1 : (floorI L key).1 = G1
  generalize hG2 : (floorI L key).2 = G2
  have HG1 := Lib.hid hG1
  have HG2 := Lib.hid hG2
  clear hG1 hG2
  go_wp2_with (fail)
  with_reducible refine (foundL_any G1.1 G1.2 G2 w2).mono ?_
  rintro e w3 ⟨rfl, hb⟩
  have HY3 := Lib.hid (HY2.out.below hb HY2.out.lt)
  have HB3 := Lib.hid (HB2.out.trans (hb.mono HB2.out.size))
  clear hb HY2 HB2
  generalize hF : foundI (G1.1, G1.2) G2 = F
  have HF := Lib.hid hF
  clear hF
  unfold resV
  have hy := HY3.out
  have y0 : w3.cell? ⟨w.heap.size + 1, 0, none⟩ = some (.int .i64 0) := hy.cell 0
  have y1 : w3.cell? ⟨w.heap.size + 1, 1, none⟩ = some (.bool false) := hy.cell 1
  have y2 : w3.cell? ⟨w.heap.size + 1, 2, none⟩ = some (.int .i64 0) := hy.cell 2
  have y3 : w3.cell? ⟨w.heap.size + 1, 3, none⟩ = some (.int .i64 0) := hy.cell 3
  have y4 : w3.cell? ⟨w.heap.size + 1, 4, none⟩ = some (.int .i64 0) := hy.cell 4
  have y5 : w3.cell? ⟨w.heap.size + 1, 5, none⟩ = some (.slice none 0 0) := hy.cell 5
  have g0 := hy.frozen 0
  have g1 := hy.frozen 1
  have g2 := hy.frozen 2
  have g3 := hy.frozen 3
  have g4 := hy.frozen 4
  have g5 := hy.frozen 5
  clear hy
  go_wp2_with (fail)
  refine bodyPost_ret (v := resV F (.slice none 0 0)) (by simp [results, Tryz.results43, go_sem, resV, y0, y1, y2, y3, y4, y5, g0, g1, g2, g3, g4, g5]) rfl ?_
  have hA : ansI L ⟨5, key, val⟩ = F := by rw [← HF.out, ← HG2.out, ← HG1.out]; rfl
  rw [← hA]
  exact AnsLPost.none (by rw [hA, ← HF.out, foundI_list]) (below_set6 HB3.out (by omega) _ _ _ _ _ _)
set_option maxRecDepth 100000 in
set_option maxHeartbeats 2000000 in
theorem ans6_any (A : Option Addr) (c : Nat) (L : List (Int × Int)) (key val : Int) (w : World) (hq : PairsAt w w.heap.size A L) (hl : L.length ≤ 1000000) (ha : AscP L) :
    Calls Tryz.prog 43 #[.slice A L.length c, .agg #[.int .i64 6, .int .i64 key, .int .i64 val]] w (AnsLPost L ⟨6, key, val⟩ w) := by
  have hx := Blk.new w 48 #[.int .i64 6, .int .i64 key, .int .i64 val]
  have hy := Blk.new (w.alloc (.cells #[.int .i64 6, .int .i64 key, .int .i64 val] 48)) 54 #[.int .i64 0, .bool false, .int .i64 0, .int .i64 0, .int .i64 0, .slice none 0 0]
  have hb1 := (Below.refl w.heap.size w).alloc (Nat.le_refl _) (.cells #[.int .i64 6, .int .i64 key, .int .i64 val] 48)
  have hz1 : (w.alloc (.cells #[.int .i64 6, .int .i64 key, .int .i64 val] 48)).heap.size = w.heap.size + 1 := by simp
  have hb2 := hb1.alloc hb1.size (.cells #[.int .i64 0, .bool false, .int .i64 0, .int .i64 0, .int .i64 0, .slice none 0 0] 54)
  have hbx := (Below.refl (w.alloc (.cells #[.int .i64 6, .int .i64 key, .int .i64 val] 48)).heap.size (w.alloc (.cells #[.int .i64 6, .int .i64 key, .int .i64 val] 48))).alloc (Nat.le_refl _) (.cells #[.int .i64 0, .bool false, .int .i64 0, .int .i64 0, .int .i64 0, .slice none 0 0] 54)
  have hx2 := hx.below hbx hx.lt
  rw [hz1] at hy
  have HQ := Lib.hid (show PairsAt _ ((w.alloc (.cells #[.int .i64 6, .int .i64 key, .int .i64 val] 48)).alloc (.cells #[.int .i64 0, .bool false, .int .i64 0, .int .i64 0, .int .i64 0, .slice none 0 0] 54)).heap.size A L from (hq.below hb2).more hb2.size)
  have HX := Lib.hid hx2
  have HY := Lib.hid hy
  have HB := Lib.hid hb2
  have HA := Lib.hid ha
  clear hq hx hy hb1 hz1 hb2 hx2 ha hbx
  go_enter Tryz.func43, Tryz.ntmps43
  go_wp2_with (fail)
  generalize (w.alloc (.cells #[.int .i64 6, .int .i64 key, .int .i64 val] 48)).alloc (.cells #[.int .i64 0, .bool false, .int .i64 0, .int .i64 0, .int .i64 0, .slice none 0 0] 54) = w0 at HX HY HQ HB ⊢
  with_reducible refine (mapOk_any A c _ L w0 rfl HQ.out hl HA.out).mono ?_
  rintro e w1 ⟨rfl, hd⟩
  have hx1 := HX.out.below (drawn_bl hd _) HX.out.lt
  have o0 : w1.cell? ⟨w.heap.size, 0, none⟩ = some (.int .i64 6) := hx1.cell 0
  have o1 : w1.cell? ⟨w.heap.size, 1, none⟩ = some (.int .i64 key) := hx1.cell 1
  have o2 : w1.cell? ⟨w.heap.size, 2, none⟩ = some (.int .i64 val) := hx1.cell 2
  have HY1 := Lib.hid (HY.out.below (drawn_bl hd _) HY.out.lt)
  have HQ1 := Lib.hid (show PairsAt w1 w1.heap.size A L from (Reads.below HQ.out (drawn_bl hd _)).more (drawn_bl hd w0.heap.size).size)
  have HB1 := Lib.hid (HB.out.trans ((drawn_bl hd _).mono HB.out.size))
  clear hx1 hd HX HQ HB HY HA
  go_wp2_with (fail)
  with_reducible refine (ceilL_any A c L key w1 HQ1.out hl).mono ?_
  rintro e w2 ⟨rfl, hb⟩
  have HY2 := Lib.hid (HY1.out.below hb HY1.out.lt)
  have HB2 := Lib.hid (HB1.out.trans (hb.mono HB1.out.size))
  clear hb HY1 HB1 HQ1
  generalize hG1 : (ceilI L key).1 = G1
  generalize hG2 : (ceilI L key).2 = G2
  have HG1 := Lib.hid hG1
  have HG2 := Lib.hid hG2
  clear hG1 hG2
  go_wp2_with (fail)
  with_reducible refine (foundL_any G1.1 G1.2 G2 w2).mono ?_
  rintro e w3 ⟨rfl, hb⟩
  have HY3 := Lib.hid (HY2.out.below hb HY2.out.lt)
  have HB3 := Lib.hid (HB2.out.trans (hb.mono HB2.out.size))
  clear hb HY2 HB2
  generalize hF : foundI (G1.1, G1.2) G2 = F
  have HF := Lib.hid hF
  clear hF
  unfold resV
  have hy := HY3.out
  have y0 : w3.cell? ⟨w.heap.size + 1, 0, none⟩ = some (.int .i64 0) := hy.cell 0
  have y1 : w3.cell? ⟨w.heap.size + 1, 1, none⟩ = some (.bool false) := hy.cell 1
  have y2 : w3.cell? ⟨w.heap.size + 1, 2, none⟩ = some (.int .i64 0) := hy.cell 2
  have y3 : w3.cell? ⟨w.heap.size + 1, 3, none⟩ = some (.int .i64 0) := hy.cell 3
  have y4 : w3.cell? ⟨w.heap.size + 1, 4, none⟩ = some (.int .i64 0) := hy.cell 4
  have y5 : w3.cell? ⟨w.heap.size + 1, 5, none⟩ = some (.slice none 0 0) := hy.cell 5
  have g0 := hy.frozen 0
  have g1 := hy.frozen 1
  have g2 := hy.frozen 2
  have g3 := hy.frozen 3
  have g4 := hy.frozen 4
  have g5 := hy.frozen 5
  clear hy
  go_wp2_with (fail)
  refine bodyPost_ret (v := resV F (.slice none 0 0)) (by simp [results, Tryz.results43, go_sem, resV, y0, y1, y2, y3, y4, y5, g0, g1, g2, g3, g4, g5]) rfl ?_
  have hA : ansI L ⟨6, key, val⟩ = F := by rw [← HF.out, ← HG2.out, ← HG1.out]; rfl
  rw [← hA]
  exact AnsLPost.none (by rw [hA, ← HF.out, foundI_list]) (below_set6 HB3.out (by omega) _ _ _ _ _ _)
set_option maxRecDepth 100000 in
set_option maxHeartbeats 2000000 in
theorem ans7_any (A : Option Addr) (c : Nat) (L : List (Int × Int)) (key val : Int) (w : World) (hq : PairsAt w w.heap.size A L) (hl : L.length ≤ 1000000) (ha : AscP L) :
    Calls Tryz.prog 43 #[.slice A L.length c, .agg #[.int .i64 7, .int .i64 key, .int .i64 val]] w (AnsLPost L ⟨7, key, val⟩ w) := by
  have hx := Blk.new w 48 #[.int .i64 7, .int .i64 key, .int .i64 val]
  have hy := Blk.new (w.alloc (.cells #[.int .i64 7, .int .i64 key, .int .i64 val] 48)) 54 #[.int .i64 0, .bool false, .int .i64 0, .int .i64 0, .int .i64 0, .slice none 0 0]
  have hb1 := (Below.refl w.heap.size w).alloc (Nat.le_refl _) (.cells #[.int .i64 7, .int .i64 key, .int .i64 val] 48)
  have hz1 : (w.alloc (.cells #[.int .i64 7, .int .i64 key, .int .i64 val] 48)).heap.size = w.heap.size + 1 := by simp
  have hb2 := hb1.alloc hb1.size (.cells #[.int .i64 0, .bool false, .int .i64 0, .int .i64 0, .int .i64 0, .slice none 0 0] 54)
  have hbx := (Below.refl (w.alloc (.cells #[.int .i64 7, .int .i64 key, .int .i64 val] 48)).heap.size (w.alloc (.cells #[.int .i64 7, .int .i64 key, .int .i64 val] 48))).alloc (Nat.le_refl _) (.cells #[.int .i64 0, .bool false, .int .i64 0, .int .i64 0, .int .i64 0, .slice none 0 0] 54)
  have hx2 := hx.below hbx hx.lt
  rw [hz1] at hy
  have HQ := Lib.hid (show PairsAt _ ((w.alloc (.cells #[.int .i64 7, .int .i64 key, .int .i64 val] 48)).alloc (.cells #[.int .i64 0, .bool false, .int .i64 0, .int .i64 0, .int .i64 0, .slice none 0 0] 54)).heap.size A L from (hq.below hb2).more hb2.size)
  have HX := Lib.hid hx2
  have HY := Lib.hid hy
  have HB := Lib.hid hb2
  have HA := Lib.hid ha
  clear hq hx hy hb1 hz1 hb2 hx2 ha hbx
  go_enter Tryz.func43, Tryz.ntmps43
  go_wp2_with (fail)
  generalize (w.alloc (.cells #[.int .i64 7, .int .i64 key, .int .i64 val] 48)).alloc (.cells #[.int .i64 0, .bool false, .int .i64 0, .int .i64 0, .int .i64 0, .slice none 0 0] 54) = w0 at HX HY HQ HB ⊢
  with_reducible refine (mapOk_any A c _ L w0 rfl HQ.out hl HA.out).mono ?_
  rintro e w1 ⟨rfl, hd⟩
  have hx1 := HX.out.below (drawn_bl hd _) HX.out.lt
  have o0 : w1.cell? ⟨w.heap.size, 0, none⟩ = some (.int .i64 7) := hx1.cell 0
  have o1 : w1.cell? ⟨w.heap.size, 1, none⟩ = some (.int .i64 key) := hx1.cell 1
  have o2 : w1.cell? ⟨w.heap.size, 2, none⟩ = some (.int .i64 val) := hx1.cell 2
  have HY1 := Lib.hid (HY.out.below (drawn_bl hd _) HY.out.lt)
  have HQ1 := Lib.hid (show PairsAt w1 w1.heap.size A L from (Reads.below HQ.out (drawn_bl hd _)).more (drawn_bl hd w0.heap.size).size)
  have HB1 := Lib.hid (HB.out.trans ((drawn_bl hd _).mono HB.out.size))
  clear hx1 hd HX HQ HB HY HA
  go_wp2_with (fail)
  with_reducible refine (ceilL_any A c L (-9223372036854775808) w1 HQ1.out hl).mono ?_
  rintro e w2 ⟨rfl, hb⟩
  have HY2 := Lib.hid (HY1.out.below hb HY1.out.lt)
  have HB2 := Lib.hid (HB1.out.trans (hb.mono HB1.out.size))
  clear hb HY1 HB1 HQ1
  generalize hG1 : (ceilI L (-9223372036854775808)).1 = G1
  generalize hG2 : (ceilI L (-9223372036854775808)).2 = G2
  have HG1 := Lib.hid hG1
  have HG2 := Lib.hid hG2
  clear hG1 hG2
  go_wp2_with (fail)
  with_reducible refine (foundL_any G1.1 G1.2 G2 w2).mono ?_
  rintro e w3 ⟨rfl, hb⟩
  have HY3 := Lib.hid (HY2.out.below hb HY2.out.lt)
  have HB3 := Lib.hid (HB2.out.trans (hb.mono HB2.out.size))
  clear hb HY2 HB2
  generalize hF : foundI (G1.1, G1.2) G2 = F
  have HF := Lib.hid hF
  clear hF
  unfold resV
  have hy := HY3.out
  have y0 : w3.cell? ⟨w.heap.size + 1, 0, none⟩ = some (.int .i64 0) := hy.cell 0
  have y1 : w3.cell? ⟨w.heap.size + 1, 1, none⟩ = some (.bool false) := hy.cell 1
  have y2 : w3.cell? ⟨w.heap.size + 1, 2, none⟩ = some (.int .i64 0) := hy.cell 2
  have y3 : w3.cell? ⟨w.heap.size + 1, 3, none⟩ = some (.int .i64 0) := hy.cell 3
  have y4 : w3.cell? ⟨w.heap.size + 1, 4, none⟩ = some (.int .i64 0) := hy.cell 4
  have y5 : w3.cell? ⟨w.heap.size + 1, 5, none⟩ = some (.slice none 0 0) := hy.cell 5
  have g0 := hy.frozen 0
  have g1 := hy.frozen 1
  have g2 := hy.frozen 2
  have g3 := hy.frozen 3
  have g4 := hy.frozen 4
  have g5 := hy.frozen 5
  clear hy
  go_wp2_with (fail)
  refine bodyPost_ret (v := resV F (.slice none 0 0)) (by simp [results, Tryz.results43, go_sem, resV, y0, y1, y2, y3, y4, y5, g0, g1, g2, g3, g4, g5]) rfl ?_
  have hA : ansI L ⟨7, key, val⟩ = F := by rw [← HF.out, ← HG2.out, ← HG1.out]; rfl
  rw [← hA]
  exact AnsLPost.none (by rw [hA, ← HF.out, foundI_list]) (below_set6 HB3.out (by omega) _ _ _ _ _ _)
set_option maxRecDepth 100000 in
set_option maxHeartbeats 2000000 in
theorem ans8_any (A : Option Addr) (c : Nat) (L : List (Int × Int)) (key val : Int) (w : World) (hq : PairsAt w w.heap.size A L) (hl : L.length ≤ 1000000) (ha : AscP L) :
    Calls Tryz.prog 43 #[.slice A L.length c, .agg #[.int .i64 8, .int .i64 key, .int .i64 val]] w (AnsLPost L ⟨8, key, val⟩ w) := by
  have hx := Blk.new w 48 #[.int .i64 8, .int .i64 key, .int .i64 val]
  have hy := Blk.new (w.alloc (.cells #[.int .i64 8, .int .i64 key, .int .i64 val] 48)) 54 #[.int .i64 0, .bool false, .int .i64 0, .int .i64 0, .int .i64 0, .slice none 0 0]
  have hb1 := (Below.refl w.heap.size w).alloc (Nat.le_refl _) (.cells #[.int .i64 8, .int .i64 key, .int .i64 val] 48)
  have hz1 : (w.alloc (.cells #[.int .i64 8, .int .i64 key, .int .i64 val] 48)).heap.size = w.heap.size + 1 := by simp
  have hb2 := hb1.alloc hb1.size (.cells #[.int .i64 0, .bool false, .int .i64 0, .int .i64 0, .int .i64 0, .slice none 0 0] 54)
  have hbx := (Below.refl (w.alloc (.cells #[.int .i64 8, .int .i64 key, .int .i64 val] 48)).heap.size (w.alloc (.cells #[.int .i64 8, .int .i64 key, .int .i64 val] 48))).alloc (Nat.le_refl _) (.cells #[.int .i64 0, .bool false, .int .i64 0, .int .i64 0, .int .i64 0, .slice none 0 0] 54)
  have hx2 := hx.below hbx hx.lt
  rw [hz1] at hy
  have HQ := Lib.hid (show PairsAt _ ((w.alloc (.cells #[.int .i64 8, .int .i64 key, .int .i64 val] 48)).alloc (.cells #[.int .i64 0, .bool false, .int .i64 0, .int .i64 0, .int .i64 0, .slice none 0 0] 54)).heap.size A L from (hq.below hb2).more hb2.size)
  have HX := Lib.hid hx2
  have HY := Lib.hid hy
  have HB := Lib.hid hb2
  have HA := Lib.hid ha
  clear hq hx hy hb1 hz1 hb2 hx2 ha hbx
  go_enter Tryz.func43, Tryz.ntmps43
  go_wp2_with (fail)
  generalize (w.alloc (.cells #[.int .i64 8, .int .i64 key, .int .i64 val] 48)).alloc (.cells #[.int .i64 0, .bool false, .int .i64 0, .int .i64 0, .int .i64 0, .slice none 0 0] 54) = w0 at HX HY HQ HB ⊢
  with_reducible refine (mapOk_any A c _ L w0 rfl HQ.out hl HA.out).mono ?_
  rintro e w1 ⟨rfl, hd⟩
  have hx1 := HX.out.below (drawn_bl hd _) HX.out.lt
  have o0 : w1.cell? ⟨w.heap.size, 0, none⟩ = some (.int .i64 8) := hx1.cell 0
  have o1 : w1.cell? ⟨w.heap.size, 1, none⟩ = some (.int .i64 key) := hx1.cell 1
  have o2 : w1.cell? ⟨w.heap.size, 2, none⟩ = some (.int .i64 val) := hx1.cell 2
  have HY1 := Lib.hid (HY.out.below (drawn_bl hd _) HY.out.lt)
  have HQ1 := Lib.hid (show PairsAt w1 w1.heap.size A L from (Reads.below HQ.out (drawn_bl hd _)).more (drawn_bl hd w0.heap.size).size)
  have HB1 := Lib.hid (HB.out.trans ((drawn_bl hd _).mono HB.out.size))
  clear hx1 hd HX HQ HB HY HA
  go_wp2_with (fail)
  with_reducible refine (floorL_any A c L 9223372036854775807 w1 HQ1.out hl).mono ?_
  rintro e w2 ⟨rfl, hb⟩
  have HY2 := Lib.hid (HY1.out.below hb HY1.out.lt)
  have HB2 := Lib.hid (HB1.out.trans (hb.mono HB1.out.size))
  clear hb HY1 HB1 HQ1
  generalize hG1 : (floorI L 9223372036854775807).1 = G1
  generalize hG2 : (floorI L 9223372036854775807).2 = G2
  have HG1 := Lib.hid hG1
  have HG2 := Lib.hid hG2
  clear hG1 hG2
  go_wp2_with (fail)
  with_reducible refine (foundL_any G1.1 G1.2 G2 w2).mono ?_
  rintro e w3 ⟨rfl, hb⟩
  have HY3 := Lib.hid (HY2.out.below hb HY2.out.lt)
  have HB3 := Lib.hid (HB2.out.trans (hb.mono HB2.out.size))
  clear hb HY2 HB2
  generalize hF : foundI (G1.1, G1.2) G2 = F
  have HF := Lib.hid hF
  clear hF
  unfold resV
  have hy := HY3.out
  have y0 : w3.cell? ⟨w.heap.size + 1, 0, none⟩ = some (.int .i64 0) := hy.cell 0
  have y1 : w3.cell? ⟨w.heap.size + 1, 1, none⟩ = some (.bool false) := hy.cell 1
  have y2 : w3.cell? ⟨w.heap.size + 1, 2, none⟩ = some (.int .i64 0) := hy.cell 2
  have y3 : w3.cell? ⟨w.heap.size + 1, 3, none⟩ = some (.int .i64 0) := hy.cell 3
  have y4 : w3.cell? ⟨w.heap.size + 1, 4, none⟩ = some (.int .i64 0) := hy.cell 4
  have y5 : w3.cell? ⟨w.heap.size + 1, 5, none⟩ = some (.slice none 0 0) := hy.cell 5
  have g0 := hy.frozen 0
  have g1 := hy.frozen 1
  have g2 := hy.frozen 2
  have g3 := hy.frozen 3
  have g4 := hy.frozen 4
  have g5 := hy.frozen 5
  clear hy
  go_wp2_with (fail)
  refine bodyPost_ret (v := resV F (.slice none 0 0)) (by simp [results, Tryz.results43, go_sem, resV, y0, y1, y2, y3, y4, y5, g0, g1, g2, g3, g4, g5]) rfl ?_
  have hA : ansI L ⟨8, key, val⟩ = F := by rw [← HF.out, ← HG2.out, ← HG1.out]; rfl
  rw [← hA]
  exact AnsLPost.none (by rw [hA, ← HF.out, foundI_list]) (below_set6 HB3.out (by omega) _ _ _ _ _ _)
set_option maxRecDepth 100000 in
set_option maxHeartbeats 2000000 in
theorem ans9_any (A : Option Addr) (c : Nat) (L : List (Int × Int)) (key val : Int) (w : World) (hq : PairsAt w w.heap.size A L) (hl : L.length ≤ 1000000) (ha : AscP L) :
    Calls Tryz.prog 43 #[.slice A L.length c, .agg #[.int .i64 9, .int .i64 key, .int .i64 val]] w (AnsLPost L ⟨9, key, val⟩ w) := by
  have hx := Blk.new w 48 #[.int .i64 9, .int .i64 key, .int .i64 val]
  have hy := Blk.new (w.alloc (.cells #[.int .i64 9, .int .i64 key, .int .i64 val] 48)) 54 #[.int .i64 0, .bool false, .int .i64 0, .int .i64 0, .int .i64 0, .slice none 0 0]
  have hb1 := (Below.refl w.heap.size w).alloc (Nat.le_refl _) (.cells #[.int .i64 9, .int .i64 key, .int .i64 val] 48)
  have hz1 : (w.alloc (.cells #[.int .i64 9, .int .i64 key, .int .i64 val] 48)).heap.size = w.heap.size + 1 := by simp
  have hb2 := hb1.alloc hb1.size (.cells #[.int .i64 0, .bool false, .int .i64 0, .int .i64 0, .int .i64 0, .slice none 0 0] 54)
  have hbx := (Below.refl (w.alloc (.cells #[.int .i64 9, .int .i64 key, .int .i64 val] 48)).heap.size (w.alloc (.cells #[.int .i64 9, .int .i64 key, .int .i64 val] 48))).alloc (Nat.le_refl _) (.cells #[.int .i64 0, .bool false, .int .i64 0, .int .i64 0, .int .i64 0, .slice none 0 0] 54)
  have hx2 := hx.below hbx hx.lt
  rw [hz1] at hy
  have HQ := Lib.hid (show PairsAt _ ((w.alloc (.cells #[.int .i64 9, .int .i64 key, .int .i64 val] 48)).alloc (.cells #[.int .i64 0, .bool false, .int .i64 0, .int .i64 0, .int .i64 0, .slice none 0 0] 54)).heap.size A L from (hq.below hb2).more hb2.size)
  have HX := Lib.hid hx2
  have HY := Lib.hid hy
  have HB := Lib.hid hb2
  have HA := Lib.hid ha
  clear hq hx hy hb1 hz1 hb2 hx2 ha hbx
  go_enter Tryz.func43, Tryz.ntmps43
  go_wp2_with (fail)
  generalize (w.alloc (.cells #[.int .i64 9, .int .i64 key, .int .i64 val] 48)).alloc (.cells #[.int .i64 0, .bool false, .int .i64 0, .int .i64 0, .int .i64 0, .slice none 0 0] 54) = w0 at HX HY HQ HB ⊢
  with_reducible refine (mapOk_any A c _ L w0 rfl HQ.out hl HA.out).mono ?_
  rintro e w1 ⟨rfl, hd⟩
  have hx1 := HX.out.below (drawn_bl hd _) HX.out.lt
  have o0 : w1.cell? ⟨w.heap.size, 0, none⟩ = some (.int .i64 9) := hx1.cell 0
  have o1 : w1.cell? ⟨w.heap.size, 1, none⟩ = some (.int .i64 key) := hx1.cell 1
  have o2 : w1.cell? ⟨w.heap.size, 2, none⟩ = some (.int .i64 val) := hx1.cell 2
  have HY1 := Lib.hid (HY.out.below (drawn_bl hd _) HY.out.lt)
  have HQ1 := Lib.hid (show PairsAt w1 w1.heap.size A L from (Reads.below HQ.out (drawn_bl hd _)).more (drawn_bl hd w0.heap.size).size)
  have HB1 := Lib.hid (HB.out.trans ((drawn_bl hd _).mono HB.out.size))
  clear hx1 hd HX HQ HB HY HA
  go_wp2_with (fail)
  with_reducible refine (rangeL_any A c L key val w1 HQ1.out hl).mono ?_
  rintro e w3 ⟨A2, c2, rfl, hO, hb⟩
  have HY3 := Lib.hid (HY1.out.below hb HY1.out.lt)
  have HB3 := Lib.hid (HB1.out.trans (hb.mono HB1.out.size))
  have HO := Lib.hid (own_mono hO HB1.out.size)
  have hrl : (rangeI L key val).length ≤ 1000000 := Nat.le_trans (rangeI_len L key val) hl
  clear hb hO HY1 HB1 HQ1 o0 o1 o2
  generalize hF : rangeI L key val = F at HO hrl ⊢
  have HF := Lib.hid hF
  clear hF
  have hy := HY3.out
  have y0 : w3.cell? ⟨w.heap.size + 1, 0, none⟩ = some (.int .i64 0) := hy.cell 0
  have y1 : w3.cell? ⟨w.heap.size + 1, 1, none⟩ = some (.bool false) := hy.cell 1
  have y2 : w3.cell? ⟨w.heap.size + 1, 2, none⟩ = some (.int .i64 0) := hy.cell 2
  have y3 : w3.cell? ⟨w.heap.size + 1, 3, none⟩ = some (.int .i64 0) := hy.cell 3
  have y4 : w3.cell? ⟨w.heap.size + 1, 4, none⟩ = some (.int .i64 0) := hy.cell 4
  have y5 : w3.cell? ⟨w.heap.size + 1, 5, none⟩ = some (.slice none 0 0) := hy.cell 5
  have g0 := hy.frozen 0
  have g1 := hy.frozen 1
  have g2 := hy.frozen 2
  have g3 := hy.frozen 3
  have g4 := hy.frozen 4
  have g5 := hy.frozen 5
  clear hy
  go_wp2_with (fail)
  refine bodyPost_ret (v := resV ⟨0, false, 0, 0, 0, F⟩ (.slice A2 F.length c2)) (by simp [results, Tryz.results43, go_sem, resV, y0, y1, y2, y3, y4, y5, g0, g1, g2, g3, g4, g5]) rfl ?_
  have hA : ansI L ⟨9, key, val⟩ = ⟨0, false, 0, 0, 0, F⟩ := by rw [← HF.out]; rfl
  unfold AnsLPost
  rw [hA]
  exact ⟨_, rfl, own_set6 HO.out HY3.out (by decide) _ _ _ _ _ _, below_set6 HB3.out (by omega) _ _ _ _ _ _⟩
set_option maxRecDepth 100000 in
set_option maxHeartbeats 2000000 in
theorem ans10_any (A : Option Addr) (c : Nat) (L : List (Int × Int)) (key val : Int) (w : World) (hq : PairsAt w w.heap.size A L) (hl : L.length ≤ 1000000) (ha : AscP L) :
    Calls Tryz.prog 43 #[.slice A L.length c, .agg #[.int .i64 10, .int .i64 key, .int .i64 val]] w (AnsLPost L ⟨10, key, val⟩ w) := by
  have hx := Blk.new w 48 #[.int .i64 10, .int .i64 key, .int .i64 val]
  have hy := Blk.new (w.alloc (.cells #[.int .i64 10, .int .i64 key, .int .i64 val] 48)) 54 #[.int .i64 0, .bool false, .int .i64 0, .int .i64 0, .int .i64 0, .slice none 0 0]
  have hb1 := (Below.refl w.heap.size w).alloc (Nat.le_refl _) (.cells #[.int .i64 10, .int .i64 key, .int .i64 val] 48)
  have hz1 : (w.alloc (.cells #[.int .i64 10, .int .i64 key, .int .i64 val] 48)).heap.size = w.heap.size + 1 := by simp
  have hb2 := hb1.alloc hb1.size (.cells #[.int .i64 0, .bool false, .int .i64 0, .int .i64 0, .int .i64 0, .slice none 0 0] 54)
  have hbx := (Below.refl (w.alloc (.cells #[.int .i64 10, .int .i64 key, .int .i64 val] 48)).heap.size (w.alloc (.cells #[.int .i64 10, .int .i64 key, .int .i64 val] 48))).alloc (Nat.le_refl _) (.cells #[.int .i64 0, .bool false, .int .i64 0, .int .i64 0, .int .i64 0, .slice none 0 0] 54)
  have hx2 := hx.below hbx hx.lt
  rw [hz1] at hy
  have HQ := Lib.hid (show PairsAt _ ((w.alloc (.cells #[.int .i64 10, .int .i64 key, .int .i64 val] 48)).alloc (.cells #[.int .i64 0, .bool false, .int .i64 0, .int .i64 0, .int .i64 0, .slice none 0 0] 54)).heap.size A L from (hq.below hb2).more hb2.size)
  have HX := Lib.hid hx2
  have HY := Lib.hid hy
  have HB := Lib.hid hb2
  have HA := Lib.hid ha
  clear hq hx hy hb1 hz1 hb2 hx2 ha hbx
  go_enter Tryz.func43, Tryz.ntmps43
  go_wp2_with (fail)
  generalize (w.alloc (.cells #[.int .i64 10, .int .i64 key, .int .i64 val] 48)).alloc (.cells #[.int .i64 0, .bool false, .int .i64 0, .int .i64 0, .int .i64 0, .slice none 0 0] 54) = w0 at HX HY HQ HB ⊢
  with_reducible refine (mapOk_any A c _ L w0 rfl HQ.out hl HA.out).mono ?_
  rintro e w1 ⟨rfl, hd⟩
  have hx1 := HX.out.below (drawn_bl hd _) HX.out.lt
  have o0 : w1.cell? ⟨w.heap.size, 0, none⟩ = some (.int .i64 10) := hx1.cell 0
  have o1 : w1.cell? ⟨w.heap.size, 1, none⟩ = some (.int .i64 key) := hx1.cell 1
  have o2 : w1.cell? ⟨w.heap.size, 2, none⟩ = some (.int .i64 val) := hx1.cell 2
  have HY1 := Lib.hid (HY.out.below (drawn_bl hd _) HY.out.lt)
  have HQ1 := Lib.hid (show PairsAt w1 w1.heap.size A L from (Reads.below HQ.out (drawn_bl hd _)).more (drawn_bl hd w0.heap.size).size)
  have HB1 := Lib.hid (HB.out.trans ((drawn_bl hd _).mono HB.out.size))
  clear hx1 hd HX HQ HB HY HA
  go_wp2_with (fail)
  with_reducible refine (rangeL_any A c L key val w1 HQ1.out hl).mono ?_
  rintro e w3 ⟨A2, c2, rfl, hO, hb⟩
  have HY3 := Lib.hid (HY1.out.below hb HY1.out.lt)
  have HB3 := Lib.hid (HB1.out.trans (hb.mono HB1.out.size))
  have HO := Lib.hid (own_mono hO HB1.out.size)
  have hrl : (rangeI L key val).length ≤ 1000000 := Nat.le_trans (rangeI_len L key val) hl
  clear hb hO HY1 HB1 HQ1 o0 o1 o2
  generalize hF : rangeI L key val = F at HO hrl ⊢
  have HF := Lib.hid hF
  clear hF
  have hy := HY3.out
  have y0 : w3.cell? ⟨w.heap.size + 1, 0, none⟩ = some (.int .i64 0) := hy.cell 0
  have y1 : w3.cell? ⟨w.heap.size + 1, 1, none⟩ = some (.bool false) := hy.cell 1
  have y2 : w3.cell? ⟨w.heap.size + 1, 2, none⟩ = some (.int .i64 0) := hy.cell 2
  have y3 : w3.cell? ⟨w.heap.size + 1, 3, none⟩ = some (.int .i64 0) := hy.cell 3
  have y4 : w3.cell? ⟨w.heap.size + 1, 4, none⟩ = some (.int .i64 0) := hy.cell 4
  have y5 : w3.cell? ⟨w.heap.size + 1, 5, none⟩ = some (.slice none 0 0) := hy.cell 5
  have g0 := hy.frozen 0
  have g1 := hy.frozen 1
  have g2 := hy.frozen 2
  have g3 := hy.frozen 3
  have g4 := hy.frozen 4
  have g5 := hy.frozen 5
  clear hy
  go_wp2_with (fail)
  refine bodyPost_ret (v := resV ⟨0, false, 0, 0, F.length, []⟩ (.slice none 0 0)) (by simp [results, Tryz.results43, go_sem, resV, y0, y1, y2, y3, y4, y5, g0, g1, g2, g3, g4, g5]) rfl ?_
  have hA : ansI L ⟨10, key, val⟩ = ⟨0, false, 0, 0, F.length, []⟩ := by rw [← HF.out]; rfl
  rw [← hA]
  exact AnsLPost.none (by rw [hA]) (below_set6 HB3.out (by omega) _ _ _ _ _ _)
theorem answer_any (A : Option Addr) (c N : Nat) (L : List (Int × Int)) (o : Op) (w : World) (hN : N = L.length) (hq : PairsAt w w.heap.size A L) (hl : L.length ≤ 1000000) (ha : AscP L) (h1 : 1 ≤ o.kind) (h2 : o.kind ≤ 10) :
    Calls Tryz.prog 43 #[.slice A N c, .agg #[.int .i64 o.kind, .int .i64 o.key, .int .i64 o.val]] w (AnsLPost L o w) := by
  subst hN
  obtain ⟨k, key, val⟩ := o
  have h1 : 1 ≤ k := h1
  have h2 : k ≤ 10 := h2
  have : k = 1 ∨ k = 2 ∨ k = 3 ∨ k = 4 ∨ k = 5 ∨ k = 6 ∨ k = 7 ∨ k = 8 ∨ k = 9 ∨ k = 10 := by omega
  rcases this with rfl | rfl | rfl | rfl | rfl | rfl | rfl | rfl | rfl | rfl
  · exact ans1_any A c L key val w hq hl ha
  · exact ans2_any A c L key val w hq hl ha
  · exact ans3_any A c L key val w hq hl ha
  · exact ans4_any A c L key val w hq hl ha
  · exact ans5_any A c L key val w hq hl ha
  · exact ans6_any A c L key val w hq hl ha
  · exact ans7_any A c L key val w hq hl ha
  · exact ans8_any A c L key val w hq hl ha
  · exact ans9_any A c L key val w hq hl ha
  · exact ans10_any A c L key val w hq hl ha
/- The walk of QueryKnown. -/

def eqRes (a b : Res) : Bool := decide (a.why = b.why) && (a.found == b.found && (decide (a.key = b.key) && (decide (a.val = b.val) && (decide (a.n = b.n) && decide (a.list = b.list)))))
theorem eqRes_yes {a b : Res} (h : eqRes a b = true) : a = b := by
  obtain ⟨a1, a2, a3, a4, a5, a6⟩ := a
  obtain ⟨b1, b2, b3, b4, b5, b6⟩ := b
  simp only [eqRes, Bool.and_eq_true, decide_eq_true_eq, beq_iff_eq] at h
  obtain ⟨rfl, rfl, rfl, rfl, rfl, rfl⟩ := h
  rfl
theorem ans25 : ∀ kind, kind < 7 → ∀ k : Nat, k < 5 → eqRes (ansI p3L ⟨((kind + 4 : Nat) : Int), k, 2⟩) (resOf (run25 (kind + 4) k (steps25 (kind + 4) k))) = true := by decide +kernel
theorem asked25r {K k : Nat} (hK : 4 ≤ K) (hK2 : K ≤ 10) (hk : k < 5) {M : List Int} (hM : tree3 = M) : ∃ S st l, AskedQ (rdC M) ⟨K, k, 2⟩ 1 S st l (ansI p3L ⟨K, k, 2⟩) := by
  obtain ⟨i, rfl⟩ : ∃ i, K = i + 4 := ⟨K - 4, by omega⟩
  obtain ⟨S, st, h⟩ := asked25k (kind := i) (k := k) (by omega) hk hM
  rw [← eqRes_yes (ans25 i (by omega) k hk)] at h
  exact ⟨S, st, _, h⟩
def p3C : List Value := [.int .i64 1, .int .i64 10, .int .i64 2, .int .i64 20, .int .i64 3, .int .i64 30]
theorem pairs_blk {w : World} {g : Nat} {t : TypeId} {L : List (Int × Int)} (h : Blk w g t (cellsP L).toArray) : PairsAt w (g + 1) (some ⟨g, 0, none⟩) L := by
  refine ⟨cellsP_len L, fun _ => ⟨_, rfl, Nat.lt_succ_self _, fun j u hu => ?_⟩⟩
  have e : (⟨g, 0, none⟩ : Addr).add j = ⟨g, j, none⟩ := by unfold Addr.add; split <;> simp_all
  rw [e, h.cell j]
  simpa using hu
theorem pairs_in {w : World} {g : Nat} {t : TypeId} {L : List (Int × Int)} (h : Blk w g t (cellsP L).toArray) : PairsAt w w.heap.size (some ⟨g, 0, none⟩) L := by
  have := pairs_blk h
  unfold PairsAt at this ⊢
  exact this.more h.lt
theorem pairs_own {A : Option Addr} {c base : Nat} {et : TypeId} {L : List (Int × Int)} {w : World} (h : w.ownsRow base et 2 (.slice A L.length c) L.length (cellsP L)) : PairsAt w w.heap.size A L := Reads.of_own h
structure AskRel (b pb : Nat) (M : List Int) (w0 wr : World) : Prop where
  mem : MemC b M 60 wr
  blk : Blk wr pb 52 (cellsP p3L).toArray
  low : Below b w0 wr
  bp : b < pb
def AskOut (b pb : Nat) (M : List Int) (w0 : World) (iv : Value) (wr : World) : Prop := ∃ K : Nat, 4 ≤ K ∧ K ≤ 11 ∧ iv = .int .i64 (K : Int) ∧ AskRel b pb M w0 wr
def AskIn (b pb : Nat) (M : List Int) (w0 : World) (kv : Value) (wr : World) : Prop := ∃ k : Nat, k ≤ 5 ∧ kv = .int .i64 (k : Int) ∧ AskRel b pb M w0 wr
section
variable {b pb : Nat} {M : List Int} {w0 w w' : World}
theorem AskRel.prs (h : AskRel b pb M w0 w) : PairsAt w w.heap.size (some ⟨pb, 0, none⟩) p3L := pairs_in h.blk
theorem AskRel.below (h : AskRel b pb M w0 w) (hb : Below w.heap.size w w') : AskRel b pb M w0 w' :=
  ⟨h.mem.below hb, h.blk.below hb h.blk.lt, h.low.trans (hb.mono (by have := h.bp; have := h.blk.lt; omega)), h.bp⟩
theorem AskRel.run (h : AskRel b pb M w0 w) (hm : MemC b M 60 w') (hc : Chg (fun x => x = b) w w') : AskRel b pb M w0 w' :=
  ⟨hm, hc.blk h.blk (fun e => by have := h.bp; have e : pb = b := e; omega), h.low.trans (hc.below (fun x hx => by omega) (by have := h.bp; have := h.blk.lt; omega)), h.bp⟩
end
def AnsRPost (r : Res) (w : World) (e : Ending) (w' : World) : Prop := ∃ A c, e = .returned (.agg #[.int .i64 r.why, .bool r.found, .int .i64 r.key, .int .i64 r.val, .int .i64 r.n, .slice A r.list.length c]) ∧ w'.ownsRow w.heap.size 52 2 (.slice A r.list.length c) r.list.length (cellsP r.list) ∧ Below w.heap.size w w'
theorem answerR_any (A : Option Addr) (c N : Nat) (L : List (Int × Int)) (k key val : Int) (r : Res) (w : World) (hr : ansI L ⟨k, key, val⟩ = r) (hN : N = L.length) (hq : PairsAt w w.heap.size A L) (hl : L.length ≤ 1000000) (ha : AscP L) (h1 : 1 ≤ k) (h2 : k ≤ 10) :
    Calls Tryz.prog 43 #[.slice A N c, .agg #[.int .i64 k, .int .i64 key, .int .i64 val]] w (AnsRPost r w) :=
  (answer_any A c N L ⟨k, key, val⟩ w hN hq hl ha h1 h2).mono fun e w' ⟨lv, he, hO, hb⟩ => by
    obtain ⟨A2, c2, rfl⟩ := own_shape hO
    subst hr
    exact ⟨A2, c2, he, hO, hb⟩
theorem answerD_any (A : Option Addr) (c N : Nat) (L : List (Int × Int)) (k key val : Int) (r : Res) (w : World) (hr : ansI L ⟨k, key, val⟩ = r) (hN : N = L.length) (hq : PairsAt w w.heap.size A L) (hl : L.length ≤ 1000000) (ha : AscP L) (h1 : 1 ≤ k) (h2 : k ≤ 10) :
    Calls Tryz.prog 43 #[.slice A N c, .agg #[.int .i64 k, .int .i64 key, .int .i64 val]] w.drew (AnsRPost r w) :=
  (answerR_any A c N L k key val r w.drew hr hN (Reads.below hq (drawn_bl (Drawn.of w 1) _)) hl ha h1 h2).mono fun e w' ⟨A2, c2, he, hO, hb⟩ => ⟨A2, c2, he, hO, belowDrew hb⟩
/-- Six cells of a result. -/
def ResAt (w : World) (x : Nat) (r : Res) (lv : Value) : Prop := w.cell? ⟨x, 0, none⟩ = some (.int .i64 r.why) ∧ w.cell? ⟨x, 1, none⟩ = some (.bool r.found) ∧ w.cell? ⟨x, 2, none⟩ = some (.int .i64 r.key) ∧ w.cell? ⟨x, 3, none⟩ = some (.int .i64 r.val) ∧ w.cell? ⟨x, 4, none⟩ = some (.int .i64 r.n) ∧ w.cell? ⟨x, 5, none⟩ = some lv
def OpAt (w : World) (x : Nat) (k key val : Int) : Prop := w.cell? ⟨x, 0, none⟩ = some (.int .i64 k) ∧ w.cell? ⟨x, 1, none⟩ = some (.int .i64 key) ∧ w.cell? ⟨x, 2, none⟩ = some (.int .i64 val)
theorem ResAt.of {w : World} {x : Nat} {t : TypeId} {r : Res} {lv : Value} (h : Blk w x t #[.int .i64 r.why, .bool r.found, .int .i64 r.key, .int .i64 r.val, .int .i64 r.n, lv]) : ResAt w x r lv := ⟨h.cell 0, h.cell 1, h.cell 2, h.cell 3, h.cell 4, h.cell 5⟩
theorem OpAt.of {w : World} {x : Nat} {t : TypeId} {k key val : Int} (h : Blk w x t #[.int .i64 k, .int .i64 key, .int .i64 val]) : OpAt w x k key val := ⟨h.cell 0, h.cell 1, h.cell 2⟩
section
attribute [local go_sem] run_why
set_option maxRecDepth 100000 in
set_option maxHeartbeats 4000000 in
theorem queryKnown_walk (w : World) : Calls Tryz.prog 4 #[] w fun e w' => e = .returned (.bool true) ∧ Below w.heap.size w w' := by
  go_enter Tryz.func4, Tryz.ntmps4
  go_wp2_with (fail)
  with_reducible refine (memNew_any 60 _ (by decide) (by decide)).mono ?_
  rintro e w1 ⟨rfl, hm, hb⟩
  have hB1 := hb
  have HM := Lib.hid hm
  clear hm hb
  obtain ⟨b, hbe⟩ : ∃ b, w.heap.size = b := ⟨_, rfl⟩
  rw [hbe] at HM hB1 ⊢
  go_wp2_with (fail)
  with_reducible refine (begin_any b b 60 0 0 0 _ HM.out (by decide) (by decide)).mono ?_
  rintro e w2 ⟨rfl, v, hm, ho, _⟩
  have hz2 : b < w2.heap.size := by have := hB1.size; have := ho.size; have := HM.out.blk.lt; omega
  have hB2 := hB1.trans (ho.below (B := b) (by simp) (by have := HM.out.blk.lt; omega))
  have HM2 : Hid (MemP b b v beginL 60 2 0 0 w2) := Lib.hid (by rw [show bump (bump 0) = 2 from by kernel_rfl] at hm; exact hm)
  clear hm ho HM hB1
  go_wp2_with (fail)
  with_reducible refine (known25_any _).mono ?_
  rintro e w3 ⟨rfl, hb⟩
  have HM2' := Lib.hid (HM2.out.below hb)
  have hB2' := hB2.trans (hb.mono (by omega))
  have hz2' : b < w3.heap.size := by have := hb.size; omega
  clear HM2 hB2 hz2 hb
  have hq := Blk.new w3 52 (cellsP p3L).toArray
  have hb := (Below.refl w3.heap.size w3).alloc (Nat.le_refl _) (.cells (cellsP p3L).toArray 52)
  have HM3 := Lib.hid (HM2'.out.below hb)
  have hB3 := hB2'.trans (hb.mono (by omega))
  have hap : Apart (some ⟨w3.heap.size, 0, none⟩) b v := fun ad ha hx => by
    injection ha with ha
    subst ha
    rcases hx with h | h
    · have : w3.heap.size = b := h
      omega
    · have : w3.heap.size < w3.heap.size := own_lt HM2'.out.own _ h
      omega
  have ec : (cellsP p3L).toArray = #[.int .i64 1, .int .i64 10, .int .i64 2, .int .i64 20, .int .i64 3, .int .i64 30] := rfl
  have HQ := Lib.hid hq
  have HA := Lib.hid hap
  clear hq hap
  clear HM2' hB2' hb
  rw [ec] at HQ HM3 hB3
  clear ec
  go_wp2_with (fail)
  generalize w3.heap.size = pb at HQ HA hz2' ⊢
  generalize w3.alloc (.cells #[.int .i64 1, .int .i64 10, .int .i64 2, .int .i64 20, .int .i64 3, .int .i64 30] 52) = w4 at HQ HM3 hB3 ⊢
  have HQ' : Hid (Blk w4 pb 52 (cellsP p3L).toArray) := Lib.hid HQ.out
  clear HQ
  with_reducible refine (build_any b b v beginL 60 2 0 0 _ 3 3 p3L _ (by kernel_rfl) (by decide) HM3.out (pairs_in HQ'.out) (by decide) (by decide) p3_asc HA.out (by decide +kernel)).mono ?_
  rintro e w5 ⟨rfl, v4, c4, hm, hc, _⟩
  have hB4 := hB3.trans (HM3.out.low hc)
  have HM5 := Lib.hid hm
  have HQ5 := Lib.hid (hc.blk HQ'.out (fun h => HA.out _ rfl h))
  rw [show (layF (p3L.length + 1) beginL p3L).2 = 179 from tree3_len.2.1]
  clear hm hc HM3 HQ' HA hB3
  go_wp2_with (fail)
  with_reducible refine (write_any b b v4 _ 60 c4 0 0 6 179 _ HM5.out (by decide +kernel) (by decide) (by decide)).mono ?_
  rintro e w6 ⟨rfl, hm, hv⟩
  rw [mem01] at hm
  have hm : MemP b b v4 tree3 60 (bump c4) _ 0 w6 := hm
  have HR : Hid (AskRel b pb tree3 w w6) := Lib.hid ⟨⟨_, _, _, hm⟩, hv.blk HQ5.out (by omega) (fun e => own_blk_ne HM5.out.own HQ5.out (by decide) e.symm), hB4.trans (HM5.out.low (MemF.of_mv hv)), hz2'⟩
  clear hm hv HM5 HQ5 hB4 hz2'
  have hbd : ∀ x ∈ tree3, -9223372036854775808 ≤ x ∧ x ≤ 9223372036854775807 := memK_bd 0 (by omega)
  have hml : tree3.length = 29 := tree3_len.1
  obtain ⟨M, hM⟩ : ∃ M, tree3 = M := ⟨_, rfl⟩
  rw [hM] at HR hbd hml
  have HME := Lib.hid hM
  have HBD := Lib.hid hbd
  have HML := Lib.hid hml
  clear hM hbd hml
  go_wp2_with (fail)
  go_loopw [6, 8] (fun iv _ wr => AskOut b pb M w iv wr) (fun iv _ _ => 11 - (intOf iv).toNat)
  case atStart => unfold AskOut; exact ⟨4, by omega, by omega, rfl, HR.out⟩
  case round =>
    obtain ⟨K, K1, K2, rfl, hR⟩ := hrel
    clear HR
    have HR := Lib.hid hR
    clear hR
    by_cases hlt : K ≤ 10
    · have hdk : decide ((K : Int) ≤ 10) = true := decide_eq_true (by omega)
      go_wp2_with (fail)
      obtain ⟨wo, rfl⟩ : ∃ wo : World, wo = wr := ⟨_, rfl⟩
      go_loopw [7, 8] (fun kv _ wz => AskIn b pb M w kv wz) (fun kv _ _ => 5 - (intOf kv).toNat)
      case atStart => unfold AskIn; exact ⟨0, by omega, rfl, HR.out⟩
      case round =>
        obtain ⟨k, k1, rfl, hR⟩ := hrel
        clear HR
        have HR := Lib.hid hR
        clear hR
        by_cases hk : k < 5
        · obtain ⟨S, st, l, hst⟩ := asked25r (k := k) K1 hlt hk HME.out
          have hrl : (ansI p3L ⟨K, k, 2⟩).list.length ≤ 1000000 := hst.list
          have HST := Lib.hid hst
          have ho := Blk.new wr 48 #[.int .i64 (K : Int), .int .i64 (k : Int), .int .i64 2]
          have hb := (Below.refl wr.heap.size wr).alloc (Nat.le_refl _) (.cells #[.int .i64 (K : Int), .int .i64 (k : Int), .int .i64 2] 48)
          have hobl : b < wr.heap.size := HR.out.mem.lt
          have HR1 := Lib.hid (HR.out.below hb)
          have HOP := Lib.hid ho
          clear ho hb hst HR
          go_wp2_with (fail)
          generalize hob : wr.heap.size = ob at HOP hobl ⊢
          generalize wr.alloc (.cells #[.int .i64 (K : Int), .int .i64 (k : Int), .int .i64 2] 48) = w1 at HOP HR1 ⊢
          clear hob
          with_reducible refine (runQ_any b M 60 ⟨K, k, 2⟩ 1 S st l _ w1 HR1.out.mem (by rw [HML.out]; decide) HBD.out HST.out).mono ?_
          rintro e w2 ⟨A, c, rfl, hO, hm, hc⟩
          generalize hr : ansI p3L ⟨K, k, 2⟩ = r at hO hrl ⊢
          have hr2 := Blk.new w2 54 #[.int .i64 r.why, .bool r.found, .int .i64 r.key, .int .i64 r.val, .int .i64 r.n, .slice A r.list.length c]
          have hb := (Below.refl w2.heap.size w2).alloc (Nat.le_refl _) (.cells #[.int .i64 r.why, .bool r.found, .int .i64 r.key, .int .i64 r.val, .int .i64 r.n, .slice A r.list.length c] 54)
          have HR2 := Lib.hid ((HR1.out.run hm hc).below hb)
          have HO2 := Lib.hid (own_below hO hb)
          have HOP2 := Lib.hid ((hc.blk HOP.out (fun e => by have e : ob = b := e; omega)).below hb (by have := HOP.out.lt; have := hc.size; omega))
          have HRR := Lib.hid hr
          have HX := Lib.hid hr2
          clear hr hr2 hb hO hm hc HR1 HOP HST
          go_wp2_with (fail)
          generalize hxb : w2.heap.size = xb at HX ⊢
          generalize w2.alloc (.cells #[.int .i64 r.why, .bool r.found, .int .i64 r.key, .int .i64 r.val, .int .i64 r.n, .slice A r.list.length c] 54) = w3 at HX HR2 HO2 HOP2 ⊢
          clear hxb
          have hxl := HX.out.lt
          have hol := HOP2.out.lt
          have x0 : w3.cell? ⟨xb, 0, none⟩ = some (.int .i64 r.why) := HX.out.cell 0
          have x1 : w3.cell? ⟨xb, 1, none⟩ = some (.bool r.found) := HX.out.cell 1
          have x2 : w3.cell? ⟨xb, 2, none⟩ = some (.int .i64 r.key) := HX.out.cell 2
          have x3 : w3.cell? ⟨xb, 3, none⟩ = some (.int .i64 r.val) := HX.out.cell 3
          have x4 : w3.cell? ⟨xb, 4, none⟩ = some (.int .i64 r.n) := HX.out.cell 4
          have x5 : w3.cell? ⟨xb, 5, none⟩ = some (.slice A r.list.length c) := HX.out.cell 5
          have o0 : w3.cell? ⟨ob, 0, none⟩ = some (.int .i64 (K : Int)) := HOP2.out.cell 0
          have o1 : w3.cell? ⟨ob, 1, none⟩ = some (.int .i64 (k : Int)) := HOP2.out.cell 1
          have o2 : w3.cell? ⟨ob, 2, none⟩ = some (.int .i64 2) := HOP2.out.cell 2
          go_region_held3 (fun w' => (w'.cell? ⟨xb, 0, none⟩ = some (.int .i64 r.why) ∧ w'.cell? ⟨xb, 1, none⟩ = some (.bool r.found) ∧ w'.cell? ⟨xb, 2, none⟩ = some (.int .i64 r.key) ∧ w'.cell? ⟨xb, 3, none⟩ = some (.int .i64 r.val) ∧ w'.cell? ⟨xb, 4, none⟩ = some (.int .i64 r.n) ∧ w'.cell? ⟨xb, 5, none⟩ = some (.slice A r.list.length c)) ∧ w'.cell? ⟨ob, 0, none⟩ = some (.int .i64 (K : Int)) ∧ w'.cell? ⟨ob, 1, none⟩ = some (.int .i64 (k : Int)) ∧ w'.cell? ⟨ob, 2, none⟩ = some (.int .i64 2)) (first | go_keep | exact ⟨K1.out.1, K1.out.2⟩ | exact ⟨K2.out.1, K2.out.2⟩) (first | (go_at_call 43; (with_reducible refine (answerD_any (some ⟨pb, 0, none⟩) 3 3 p3L K k 2 r w3 HRR.out (by kernel_rfl) HR2.out.prs (by decide) p3_asc (by omega) (by omega)).mono ?_); rintro e w4 ⟨A4, c4, rfl, hO4, hb4⟩; have K1 : Hid (ResAt w4 xb r (.slice A r.list.length c) ∧ OpAt w4 ob K k 2) := Lib.hid ⟨ResAt.of (HX.out.below hb4 hxl), OpAt.of (HOP2.out.below hb4 hol)⟩; have HB4 := Lib.hid hb4; have HO4 := Lib.hid hO4; clear hb4 hO4) | (go_at_call 42; (with_reducible refine (resultsSame_any r.why r.key r.val r.n r.found r.list A A4 c c4 _ _ w4 rfl rfl (pairs_own (own_below HO2.out HB4.out)) (pairs_own HO4.out) hrl).mono ?_); rintro e w5 ⟨rfl, hb5⟩; have K2 : Hid (ResAt w5 xb r (.slice A r.list.length c) ∧ OpAt w5 ob K k 2) := Lib.hid ⟨ResAt.of ((HX.out.below HB4.out hxl).below hb5 (by have := HB4.out.size; omega)), OpAt.of ((HOP2.out.below HB4.out hol).below hb5 (by have := HB4.out.size; omega))⟩; have HR5 := Lib.hid ((HR2.out.below HB4.out).below hb5); clear hb5))
          go_wp2_with (fail)
          go_roundw
          case rel => unfold AskIn; exact ⟨k + 1, by omega, by go_num, HR5.out⟩
          case measure => simp [intOf]; omega
        · go_wp2_with (fail)
          go_roundw
          case rel => unfold AskOut; exact ⟨K + 1, by omega, by omega, by go_num, HR.out⟩
          case measure => simp [intOf]; omega
    · have hdk : decide ((K : Int) ≤ 10) = false := decide_eq_false (by omega)
      obtain ⟨hM, hbk, hlo, hbp⟩ := HR.out
      have hbw := hM.lt
      obtain ⟨v9, c9, q9, hM⟩ := hM
      have HM := Lib.hid hM
      have HLO := Lib.hid hlo
      clear HR hM hbk hlo
      go_wp2_with (fail)
      with_reducible refine (newQ_any ⟨3, 1, 0⟩ 0 _).mono ?_
      rintro e w5 ⟨fb, rfl, hq, hb⟩
      have HQ5 : Hid (QueryP (fun x => wr.heap.size ≤ x) fb ⟨3, 1, 0⟩ 0 (.done 0 (Res.err 5)) w5) := Lib.hid hq
      have HB5 := Lib.hid (HLO.out.trans (hb.mono (by omega)))
      have HM5 := Lib.hid (HM.out.below hb)
      have hz5 := hb.size
      clear hq hb HLO HM
      go_wp2_with (fail)
      with_reducible refine (newQ_any ⟨11, 0, 0⟩ 1 _).mono ?_
      rintro e w6 ⟨gb, rfl, hq, hb⟩
      have HG6 : Hid (QueryP (fun x => w5.heap.size ≤ x) gb ⟨11, 0, 0⟩ 1 (.done 1 (Res.err 5)) w6) := Lib.hid hq
      have HQ6 := Lib.hid (HQ5.out.below hb)
      have HB6 := Lib.hid (HB5.out.trans (hb.mono (by omega)))
      have HM6 := Lib.hid (HM5.out.below hb)
      have hz6 := hb.size
      clear hq hb HQ5 HB5 HM5
      go_wp2_with (fail)
      with_reducible refine (newQ_any ⟨4, 0, 0⟩ 65 _).mono ?_
      rintro e w7 ⟨hb7, rfl, hq, hb⟩
      have HH7 : Hid (QueryP (fun x => w6.heap.size ≤ x) hb7 ⟨4, 0, 0⟩ 65 (.done 65 (Res.err 2)) w7) := Lib.hid hq
      have HQ7 := Lib.hid (HQ6.out.below hb)
      have HG7 := Lib.hid (HG6.out.below hb)
      have HB7 := Lib.hid (HB6.out.trans (hb.mono (by omega)))
      have HM7 := Lib.hid (HM6.out.below hb)
      have hz7 := hb.size
      clear hq hb HQ6 HG6 HB6 HM6
      go_wp2_with (fail)
      with_reducible refine (doneQ_any _ _ _ _ _ _ HQ7.out).mono ?_
      rintro e w8 ⟨rfl, rfl⟩
      rw [show ((QP.done 0 (Res.err 5)).next == 3) = true from rfl]
      go_wp2_with (fail)
      with_reducible refine (resultQ_any _ fb _ _ 0 (Res.err 5) _ HQ7.out (by decide)).mono ?_
      rintro e w8 ⟨lv, rfl, hO, hb⟩
      obtain ⟨A8, c8, rfl⟩ := own_shape hO
      have HB8 := Lib.hid (HB7.out.trans (hb.mono (by omega)))
      have HG8 := Lib.hid (HG7.out.below hb)
      have HH8 := Lib.hid (HH7.out.below hb)
      have HM8 := Lib.hid (HM7.out.below hb)
      have hz8 := hb.size
      clear hO hb HB7 HG7 HH7 HM7 HQ7
      unfold resV Res.err
      go_wp2_with (fail)
      with_reducible refine (resultQ_any _ gb _ _ 1 (Res.err 5) _ HG8.out (by decide)).mono ?_
      rintro e w9 ⟨lv, rfl, hO, hb⟩
      obtain ⟨A9, c9, rfl⟩ := own_shape hO
      have HB9 := Lib.hid (HB8.out.trans (hb.mono (by omega)))
      have HH9 := Lib.hid (HH8.out.below hb)
      have HM9 := Lib.hid (HM8.out.below hb)
      have hz9 := hb.size
      clear hO hb HB8 HG8 HH8 HM8
      unfold resV Res.err
      go_wp2_with (fail)
      with_reducible refine (resultQ_any _ hb7 _ _ 65 (Res.err 2) _ HH9.out (by decide)).mono ?_
      rintro e w10 ⟨lv, rfl, hO, hb⟩
      obtain ⟨A10, c10, rfl⟩ := own_shape hO
      have HB10 := Lib.hid (HB9.out.trans (hb.mono (by omega)))
      have HM10 := Lib.hid (HM9.out.below hb)
      clear hO hb HB9 HH9 HM9
      unfold resV Res.err
      go_wp2_with (fail)
      with_reducible refine (used_any b b _ M 60 _ _ _ _ HM10.out).mono ?_
      rintro e w11 ⟨rfl, rfl⟩
      rw [HML.out]
      go_wp2_with (fail)
      go_ret
      exact ⟨rfl, hbe ▸ HB10.out⟩
end
end Go.Proofs.YtblajeildolloaaGreat
