/- The walks of package bound. -/
import Derived.Test.YtjlhngffkmbdmaaRoot
namespace Go.Proofs.Ytjlhngffkmbdmaa
set_option linter.unusedVariables false
set_option linter.unusedSimpArgs false
open Go.RowKit

theorem max2_int (k k' : IntKind) (x y : Int) : Builtin.max2 (.int k x) (.int k' y) = pure (.int k (if x < y then y else x)) := by simp only [Builtin.max2, gt_iff_lt]
theorem min2_int (k k' : IntKind) (x y : Int) : Builtin.min2 (.int k x) (.int k' y) = pure (.int k (if y < x then y else x)) := by simp only [Builtin.min2]
theorem min_two (ats : Array TypeId) (ty : TypeId) (a b : Value) : Builtin.min_ ats ty #[a, b] = (Builtin.min2 a b >>= fun s => pure s) := by simp only [Builtin.min_, List.foldlM_cons, List.foldlM_nil]
theorem max_two (ats : Array TypeId) (ty : TypeId) (a b : Value) : Builtin.max_ ats ty #[a, b] = (Builtin.max2 a b >>= fun s => pure s) := by simp only [Builtin.max_, List.foldlM_cons, List.foldlM_nil]
attribute [local go_sem] max2_int max_two

def sumI : List Int → Int → Int
  | [], a => a
  | x :: l, a => sumI l (plusI a (posI x))
def productI : List Int → Int → Int
  | [], a => a
  | x :: l, a => productI l (timesI a (posI x))


theorem sumI_step (xs : List Int) (k : Nat) (h : k < xs.length) (a : Int) : sumI (xs.drop k) a = sumI (xs.drop (k + 1)) (plusI a (posI (xs.getD k 0))) := by
  rw [List.drop_eq_getElem_cons h, sumI, List.getD_eq_getElem?_getD, List.getElem?_eq_getElem h]
  rfl

set_option maxHeartbeats 1000000 in
theorem sum_any (b : Nat) (xs : List Int) (w : World) (hl : xs.length ≤ 100)
    (hc : ∀ k, k < xs.length → w.cell? ⟨b, k, none⟩ = some (.int .i64 (xs.getD k 0)))
    (hx : ∀ k, k < xs.length → xs.getD k 0 ≤ 9223372036854775807) :
    Calls Try.prog 38 #[.slice (some ⟨b, 0, none⟩) xs.length xs.length] w fun e w' => e = .returned (.int .i64 (sumI xs 0)) ∧ w = w' := by
  have HC := Lib.hid hc
  have HX := Lib.hid hx
  clear hc hx
  go_enter Try.func38, Try.ntmps38
  go_wp2
  go_loop [3, 8] (fun s i => ∃ (k : Nat) (a : Int), k ≤ xs.length ∧ i = .int .i64 k ∧ s = .int .i64 a ∧ 0 ≤ a ∧ a ≤ 9223372036854775807 ∧ sumI (xs.drop k) a = sumI xs 0) (fun _ i => xs.length - (intOf i).toNat)
  case atStart => exact ⟨0, 0, by omega, rfl, rfl, by omega, by omega, rfl⟩
  case round =>
    obtain ⟨k, a, hk, rfl, rfl, a0, a1, H0⟩ := hrel
    have H := Lib.hid H0
    clear H0
    by_cases hlt : k < xs.length
    · have hcell := HC.out k hlt
      have hb := HX.out k hlt
      obtain ⟨x, hx⟩ : ∃ x, xs.getD k 0 = x := ⟨_, rfl⟩
      have HE := Lib.hid (sumI_step xs k hlt a)
      rw [hx] at hcell hb HE
      clear hx
      have hp : (if x < 0 then 0 else x) = posI x := rfl
      have p0 := posI_nonneg x
      have p1 := posI_le hb
      go_wp2_with (go_at_call 47; refine (plus_any _ _ _ (by omega) (by omega) (by omega) (by omega)).mono ?_; rintro e w' ⟨rfl, rfl⟩)
      go_round
      case rel => exact ⟨k + 1, _, by omega, by go_num, rfl, plusI_nonneg _ _, plusI_le _ _, HE.out.symm.trans H.out⟩
      case measure => simp [intOf]; omega
    · have e : xs.drop k = [] := List.drop_eq_nil_of_le (by omega)
      rw [e] at H
      go_wp2
      go_ret
      exact ⟨ret_int H.out, rfl⟩

theorem productI_step (xs : List Int) (k : Nat) (h : k < xs.length) (a : Int) : productI (xs.drop k) a = productI (xs.drop (k + 1)) (timesI a (posI (xs.getD k 0))) := by
  rw [List.drop_eq_getElem_cons h, productI, List.getD_eq_getElem?_getD, List.getElem?_eq_getElem h]
  rfl

set_option maxHeartbeats 1000000 in
theorem product_any (b : Nat) (xs : List Int) (w : World) (hl : xs.length ≤ 100)
    (hc : ∀ k, k < xs.length → w.cell? ⟨b, k, none⟩ = some (.int .i64 (xs.getD k 0)))
    (hx : ∀ k, k < xs.length → xs.getD k 0 ≤ 9223372036854775807) :
    Calls Try.prog 39 #[.slice (some ⟨b, 0, none⟩) xs.length xs.length] w fun e w' => e = .returned (.int .i64 (productI xs 1)) ∧ w = w' := by
  have HC := Lib.hid hc
  have HX := Lib.hid hx
  clear hc hx
  go_enter Try.func39, Try.ntmps39
  go_wp2
  go_loop [3, 8] (fun s i => ∃ (k : Nat) (a : Int), k ≤ xs.length ∧ i = .int .i64 k ∧ s = .int .i64 a ∧ 0 ≤ a ∧ a ≤ 9223372036854775807 ∧ productI (xs.drop k) a = productI xs 1) (fun _ i => xs.length - (intOf i).toNat)
  case atStart => exact ⟨0, 1, by omega, rfl, rfl, by omega, by omega, rfl⟩
  case round =>
    obtain ⟨k, a, hk, rfl, rfl, a0, a1, H0⟩ := hrel
    have H := Lib.hid H0
    clear H0
    by_cases hlt : k < xs.length
    · have hcell := HC.out k hlt
      have hb := HX.out k hlt
      obtain ⟨x, hx⟩ : ∃ x, xs.getD k 0 = x := ⟨_, rfl⟩
      have HE := Lib.hid (productI_step xs k hlt a)
      rw [hx] at hcell hb HE
      clear hx
      have hp : (if x < 0 then 0 else x) = posI x := rfl
      have p0 := posI_nonneg x
      have p1 := posI_le hb
      go_wp2_with (go_at_call 48; refine (times_any _ _ _ (by omega) (by omega)).mono ?_; rintro e w' ⟨rfl, rfl⟩)
      go_round
      case rel => exact ⟨k + 1, _, by omega, by go_num, rfl, timesI_nonneg _ _, timesI_le _ _, HE.out.symm.trans H.out⟩
      case measure => simp [intOf]; omega
    · have e : xs.drop k = [] := List.drop_eq_nil_of_le (by omega)
      rw [e] at H
      go_wp2
      go_ret
      exact ⟨ret_int H.out, rfl⟩

theorem sumI_bd (xs : List Int) : ∀ a, 0 ≤ a → a ≤ 9223372036854775807 → 0 ≤ sumI xs a ∧ sumI xs a ≤ 9223372036854775807 := by
  induction xs with
  | nil => intro a h k; exact ⟨h, k⟩
  | cons x l ih => intro a _ _; exact ih _ (plusI_nonneg _ _) (plusI_le _ _)
theorem productI_bd (xs : List Int) : ∀ a, 0 ≤ a → a ≤ 9223372036854775807 → 0 ≤ productI xs a ∧ productI xs a ≤ 9223372036854775807 := by
  induction xs with
  | nil => intro a h k; exact ⟨h, k⟩
  | cons x l ih => intro a _ _; exact ih _ (timesI_nonneg _ _) (timesI_le _ _)
theorem sumI_le (xs : List Int) : sumI xs 0 ≤ 9223372036854775807 := (sumI_bd xs 0 (by decide) (by decide)).2
theorem productI_le (xs : List Int) : productI xs 1 ≤ 9223372036854775807 := (productI_bd xs 1 (by decide) (by decide)).2
theorem sumI_nonneg (xs : List Int) : 0 ≤ sumI xs 0 := (sumI_bd xs 0 (by decide) (by decide)).1
theorem productI_nonneg (xs : List Int) : 0 ≤ productI xs 1 := (productI_bd xs 1 (by decide) (by decide)).1

theorem cells2 (w : World) (x y : Int) (t : TypeId) (k : Nat) (h : k < [x, y].length) : (w.alloc (.cells #[.int .i64 x, .int .i64 y] t)).cell? ⟨w.heap.size, k, none⟩ = some (.int .i64 ([x, y].getD k 0)) := by
  rcases k with _ | _ | k
  · go_simp
  · go_simp
  · simp at h; omega
theorem cells3 (w : World) (x y z : Int) (t : TypeId) (k : Nat) (h : k < [x, y, z].length) : (w.alloc (.cells #[.int .i64 x, .int .i64 y, .int .i64 z] t)).cell? ⟨w.heap.size, k, none⟩ = some (.int .i64 ([x, y, z].getD k 0)) := by
  rcases k with _ | _ | _ | k
  · go_simp
  · go_simp
  · go_simp
  · simp at h; omega
theorem le2 {x y : Int} (hx : x ≤ 9223372036854775807) (hy : y ≤ 9223372036854775807) (k : Nat) (h : k < [x, y].length) : [x, y].getD k 0 ≤ 9223372036854775807 := by
  rcases k with _ | _ | k
  · exact hx
  · exact hy
  · simp at h; omega
theorem le3 {x y z : Int} (hx : x ≤ 9223372036854775807) (hy : y ≤ 9223372036854775807) (hz : z ≤ 9223372036854775807) (k : Nat) (h : k < [x, y, z].length) : [x, y, z].getD k 0 ≤ 9223372036854775807 := by
  rcases k with _ | _ | _ | k
  · exact hx
  · exact hy
  · exact hz
  · simp at h; omega
section
variable (x y z : Int) (w : World) (b : Nat) (hb : b = w.heap.size) (hx : x ≤ 9223372036854775807) (hy : y ≤ 9223372036854775807) (hz : z ≤ 9223372036854775807)
include hb hx hy
theorem sum2 : Calls Try.prog 38 #[.slice (some ⟨b, 0, none⟩) 2 2] (w.alloc (.cells #[.int .i64 x, .int .i64 y] 3)) fun e w' => e = .returned (.int .i64 (sumI [x, y] 0)) ∧ w.alloc (.cells #[.int .i64 x, .int .i64 y] 3) = w' :=
  hb ▸ sum_any w.heap.size [x, y] _ (by simp) (cells2 w x y _) (le2 hx hy)
theorem product2 : Calls Try.prog 39 #[.slice (some ⟨b, 0, none⟩) 2 2] (w.alloc (.cells #[.int .i64 x, .int .i64 y] 3)) fun e w' => e = .returned (.int .i64 (productI [x, y] 1)) ∧ w.alloc (.cells #[.int .i64 x, .int .i64 y] 3) = w' :=
  hb ▸ product_any w.heap.size [x, y] _ (by simp) (cells2 w x y _) (le2 hx hy)
include hz
theorem sum3 : Calls Try.prog 38 #[.slice (some ⟨b, 0, none⟩) 3 3] (w.alloc (.cells #[.int .i64 x, .int .i64 y, .int .i64 z] 3)) fun e w' => e = .returned (.int .i64 (sumI [x, y, z] 0)) ∧ w.alloc (.cells #[.int .i64 x, .int .i64 y, .int .i64 z] 3) = w' :=
  hb ▸ sum_any w.heap.size [x, y, z] _ (by simp) (cells3 w x y z _) (le3 hx hy hz)
theorem product3 : Calls Try.prog 39 #[.slice (some ⟨b, 0, none⟩) 3 3] (w.alloc (.cells #[.int .i64 x, .int .i64 y, .int .i64 z] 3)) fun e w' => e = .returned (.int .i64 (productI [x, y, z] 1)) ∧ w.alloc (.cells #[.int .i64 x, .int .i64 y, .int .i64 z] 3) = w' :=
  hb ▸ product_any w.heap.size [x, y, z] _ (by simp) (cells3 w x y z _) (le3 hx hy hz)
end

def windowI (t c b : Int) : Int := productI [t, sumI [c, 1] 0, sumI [productI [10, c, sumI [rootI c, 2] 0] 1, 64, productI [8, b] 1] 0] 1
def soloI (t c : Int) : Int := productI [sumI [t, 3] 0, sumI [productI [3, c, sumI [rootI c, 4] 0] 1, productI [8, t] 1, 32] 0] 1
def deepI (n : Int) : Int := sumI [productI [2, bitsI n] 1, 2] 0

set_option maxHeartbeats 1000000 in
theorem window_any (t c b : Int) (w : World) (ht : t ≤ 9223372036854775807) (hc : c ≤ 9223372036854775807) (hb : b ≤ 9223372036854775807) :
    Calls Try.prog 16 #[.int .i64 t, .int .i64 c, .int .i64 b] w fun e w' => e = .returned (.int .i64 (windowI t c b)) ∧ Grown w w' := by
  have r1 := rootI_le hc
  go_enter Try.func16, Try.ntmps16
  go_wp2_with (first | (go_at_call 36; refine (root_any _ _ (by omega)).mono ?_; rintro e w' ⟨rfl, rfl⟩) | (go_at_call 38; first | ((with_reducible refine (sum2 _ _ _ _ (by simp) (by first | omega | exact sumI_le _ | exact productI_le _) (by first | omega | exact sumI_le _ | exact productI_le _)).mono ?_); rintro e w' ⟨rfl, rfl⟩) | ((with_reducible refine (sum3 _ _ _ _ _ (by simp) (by first | omega | exact sumI_le _ | exact productI_le _) (by first | omega | exact sumI_le _ | exact productI_le _) (by first | omega | exact sumI_le _ | exact productI_le _)).mono ?_); rintro e w' ⟨rfl, rfl⟩)) | (go_at_call 39; first | ((with_reducible refine (product2 _ _ _ _ (by simp) (by first | omega | exact sumI_le _ | exact productI_le _) (by first | omega | exact sumI_le _ | exact productI_le _)).mono ?_); rintro e w' ⟨rfl, rfl⟩) | ((with_reducible refine (product3 _ _ _ _ _ (by simp) (by first | omega | exact sumI_le _ | exact productI_le _) (by first | omega | exact sumI_le _ | exact productI_le _) (by first | omega | exact sumI_le _ | exact productI_le _)).mono ?_); rintro e w' ⟨rfl, rfl⟩)))
  go_ret
  exact ⟨rfl, by repeat (first | exact Grown.refl _ | apply Grown.drew | apply Grown.alloc)⟩

set_option maxHeartbeats 1000000 in
theorem solo_any (t c : Int) (w : World) (ht : t ≤ 9223372036854775807) (hc : c ≤ 9223372036854775807) :
    Calls Try.prog 17 #[.int .i64 t, .int .i64 c] w fun e w' => e = .returned (.int .i64 (soloI t c)) ∧ Grown w w' := by
  have r1 := rootI_le hc
  go_enter Try.func17, Try.ntmps17
  go_wp2_with (first | (go_at_call 36; refine (root_any _ _ (by omega)).mono ?_; rintro e w' ⟨rfl, rfl⟩) | (go_at_call 38; first | ((with_reducible refine (sum2 _ _ _ _ (by simp) (by first | omega | exact sumI_le _ | exact productI_le _) (by first | omega | exact sumI_le _ | exact productI_le _)).mono ?_); rintro e w' ⟨rfl, rfl⟩) | ((with_reducible refine (sum3 _ _ _ _ _ (by simp) (by first | omega | exact sumI_le _ | exact productI_le _) (by first | omega | exact sumI_le _ | exact productI_le _) (by first | omega | exact sumI_le _ | exact productI_le _)).mono ?_); rintro e w' ⟨rfl, rfl⟩)) | (go_at_call 39; first | ((with_reducible refine (product2 _ _ _ _ (by simp) (by first | omega | exact sumI_le _ | exact productI_le _) (by first | omega | exact sumI_le _ | exact productI_le _)).mono ?_); rintro e w' ⟨rfl, rfl⟩) | ((with_reducible refine (product3 _ _ _ _ _ (by simp) (by first | omega | exact sumI_le _ | exact productI_le _) (by first | omega | exact sumI_le _ | exact productI_le _) (by first | omega | exact sumI_le _ | exact productI_le _)).mono ?_); rintro e w' ⟨rfl, rfl⟩)))
  go_ret
  exact ⟨rfl, by repeat (first | exact Grown.refl _ | apply Grown.drew | apply Grown.alloc)⟩

set_option maxHeartbeats 1000000 in
theorem deep_any (n : Int) (w : World) (hn : n ≤ 9223372036854775807) :
    Calls Try.prog 18 #[.int .i64 n] w fun e w' => e = .returned (.int .i64 (deepI n)) ∧ Grown w w' := by
  have r1 := bitsI_le hn
  go_enter Try.func18, Try.ntmps18
  go_wp2_with (first | (go_at_call 37; refine (bits_any _ _ (by omega)).mono ?_; rintro e w' ⟨rfl, rfl⟩) | (go_at_call 38; first | ((with_reducible refine (sum2 _ _ _ _ (by simp) (by first | omega | exact sumI_le _ | exact productI_le _) (by first | omega | exact sumI_le _ | exact productI_le _)).mono ?_); rintro e w' ⟨rfl, rfl⟩) | ((with_reducible refine (sum3 _ _ _ _ _ (by simp) (by first | omega | exact sumI_le _ | exact productI_le _) (by first | omega | exact sumI_le _ | exact productI_le _) (by first | omega | exact sumI_le _ | exact productI_le _)).mono ?_); rintro e w' ⟨rfl, rfl⟩)) | (go_at_call 39; first | ((with_reducible refine (product2 _ _ _ _ (by simp) (by first | omega | exact sumI_le _ | exact productI_le _) (by first | omega | exact sumI_le _ | exact productI_le _)).mono ?_); rintro e w' ⟨rfl, rfl⟩) | ((with_reducible refine (product3 _ _ _ _ _ (by simp) (by first | omega | exact sumI_le _ | exact productI_le _) (by first | omega | exact sumI_le _ | exact productI_le _) (by first | omega | exact sumI_le _ | exact productI_le _)).mono ?_); rintro e w' ⟨rfl, rfl⟩)))
  go_ret
  exact ⟨rfl, by repeat (first | exact Grown.refl _ | apply Grown.drew | apply Grown.alloc)⟩
end Go.Proofs.Ytjlhngffkmbdmaa
