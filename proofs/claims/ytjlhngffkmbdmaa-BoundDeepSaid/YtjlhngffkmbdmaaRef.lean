/- The walks of the reference's Window, Solo, Deep. -/
import Derived.Test.YtjlhngffkmbdmaaBound
import Derived.Test.YtjlhngffkmbdmaaRefRoot
namespace Go.Proofs.Ytjlhngffkmbdmaa
set_option linter.unusedVariables false
set_option linter.unusedSimpArgs false
open Go.RowKit
attribute [local go_sem] max2_int max_two

def refWindowI (t c b : Int) : Int := timesI (timesI (posI t) (plusI (posI c) 1)) (plusI (plusI (timesI (timesI 10 (posI c)) (plusI (rootI (posI c)) 2)) 64) (timesI 8 (posI b)))
def refSoloI (t c : Int) : Int := timesI (plusI (posI t) 3) (plusI (plusI (timesI (timesI 3 (posI c)) (plusI (rootI (posI c)) 4)) (timesI 8 (posI t))) 32)

theorem i0 (x : Int) (h : 0 ≤ x) : -9223372036854775808 ≤ x := by omega
set_option maxHeartbeats 1000000 in
theorem refwindow_any (t c b : Int) (w : World) (ht : t ≤ 9223372036854775807) (hc : c ≤ 9223372036854775807) (hb : b ≤ 9223372036854775807) :
    Calls Try.prog 20 #[.int .i64 t, .int .i64 c, .int .i64 b] w fun e w' => e = .returned (.int .i64 (refWindowI t c b)) ∧ w = w' := by
  have pt : (if t < 0 then 0 else t) = posI t := rfl
  have pc : (if c < 0 then 0 else c) = posI c := rfl
  have pb : (if b < 0 then 0 else b) = posI b := rfl
  have c0 := posI_nonneg c
  have c1 := posI_le hc
  have b1 := posI_le hb
  have t1 := posI_le ht
  have r0 := rootI_nonneg (posI c)
  have r1 := rootI_le c1
  go_enter Try.func20, Try.ntmps20
  go_wp2_with (first | (go_at_call 42; refine (refroot_any _ _ (by omega)).mono ?_; rintro e w' ⟨rfl, rfl⟩) | (go_at_call 40; refine (refplus_any _ _ _ (by first | omega | exact i0 _ (plusI_nonneg _ _) | exact i0 _ (timesI_nonneg _ _)) (by first | omega | exact plusI_le _ _ | exact timesI_le _ _) (by first | omega | exact i0 _ (plusI_nonneg _ _) | exact i0 _ (timesI_nonneg _ _)) (by first | omega | exact plusI_le _ _ | exact timesI_le _ _)).mono ?_; rintro e w' ⟨rfl, rfl⟩) | (go_at_call 41; refine (reftimes_any _ _ _ (by first | omega | exact plusI_le _ _ | exact timesI_le _ _) (by first | omega | exact plusI_le _ _ | exact timesI_le _ _)).mono ?_; rintro e w' ⟨rfl, rfl⟩))
  go_ret
  exact ⟨rfl, rfl⟩
set_option maxHeartbeats 1000000 in
theorem refsolo_any (t c : Int) (w : World) (ht : t ≤ 9223372036854775807) (hc : c ≤ 9223372036854775807) :
    Calls Try.prog 21 #[.int .i64 t, .int .i64 c] w fun e w' => e = .returned (.int .i64 (refSoloI t c)) ∧ w = w' := by
  have pt : (if t < 0 then 0 else t) = posI t := rfl
  have pc : (if c < 0 then 0 else c) = posI c := rfl
  have c0 := posI_nonneg c
  have t0 := posI_nonneg t
  have c1 := posI_le hc
  have t1 := posI_le ht
  have r0 := rootI_nonneg (posI c)
  have r1 := rootI_le c1
  go_enter Try.func21, Try.ntmps21
  go_wp2_with (first | (go_at_call 42; refine (refroot_any _ _ (by omega)).mono ?_; rintro e w' ⟨rfl, rfl⟩) | (go_at_call 40; refine (refplus_any _ _ _ (by first | omega | exact i0 _ (plusI_nonneg _ _) | exact i0 _ (timesI_nonneg _ _)) (by first | omega | exact plusI_le _ _ | exact timesI_le _ _) (by first | omega | exact i0 _ (plusI_nonneg _ _) | exact i0 _ (timesI_nonneg _ _)) (by first | omega | exact plusI_le _ _ | exact timesI_le _ _)).mono ?_; rintro e w' ⟨rfl, rfl⟩) | (go_at_call 41; refine (reftimes_any _ _ _ (by first | omega | exact plusI_le _ _ | exact timesI_le _ _) (by first | omega | exact plusI_le _ _ | exact timesI_le _ _)).mono ?_; rintro e w' ⟨rfl, rfl⟩))
  go_ret
  exact ⟨rfl, rfl⟩
theorem refdeep_any (n : Int) (w : World) (h0 : -9223372036854775808 ≤ n) (h1 : n ≤ 9223372036854775807) :
    Calls Try.prog 22 #[.int .i64 n] w fun e w' => e = .returned (.int .i64 (2 * bitsI n + 2)) ∧ w = w' := by
  have b0 := bitsI_nonneg n
  have b1 := bitsI_le h1
  go_enter Try.func22, Try.ntmps22
  go_wp2_with (go_at_call 43; refine (refbits_any _ _ (by omega) (by omega)).mono ?_; rintro e w' ⟨rfl, rfl⟩)
  go_ret
  exact ⟨rfl, rfl⟩
end Go.Proofs.Ytjlhngffkmbdmaa
