/- The walks of package probe. -/
import Derived.Test.YthmcakobpjnnmaaMathG
import Derived.Test.YthmcakobpjnnmaaShare
import Derived.Test.YthmcakobpjnnmaaInts
namespace Go.Proofs.Ythmcakobpjnnmaa
set_option linter.unusedVariables false
set_option linter.unusedSimpArgs false
open Go.RowKit

set_option maxHeartbeats 1000000 in
theorem right_any (A : Option Addr) (c B : Nat) (q : List Int) (w : World) (hq : IntsAt w B A q) (hl : q.length ≤ 140737488351232) :
    Calls Try.prog 62 #[.slice A q.length c] w fun e w' => e = .returned (.bool (rightB q)) ∧ Drawn w w' := by
  by_cases hz : q.length = 0
  · have hR : rightB q = true := by
      have : q = [] := List.eq_nil_of_length_eq_zero hz
      subst this; rfl
    have HR := Lib.hid hR
    clear hR
    go_enter Try.func62, Try.ntmps62
    go_wp2
    go_loop [3] (fun i => i = .int .i64 1) (fun _ => 0)
    case atStart => rfl
    case round =>
      obtain rfl := hrel
      go_wp2
      go_ret
      exact ⟨ret_bool HR.out.symm, Drawn.refl _⟩
  · obtain ⟨ad, rfl, _, hc⟩ := hq.cells (by omega)
    have HC := Lib.hid hc
    clear hc hq
    go_enter Try.func62, Try.ntmps62
    go_wp2
    go_loopw [3] (fun i wr => ∃ (k m : Nat), 1 ≤ k ∧ k ≤ q.length ∧ i = .int .i64 k ∧ ascTo q k = true ∧ wr = w.drewN m) (fun i _ => q.length - (intOf i).toNat)
    case atStart => exact ⟨1, 0, by omega, by omega, rfl, rfl, rfl⟩
    case round =>
      obtain ⟨k, m, k1, k2, rfl, ha, rfl⟩ := hrel
      have HA := Lib.hid ha
      clear ha
      by_cases hlt : k < q.length
      · have c1 := HC.out k hlt
        have c2 := HC.out (k - 1) (by omega)
        by_cases hs : keyAt q (k - 1) < keyAt q k
        · have N := Lib.hid (ascTo_step HA.out k1 hs)
          have hs' : ¬ keyAt q k ≤ keyAt q (k - 1) := by omega
          go_wp2
          go_quiet (fail)
          go_wp2
          go_roundw
          case rel => exact ⟨k + 1, _, by omega, by omega, by go_num, N.out, rfl⟩
          case measure => simp [intOf]; omega
        · have N := Lib.hid (ascTo_no k1 hs hlt)
          have hs' : keyAt q k ≤ keyAt q (k - 1) := by omega
          go_wp2
          go_quiet (fail)
          go_wp2
          go_ret
          exact ⟨ret_bool (by simp [rightB, N.out]), (Drawn.of _ _).trans (Drawn.of _ _)⟩
      · have e : k = q.length := by omega
        subst e
        have N := Lib.hid (show rightB q = decide (q.length ≤ 65536) by unfold rightB asc; rw [HA.out, Bool.true_and])
        go_wp2
        go_ret
        exact ⟨ret_bool (by rw [N.out]; first | rfl | (congr 1; exact propext (by omega))), Drawn.of _ _⟩

end Go.Proofs.Ythmcakobpjnnmaa
