/- The walks of math/bits.Len64, bits.Len, span.Bits, span.Root, span.Plus, span.Times. -/
import Derived.Test.YtblajeildolloaaMath
import Derived.Test.YtblajeildolloaaProg
import Derived.WalkKit
import Derived.WalkSpells
import Derived.Lib.Strings
import Derived.Lib.Slices
import Derived.Lib.Small
import Derived.Lib.Walk
import Derived.Lib.BitFns
import Derived.Lib.Hide
import Derived.Deep.Light
import Derived.Deep.Draws
namespace Go.Proofs.Ytblajeildolloaa
set_option linter.unusedVariables false
set_option linter.unusedSimpArgs false
open Go.RowKit

theorem ret_int {k : IntKind} {a b : Int} (h : a = b) : Ending.returned (.int k a) = .returned (.int k b) := by rw [h]

/-- The world is as it was, but for what was drawn from the tape. -/
def Drawn (w w' : World) : Prop := ∃ m, w' = w.drewN m
theorem Drawn.refl (w : World) : Drawn w w := ⟨0, rfl⟩
theorem Drawn.of (w : World) (n : Nat) : Drawn w (w.drewN n) := ⟨n, rfl⟩
theorem Drawn.trans {w w1 w2 : World} (h : Drawn w w1) (k : Drawn w1 w2) : Drawn w w2 := by
  obtain ⟨m, rfl⟩ := h
  obtain ⟨n, rfl⟩ := k
  exact ⟨m + n, World.drewN_drewN _ _ _⟩
theorem Drawn.grown {w w' : World} (h : Drawn w w') : Grown w w' := by
  obtain ⟨m, rfl⟩ := h
  exact Grown.refl w
theorem grown_trans {W w1 w2 : World} (h : Grown W w1) (k : Grown w1 w2) : Grown W w2 :=
  ⟨World.keptBut_trans h.1 k.1, fun a => (k.2.1 a).trans (h.2.1 a), Nat.le_trans h.2.2 k.2.2⟩

theorem pow_pos2 (j : Nat) : (0 : Int) < 2 ^ j := Int.pow_pos (by decide)
theorem len8tab_size : (Lib.len8tab.size : Int) = 256 := by
  have : Lib.len8tab.size = 256 := by decide +kernel
  omega
/-- The table's byte where one shift by k bits has left y of x. -/
theorem len8_close (x y : Int) (k : Nat) (hk : k ≤ 56) (h : y.toNat < Lib.len8tab.size) (y0 : 0 ≤ y) (y1 : y ≤ 255) (hs : Lib.bitLen x.toNat = k + Lib.bitLen y.toNat) :
    wrap64 ((k : Int) + wrap64 ((Lib.len8tab[y.toNat]'h).toNat : Int)) = (Lib.bitLen x.toNat : Int) := by
  have e : ((Lib.len8tab[y.toNat]'h).toNat : Int) = Lib.len8 y := by
    unfold Lib.len8
    rw [getElem?_pos Lib.len8tab y.toNat h]
    rfl
  have l := Lib.bitLen_le8' y y0 y1
  rw [e, Lib.len8_of y y0 y1, hs]
  unfold wrap64
  omega
theorem len8_close0 (x : Int) (h : x.toNat < Lib.len8tab.size) (y0 : 0 ≤ x) (y1 : x ≤ 255) :
    wrap64 (wrap64 ((Lib.len8tab[x.toNat]'h).toNat : Int)) = (Lib.bitLen x.toNat : Int) := by
  have e : ((Lib.len8tab[x.toNat]'h).toNat : Int) = Lib.len8 x := by
    unfold Lib.len8
    rw [getElem?_pos Lib.len8tab x.toNat h]
    rfl
  have l := Lib.bitLen_le8' x y0 y1
  rw [e, Lib.len8_of x y0 y1]
  unfold wrap64
  omega

set_option maxHeartbeats 4000000 in
set_option maxRecDepth 100000 in
theorem len64_any (x : Int) (w : World) (h0 : 0 ≤ x) (h1 : x ≤ 18446744073709551615) :
    Calls Try.prog 68 #[.int .u64 x] w fun e w' => e = .returned (.int .i64 (Lib.bitLen x.toNat)) ∧ w = w' := by
  go_enter Try.func68, Try.ntmps68
  go_wp2
  all_goals first
    | (go_ret; refine ⟨congrArg Ending.returned (congrArg (Value.int IntKind.i64) ?_), rfl⟩; go_light)
    | (exfalso
       go_light
       have hs := len8tab_size
       omega)
  all_goals first
    | (refine len8_close x (x / 4294967296 / 65536 / 256) 56 (by decide) _ (by omega) (by omega) ?_
       have e : (x / 4294967296 / 65536 / 256).toNat = x.toNat / 72057594037927936 := by omega
       rw [e]
       exact Lib.bitLen_shift56 x.toNat (by omega) (by omega))
    | (refine len8_close x (x / 4294967296 / 65536) 48 (by decide) _ (by omega) (by omega) ?_
       have e : (x / 4294967296 / 65536).toNat = x.toNat / 281474976710656 := by omega
       rw [e]
       exact Lib.bitLen_shift48 x.toNat (by omega) (by omega))
    | (refine len8_close x (x / 4294967296 / 256) 40 (by decide) _ (by omega) (by omega) ?_
       have e : (x / 4294967296 / 256).toNat = x.toNat / 1099511627776 := by omega
       rw [e]
       exact Lib.bitLen_shift40 x.toNat (by omega) (by omega))
    | (refine len8_close x (x / 4294967296) 32 (by decide) _ (by omega) (by omega) ?_
       have e : (x / 4294967296).toNat = x.toNat / 4294967296 := by omega
       rw [e]
       exact Lib.bitLen_shift32 x.toNat (by omega) (by omega))
    | (refine len8_close x (x / 65536 / 256) 24 (by decide) _ (by omega) (by omega) ?_
       have e : (x / 65536 / 256).toNat = x.toNat / 16777216 := by omega
       rw [e]
       exact Lib.bitLen_shift24 x.toNat (by omega) (by omega))
    | (refine len8_close x (x / 65536) 16 (by decide) _ (by omega) (by omega) ?_
       have e : (x / 65536).toNat = x.toNat / 65536 := by omega
       rw [e]
       exact Lib.bitLen_shift16 x.toNat (by omega) (by omega))
    | (refine len8_close x (x / 256) 8 (by decide) _ (by omega) (by omega) ?_
       have e : (x / 256).toNat = x.toNat / 256 := by omega
       rw [e]
       exact Lib.bitLen_shift8 x.toNat (by omega) (by omega))
    | exact len8_close0 x _ (by omega) (by omega)

theorem len_any (x : Int) (w : World) (h0 : 0 ≤ x) (h1 : x ≤ 18446744073709551615) :
    Calls Try.prog 64 #[.int .u64 x] w fun e w' => e = .returned (.int .i64 (Lib.bitLen x.toNat)) ∧ w = w' := by
  go_enter Try.func64, Try.ntmps64
  go_wp2_with (go_at_call 68; refine (len64_any _ _ h0 h1).mono ?_; rintro e w' ⟨rfl, rfl⟩)
  go_ret
  exact ⟨rfl, rfl⟩

theorem bits_any (n : Int) (w : World) (h1 : n ≤ 9223372036854775807) :
    Calls Try.prog 56 #[.int .i64 n] w fun e w' => e = .returned (.int .i64 (bitsI n)) ∧ w = w' := by
  by_cases h : n < 1
  · go_enter Try.func56, Try.ntmps56
    go_wp2
    go_ret
    exact ⟨ret_int (bitsI_low (by omega)).symm, rfl⟩
  · have h0 : 0 ≤ n := by omega
    go_enter Try.func56, Try.ntmps56
    go_wp2_with (go_at_call 64; refine (len_any _ _ (by omega) (by omega)).mono ?_; rintro e w' ⟨rfl, rfl⟩)
    go_ret
    exact ⟨rfl, rfl⟩

end Go.Proofs.Ytblajeildolloaa
