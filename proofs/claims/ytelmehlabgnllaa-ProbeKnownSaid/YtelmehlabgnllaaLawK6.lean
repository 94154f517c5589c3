/- The walk of ProbeKnown. -/
import Derived.Test.YtelmehlabgnllaaKnown6
namespace Go.Proofs.Ytelmehlabgnllaa
set_option linter.unusedVariables false
set_option linter.unusedSimpArgs false
open Go.RowKit

set_option maxHeartbeats 4000000 in
set_option maxRecDepth 100000 in
theorem probeKnown_walk (w : World) : Calls Try.prog 3 #[] w fun e w' => e = .returned (.bool true) ∧ Below w.heap.size w w' := by
  have e0 : rightB [] = true := by decide +kernel
  have e1 : rightB [-9223372036854775808, 0, 9223372036854775807] = true := by decide +kernel
  have e2 : rightB [1, 1] = false := by decide +kernel
  have e3 : rightB [2, 1] = false := by decide +kernel
  have e4 : findI [2, 1] 5 = 0 := by decide +kernel
  have e5 : pathI [1, 1] 5 = [] := by decide +kernel
  have e6 : findI [-9223372036854775808, 0, 9223372036854775807] (-1) = 1 := by decide +kernel
  have e7 : pathI [-9223372036854775808, 0, 9223372036854775807] (-1) = [1, 3, 2] := by decide +kernel
  have e8 : guessI (-9223372036854775808) 9223372036854775807 0 3 = 2 := by decide +kernel
  have e9 : guessI 0 10 10 5 = 0 := by decide +kernel
  have e10 : guessI 0 10 (-1) 5 = 0 := by decide +kernel
  have e11 : guessI 0 10 9 1 = 0 := by decide +kernel
  have e12 : guessI 0 10 9 65537 = 0 := by decide +kernel
  have e13 : guessI 0 10 0 7 = 1 := by decide +kernel
  replace e0 := Lib.hid e0
  replace e1 := Lib.hid e1
  replace e2 := Lib.hid e2
  replace e3 := Lib.hid e3
  replace e4 := Lib.hid e4
  replace e5 := Lib.hid e5
  replace e6 := Lib.hid e6
  replace e7 := Lib.hid e7
  replace e8 := Lib.hid e8
  replace e9 := Lib.hid e9
  replace e10 := Lib.hid e10
  replace e11 := Lib.hid e11
  replace e12 := Lib.hid e12
  replace e13 := Lib.hid e13
  have hB := Below.refl w.heap.size w
  go_enter Try.func3, Try.ntmps3
  go_wp2_with (fail)
  refine (known6_any _).mono ?_
  rintro e V1 ⟨rfl, hb⟩
  have hB' : Below w.heap.size w V1 := below_called (below_laid hB _) hb
  have h_w' : IntsAt V1 V1.heap.size (some ⟨w.heap.size, 0, none⟩) [-9223372036854775808, 0, 9223372036854775807] := IntsAt.called (IntsAt.new _ _ _ _ rfl) hb
  clear hB hb
  have hB := hB'
  clear hB'
  try clear h_w
  have h_w := h_w'
  clear h_w'
  go_wp2_with (fail)
  refine (right_any _ 0 _ [] _ (show IntsAt _ 0 none [] from Reads.none_) (by simp)).mono ?_
  rw [e0.out]
  rintro e V2 ⟨rfl, hd⟩
  have hB' : Below w.heap.size w V2 := below_called hB (hd.below _)
  have h_w' : IntsAt V2 V2.heap.size (some ⟨w.heap.size, 0, none⟩) [-9223372036854775808, 0, 9223372036854775807] := IntsAt.called h_w (hd.below _)
  clear hB 
  have hB := hB'
  clear hB'
  try clear h_w
  have h_w := h_w'
  clear h_w'
  clear hd
  go_wp2_with (fail)
  refine (right_any _ 3 _ [-9223372036854775808, 0, 9223372036854775807] _ h_w (by simp)).mono ?_
  rw [e1.out]
  rintro e V3 ⟨rfl, hd⟩
  have hB' : Below w.heap.size w V3 := below_called hB (hd.below _)
  have h_w' : IntsAt V3 V3.heap.size (some ⟨w.heap.size, 0, none⟩) [-9223372036854775808, 0, 9223372036854775807] := IntsAt.called h_w (hd.below _)
  clear hB 
  have hB := hB'
  clear hB'
  try clear h_w
  have h_w := h_w'
  clear h_w'
  clear hd
  go_wp2_with (fail)
  refine (right_any _ 2 _ [1, 1] _ (IntsAt.new _ _ _ _ rfl) (by simp)).mono ?_
  rw [e2.out]
  rintro e V4 ⟨rfl, hd⟩
  have hB' : Below w.heap.size w V4 := below_called (below_laid hB _) (hd.below _)
  have h_w' : IntsAt V4 V4.heap.size (some ⟨w.heap.size, 0, none⟩) [-9223372036854775808, 0, 9223372036854775807] := IntsAt.called (IntsAt.laid h_w _) (hd.below _)
  clear hB 
  have hB := hB'
  clear hB'
  try clear h_w
  have h_w := h_w'
  clear h_w'
  clear hd
  go_wp2_with (fail)
  refine (right_any _ 2 _ [2, 1] _ (IntsAt.new _ _ _ _ rfl) (by simp)).mono ?_
  rw [e3.out]
  rintro e V5 ⟨rfl, hd⟩
  have hB' : Below w.heap.size w V5 := below_called (below_laid hB _) (hd.below _)
  have h_w' : IntsAt V5 V5.heap.size (some ⟨w.heap.size, 0, none⟩) [-9223372036854775808, 0, 9223372036854775807] := IntsAt.called (IntsAt.laid h_w _) (hd.below _)
  clear hB 
  have hB := hB'
  clear hB'
  try clear h_w
  have h_w := h_w'
  clear h_w'
  clear hd
  go_wp2_with (fail)
  refine (find_any _ 2 [2, 1] 5 _ (IntsAt.new _ _ _ _ rfl) (by simp)).mono ?_
  rw [e4.out]
  rintro e V6 ⟨rfl, hb⟩
  have hB' : Below w.heap.size w V6 := below_called (below_laid hB _) hb
  have h_w' : IntsAt V6 V6.heap.size (some ⟨w.heap.size, 0, none⟩) [-9223372036854775808, 0, 9223372036854775807] := IntsAt.called (IntsAt.laid h_w _) hb
  clear hB hb
  have hB := hB'
  clear hB'
  try clear h_w
  have h_w := h_w'
  clear h_w'
  go_wp2_with (fail)
  refine (path_any _ 2 [1, 1] 5 _ (IntsAt.new _ _ _ _ rfl) (by simp) (by omega) (by omega) (lit_bd _ (by decide))).mono ?_
  rw [e5.out]
  rintro e V7 ⟨A7, c7, rfl, hP, hb⟩
  have hB' : Below w.heap.size w V7 := below_called (below_laid hB _) hb
  have h_w' : IntsAt V7 V7.heap.size (some ⟨w.heap.size, 0, none⟩) [-9223372036854775808, 0, 9223372036854775807] := IntsAt.called (IntsAt.laid h_w _) hb
  clear hB hb
  have hB := hB'
  clear hB'
  try clear h_w
  have h_w := h_w'
  clear h_w'
  clear hP
  go_wp2_with (fail)
  refine (find_any _ 3 [-9223372036854775808, 0, 9223372036854775807] (-1) _ h_w (by simp)).mono ?_
  rw [e6.out]
  rintro e V8 ⟨rfl, hb⟩
  have hB' : Below w.heap.size w V8 := below_called hB hb
  have h_w' : IntsAt V8 V8.heap.size (some ⟨w.heap.size, 0, none⟩) [-9223372036854775808, 0, 9223372036854775807] := IntsAt.called h_w hb
  clear hB hb
  have hB := hB'
  clear hB'
  try clear h_w
  have h_w := h_w'
  clear h_w'
  go_wp2_with (fail)
  refine (path_any _ 3 [-9223372036854775808, 0, 9223372036854775807] (-1) _ h_w (by simp) (by omega) (by omega) (lit_bd _ (by decide))).mono ?_
  rw [e7.out]
  rintro e V9 ⟨A9, c9, rfl, hP, hb⟩
  clear h_w
  have hB' : Below w.heap.size w V9 := below_called hB hb
  clear hB hb
  have hB := hB'
  clear hB'
  go_wp2_with (fail)
  refine (ints_same _ _ _ _ _ _ [1, 3, 2] _ (IntsAt.laid hP _) (IntsAt.new _ _ _ _ rfl) (by simp)).mono ?_
  rintro e V10 ⟨rfl, hd⟩
  clear hP
  have hB' : Below w.heap.size w V10 := below_called (below_laid hB _) (hd.below _)
  clear hB 
  have hB := hB'
  clear hB'
  clear hd
  go_wp2_with (fail)
  refine (guess_any (-9223372036854775808) 9223372036854775807 0 3 _ (by omega) (by omega) (by omega) (by omega) (by omega) (by omega) (by omega) (by omega)).mono ?_
  rw [e8.out]
  rintro e V11 ⟨rfl, hd⟩
  have hB' : Below w.heap.size w V11 := below_called hB (hd.below _)
  clear hB 
  have hB := hB'
  clear hB'
  clear hd
  go_wp2_with (fail)
  refine (guess_any 0 10 10 5 _ (by omega) (by omega) (by omega) (by omega) (by omega) (by omega) (by omega) (by omega)).mono ?_
  rw [e9.out]
  rintro e V12 ⟨rfl, hd⟩
  have hB' : Below w.heap.size w V12 := below_called hB (hd.below _)
  clear hB 
  have hB := hB'
  clear hB'
  clear hd
  go_wp2_with (fail)
  refine (guess_any 0 10 (-1) 5 _ (by omega) (by omega) (by omega) (by omega) (by omega) (by omega) (by omega) (by omega)).mono ?_
  rw [e10.out]
  rintro e V13 ⟨rfl, hd⟩
  have hB' : Below w.heap.size w V13 := below_called hB (hd.below _)
  clear hB 
  have hB := hB'
  clear hB'
  clear hd
  go_wp2_with (fail)
  refine (guess_any 0 10 9 1 _ (by omega) (by omega) (by omega) (by omega) (by omega) (by omega) (by omega) (by omega)).mono ?_
  rw [e11.out]
  rintro e V14 ⟨rfl, hd⟩
  have hB' : Below w.heap.size w V14 := below_called hB (hd.below _)
  clear hB 
  have hB := hB'
  clear hB'
  clear hd
  go_wp2_with (fail)
  refine (guess_any 0 10 9 65537 _ (by omega) (by omega) (by omega) (by omega) (by omega) (by omega) (by omega) (by omega)).mono ?_
  rw [e12.out]
  rintro e V15 ⟨rfl, hd⟩
  have hB' : Below w.heap.size w V15 := below_called hB (hd.below _)
  clear hB 
  have hB := hB'
  clear hB'
  clear hd
  go_wp2_with (fail)
  refine (guess_any 0 10 0 7 _ (by omega) (by omega) (by omega) (by omega) (by omega) (by omega) (by omega) (by omega)).mono ?_
  rw [e13.out]
  rintro e V16 ⟨rfl, hd⟩
  have hB' : Below w.heap.size w V16 := below_called hB (hd.below _)
  clear hB 
  have hB := hB'
  clear hB'
  clear hd
  go_wp2_with (fail)
  go_ret
  exact ⟨rfl, hB⟩
end Go.Proofs.Ytelmehlabgnllaa
