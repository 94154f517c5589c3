/- The walk of chapter 6's examples. -/
import Derived.Test.YtelmehlabgnllaaRefPath
namespace Go.Proofs.Ytelmehlabgnllaa
set_option linter.unusedVariables false
set_option linter.unusedSimpArgs false
open Go.RowKit

theorem IntsAt.new (w : World) (l : List Int) (t : TypeId) (cs : Array Value) (h : cs.toList = l.map (Value.int .i64)) : IntsAt (w.alloc (.cells cs t)) (w.alloc (.cells cs t)).heap.size (some ⟨w.heap.size, 0, none⟩) l := by
  have hs : cs.size = l.length := by rw [← Array.length_toList, h, List.length_map]
  refine ⟨by simp, fun _ => ⟨_, rfl, by simp, fun j u hu => ?_⟩⟩
  have e := Blk.cell (Blk.new w t cs) j
  have a : (⟨w.heap.size, 0, none⟩ : Addr).add j = ⟨w.heap.size, j, none⟩ := by unfold Addr.add; split <;> simp_all
  rw [a, e, ← Array.getElem?_toList, h]
  exact hu
/-- A slice of before, read after a new block. -/
theorem IntsAt.laid {w : World} {A : Option Addr} {l : List Int} (h : IntsAt w w.heap.size A l) (o : Obj) : IntsAt (w.alloc o) (w.alloc o).heap.size A l := (h.alloc (Nat.le_refl _) o).more (by simp)
/-- A slice of before, read after a call. -/
theorem IntsAt.called {w w' : World} {A : Option Addr} {l : List Int} (h : IntsAt w w.heap.size A l) (hb : Below w.heap.size w w') : IntsAt w' w'.heap.size A l := (h.below hb).more hb.size
theorem below_laid {w v : World} (h : Below w.heap.size w v) (o : Obj) : Below w.heap.size w (v.alloc o) := h.alloc h.size o
theorem below_called {w v v' : World} (h : Below w.heap.size w v) (hb : Below v.heap.size v v') : Below w.heap.size w v' := h.trans (hb.mono h.size)
theorem lit_bd (l : List Int) (h : l.all (fun x => decide (-9223372036854775808 ≤ x) && decide (x ≤ 9223372036854775807)) = true) : ∀ i, i < l.length → -9223372036854775808 ≤ keyAt l i ∧ keyAt l i ≤ 9223372036854775807 := by
  intro i hi
  have := List.all_eq_true.1 h (keyAt l i) (by unfold keyAt; rw [List.getD_eq_getElem?_getD, List.getElem?_eq_getElem hi]; exact List.getElem_mem _)
  simpa using this
theorem somePath {l : List Int} {q : List Int} {k : Int} (h : pathI q k = l) {w : World} {e : Ending} {w' : World} (hs : SomeInts (pathI q k) w e w') : SomeInts l w e w' := h ▸ hs

set_option maxHeartbeats 4000000 in
set_option maxRecDepth 100000 in
theorem known6_any (w : World) : Calls Try.prog 10 #[] w fun e w' => e = .returned (.bool true) ∧ Below w.heap.size w w' := by
  have e0 : findI [10, 20, 30, 40] 25 = 2 := by decide +kernel
  have e1 : pathI [10, 20, 30, 40] 25 = [1, 4, 2, 3] := by decide +kernel
  have e2 : pathI [10, 20, 30, 40] 5 = [1] := by decide +kernel
  have e3 : pathI [10, 20, 30, 40] 40 = [1, 4] := by decide +kernel
  have e4 : pathI [7] 9 = [1] := by decide +kernel
  have e5 : pathI [] 1 = [] := by decide +kernel
  have e6 : pathI [0, 1, 2, 3, 1000] 900 = [1, 5, 4] := by decide +kernel
  have e7 : pathI [0, 997, 998, 999, 1000] 500 = [1, 5, 3, 2] := by decide +kernel
  replace e0 := Lib.hid e0
  replace e1 := Lib.hid e1
  replace e2 := Lib.hid e2
  replace e3 := Lib.hid e3
  replace e4 := Lib.hid e4
  replace e5 := Lib.hid e5
  replace e6 := Lib.hid e6
  replace e7 := Lib.hid e7
  have hB := Below.refl w.heap.size w
  go_enter Try.func10, Try.ntmps10
  go_wp2_with (fail)
  refine (find_any _ 4 [10, 20, 30, 40] 25 _ (IntsAt.new _ _ _ _ rfl) (by simp)).mono ?_
  rw [e0.out]
  rintro e V1 ⟨rfl, hb⟩
  have hB' : Below w.heap.size w V1 := below_called (below_laid hB _) hb
  have h_a' : IntsAt V1 V1.heap.size (some ⟨w.heap.size, 0, none⟩) [10, 20, 30, 40] := IntsAt.called (IntsAt.new _ _ _ _ rfl) hb
  clear hB hb
  have hB := hB'
  clear hB'
  try clear h_a
  have h_a := h_a'
  clear h_a'
  go_wp2_with (fail)
  refine (path_any _ 4 [10, 20, 30, 40] 25 _ h_a (by simp) (by omega) (by omega) (lit_bd _ (by decide))).mono ?_
  rw [e1.out]
  rintro e V2 ⟨A2, c2, rfl, hP, hb⟩
  have hB' : Below w.heap.size w V2 := below_called hB hb
  have h_a' : IntsAt V2 V2.heap.size (some ⟨w.heap.size, 0, none⟩) [10, 20, 30, 40] := IntsAt.called h_a hb
  clear hB hb
  have hB := hB'
  clear hB'
  try clear h_a
  have h_a := h_a'
  clear h_a'
  go_wp2_with (fail)
  refine (ints_same _ _ _ _ _ _ [1, 4, 2, 3] _ (IntsAt.laid hP _) (IntsAt.new _ _ _ _ rfl) (by simp)).mono ?_
  rintro e V3 ⟨rfl, hd⟩
  clear hP
  have hB' : Below w.heap.size w V3 := below_called (below_laid hB _) (hd.below _)
  have h_a' : IntsAt V3 V3.heap.size (some ⟨w.heap.size, 0, none⟩) [10, 20, 30, 40] := IntsAt.called (IntsAt.laid h_a _) (hd.below _)
  clear hB 
  have hB := hB'
  clear hB'
  try clear h_a
  have h_a := h_a'
  clear h_a'
  clear hd
  go_wp2_with (fail)
  refine (path_any _ 4 [10, 20, 30, 40] 5 _ h_a (by simp) (by omega) (by omega) (lit_bd _ (by decide))).mono ?_
  rw [e2.out]
  rintro e V4 ⟨A4, c4, rfl, hP, hb⟩
  have hB' : Below w.heap.size w V4 := below_called hB hb
  have h_a' : IntsAt V4 V4.heap.size (some ⟨w.heap.size, 0, none⟩) [10, 20, 30, 40] := IntsAt.called h_a hb
  clear hB hb
  have hB := hB'
  clear hB'
  try clear h_a
  have h_a := h_a'
  clear h_a'
  go_wp2_with (fail)
  refine (ints_same _ _ _ _ _ _ [1] _ (IntsAt.laid hP _) (IntsAt.new _ _ _ _ rfl) (by simp)).mono ?_
  rintro e V5 ⟨rfl, hd⟩
  clear hP
  have hB' : Below w.heap.size w V5 := below_called (below_laid hB _) (hd.below _)
  have h_a' : IntsAt V5 V5.heap.size (some ⟨w.heap.size, 0, none⟩) [10, 20, 30, 40] := IntsAt.called (IntsAt.laid h_a _) (hd.below _)
  clear hB 
  have hB := hB'
  clear hB'
  try clear h_a
  have h_a := h_a'
  clear h_a'
  clear hd
  go_wp2_with (fail)
  refine (path_any _ 4 [10, 20, 30, 40] 40 _ h_a (by simp) (by omega) (by omega) (lit_bd _ (by decide))).mono ?_
  rw [e3.out]
  rintro e V6 ⟨A6, c6, rfl, hP, hb⟩
  clear h_a
  have hB' : Below w.heap.size w V6 := below_called hB hb
  clear hB hb
  have hB := hB'
  clear hB'
  go_wp2_with (fail)
  refine (ints_same _ _ _ _ _ _ [1, 4] _ (IntsAt.laid hP _) (IntsAt.new _ _ _ _ rfl) (by simp)).mono ?_
  rintro e V7 ⟨rfl, hd⟩
  clear hP
  have hB' : Below w.heap.size w V7 := below_called (below_laid hB _) (hd.below _)
  clear hB 
  have hB := hB'
  clear hB'
  clear hd
  go_wp2_with (fail)
  refine (path_any _ 1 [7] 9 _ (IntsAt.new _ _ _ _ rfl) (by simp) (by omega) (by omega) (lit_bd _ (by decide))).mono ?_
  rw [e4.out]
  rintro e V8 ⟨A8, c8, rfl, hP, hb⟩
  have hB' : Below w.heap.size w V8 := below_called (below_laid hB _) hb
  clear hB hb
  have hB := hB'
  clear hB'
  go_wp2_with (fail)
  refine (ints_same _ _ _ _ _ _ [1] _ (IntsAt.laid hP _) (IntsAt.new _ _ _ _ rfl) (by simp)).mono ?_
  rintro e V9 ⟨rfl, hd⟩
  clear hP
  have hB' : Below w.heap.size w V9 := below_called (below_laid hB _) (hd.below _)
  clear hB 
  have hB := hB'
  clear hB'
  clear hd
  go_wp2_with (fail)
  refine (path_any _ 0 [] 1 _ Reads.none_ (by simp) (by omega) (by omega) (lit_bd _ (by decide))).mono ?_
  rw [e5.out]
  rintro e V10 ⟨A10, c10, rfl, hP, hb⟩
  have hB' : Below w.heap.size w V10 := below_called hB hb
  clear hB hb
  have hB := hB'
  clear hB'
  clear hP
  go_wp2_with (fail)
  refine (path_any _ 5 [0, 1, 2, 3, 1000] 900 _ (IntsAt.new _ _ _ _ rfl) (by simp) (by omega) (by omega) (lit_bd _ (by decide))).mono ?_
  rw [e6.out]
  rintro e V11 ⟨A11, c11, rfl, hP, hb⟩
  have hB' : Below w.heap.size w V11 := below_called (below_laid hB _) hb
  clear hB hb
  have hB := hB'
  clear hB'
  go_wp2_with (fail)
  refine (ints_same _ _ _ _ _ _ [1, 5, 4] _ (IntsAt.laid hP _) (IntsAt.new _ _ _ _ rfl) (by simp)).mono ?_
  rintro e V12 ⟨rfl, hd⟩
  clear hP
  have hB' : Below w.heap.size w V12 := below_called (below_laid hB _) (hd.below _)
  clear hB 
  have hB := hB'
  clear hB'
  clear hd
  go_wp2_with (fail)
  refine (path_any _ 5 [0, 997, 998, 999, 1000] 500 _ (IntsAt.new _ _ _ _ rfl) (by simp) (by omega) (by omega) (lit_bd _ (by decide))).mono ?_
  rw [e7.out]
  rintro e V13 ⟨A13, c13, rfl, hP, hb⟩
  have hB' : Below w.heap.size w V13 := below_called (below_laid hB _) hb
  clear hB hb
  have hB := hB'
  clear hB'
  go_wp2_with (fail)
  refine (ints_same _ _ _ _ _ _ [1, 5, 3, 2] _ (IntsAt.laid hP _) (IntsAt.new _ _ _ _ rfl) (by simp)).mono ?_
  rintro e V14 ⟨rfl, hd⟩
  clear hP
  have hB' : Below w.heap.size w V14 := below_called (below_laid hB _) (hd.below _)
  clear hB 
  have hB := hB'
  clear hB'
  clear hd
  go_wp2_with (fail)
  go_ret
  exact ⟨rfl, hB⟩
end Go.Proofs.Ytelmehlabgnllaa
