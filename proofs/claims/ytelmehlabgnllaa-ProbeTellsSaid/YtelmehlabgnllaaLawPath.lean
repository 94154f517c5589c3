/- The walk of ProbePath. -/
import Derived.Test.YtelmehlabgnllaaMathPath
namespace Go.Proofs.Ytelmehlabgnllaa
set_option linter.unusedVariables false
set_option linter.unusedSimpArgs false
open Go.RowKit

/-- What the marks say: those of the list are set. -/
def metA (m : Nat) (L : List Int) : Array Value := ((List.range m).map fun (x : Nat) => Value.bool (decide ((x : Int) ∈ L))).toArray
theorem metA_size (m : Nat) (L : List Int) : (metA m L).size = m := by simp [metA]
theorem metA_at {m x : Nat} (L : List Int) (h : x < m) : (metA m L)[x]? = some (.bool (decide ((x : Int) ∈ L))) := by
  simp [metA, h]
theorem metA_set {m x : Nat} (L : List Int) (h : x < m) : (metA m L).setIfInBounds x (.bool true) = metA m (L ++ [(x : Int)]) := by
  apply Array.ext
  · simp [metA]
  · intro i h1 h2
    have hi : i < m := by simpa [metA] using h2
    by_cases e : x = i
    · subst e; simp [metA]
    · rw [Array.getElem_setIfInBounds_ne (by simpa [metA] using hi) e]
      have : ¬ (i : Int) = x := by omega
      simp [metA, this]
theorem metA_made (m : Nat) : madeCells (Value.bool false).cells m = metA m [] := by
  apply Array.ext
  · simp [metA, madeCells]
  · intro i h1 h2
    simp [metA, madeCells, Value.cells, Nat.mod_one]
theorem take_succ_at {p : List Int} {t : Nat} (h : t < p.length) : p.take (t + 1) = p.take t ++ [keyAt p t] := by
  rw [List.take_add_one, List.getElem?_eq_getElem h]
  simp [keyAt, List.getD_eq_getElem?_getD, h]
theorem nodup_take {p : List Int} {t : Nat} (hn : p.Nodup) (h : t < p.length) : keyAt p t ∉ p.take t := by
  have hs : p.take t ++ [keyAt p t] = p.take (t + 1) := (take_succ_at h).symm
  have hn2 : (p.take t ++ [keyAt p t]).Nodup := by rw [hs]; exact hn.sublist (List.take_sublist _ _)
  intro hm
  have := (List.nodup_append.1 hn2).2.2 _ hm (keyAt p t) (by simp)
  exact this rfl
theorem keyAt_mem {p : List Int} {t : Nat} (h : t < p.length) : keyAt p t ∈ p := by
  simp [keyAt, List.getD_eq_getElem?_getD, h]

theorem info_bool : (Try.prog.info? 4).map (fun i => (i.zero, i.size, i.bytes)) = some (some (.bool false), 1, 1) := by kernel_rfl

def MetRel (b m : Nat) (p : List Int) (V : World) (i : Value) (wr : World) : Prop := ∃ t : Nat, t ≤ p.length ∧ i = .int .i64 t ∧ Blk wr b 4 (metA m (p.take t)) ∧ Below b V wr

set_option maxHeartbeats 4000000 in
set_option maxRecDepth 100000 in
theorem probePath_walk (A : Option Addr) (c : Nat) (l : List Int) (a1 : Int) {w : World} (hq : IntsAt w w.heap.size A l) (hl : l.length * 8 ≤ 140737488351232) (hc : l.length ≤ c) (hw : ∀ i, i < l.length → -9223372036854775808 ≤ keyAt l i ∧ keyAt l i ≤ 9223372036854775807) (w1 : (Lit.int .i64 a1).wf = true) :
    Calls Try.prog 6 #[.slice A l.length c, .int .i64 a1] w fun e w' => e = .returned (.bool true) ∧ Below w.heap.size w w' := by
  obtain ⟨l1, u1⟩ := Go.bounds_i64 w1
  obtain ⟨x1, y1⟩ := cut_bd a1 1500 (by omega)
  have hR := Lib.hid (keysL_right l)
  have hlen := keysL_len l
  have HL : (keysL l).length ≤ 60 := by omega
  have HB := Lib.hid (keysL_bd l)
  have HQ := Lib.hid hq
  have HW := Lib.hid hw
  clear hq hw hlen
  obtain ⟨k, hk⟩ : ∃ k, a1 % 1500 - 350 = k := ⟨_, rfl⟩
  have k0 : -9223372036854775808 ≤ k := by omega
  have k1 : k ≤ 9223372036854775807 := by omega
  obtain ⟨f, hf, f1, f2, f3⟩ := findI_split (k := k) hR.out
  have OK := Lib.hid (pathOk hR.out f1 f2 f3)
  have F2 := Lib.hid f2
  have F3 := Lib.hid f3
  clear f2 f3
  obtain ⟨i0, hi0, hz0, hz1, hz2⟩ := info_parts info_bool
  have hmk : ∀ u : World, (Instr.makeSlice 35 (.int .i64 (((keysL l).length : Int) + 2)) (.int .i64 (((keysL l).length : Int) + 2))).run Try.prog u = .ok (.slice (some ⟨u.heap.size, 0, none⟩) ((keysL l).length + 2) ((keysL l).length + 2)) (u.alloc (.cells (metA ((keysL l).length + 2) []) 4)) := by
    intro u
    have := run_make (P := Try.prog) u 35 4 i0 (.bool false) Try.underlying35 hi0 hz0 .i64 .i64 (((keysL l).length : Int) + 2) (((keysL l).length : Int) + 2) (by omega) (by omega) (by rw [hz2]; omega) (by omega)
    have e : (((keysL l).length : Int) + 2).toNat = (keysL l).length + 2 := by omega
    rw [e, hz1, Nat.mul_one, metA_made] at this
    exact this
  have hw5 : ∀ i, i < (keysL l).length → -9223372036854775808 ≤ keyAt (keysL l) i ∧ keyAt (keysL l) i ≤ 9223372036854775807 := fun i hi => by have := HB.out i hi; omega
  have HW5 := Lib.hid hw5
  have hlp := pathI_len (keysL l) k
  clear hw5
  go_enter Try.func6, Try.ntmps6
  go_wp2_with (fail)
  refine (keys_any A c l w HQ.out (by omega) HW.out).mono ?_
  rintro e V1 ⟨A1, c1, rfl, h1, hB1⟩
  go_wp2_with (go_at_call 22; refine (cut_any _ _ _ (by omega) (by omega) (by omega) (by omega)).mono ?_; rintro e w' ⟨rfl, rfl⟩)
  refine (path_any A1 c1 (keysL l) k V1 h1 (by omega) k0 k1 HW5.out).mono ?_
  rintro e V2 ⟨A2, c2, rfl, hp, hb⟩
  have h2 := h1.called hb
  have hB2 := below_called hB1 hb
  clear h1 hb hB1
  go_wp2_with (fail)
  refine (find_any A1 c1 (keysL l) k V2 h2 (by omega)).mono ?_
  rw [hf]
  rintro e V3 ⟨rfl, hb⟩
  have h3 := h2.called hb
  have hp3 := hp.called hb
  have hB3 := below_called hB2 hb
  clear h2 hp hb hB2
  go_wp2_with (fail)
  have hbs := hp3.alloc (Nat.le_refl _) (.cells (metA ((keysL l).length + 2) []) 4)
  have FR := f1
  go_loopw [11, 29] (fun _ i wr => MetRel V3.heap.size ((keysL l).length + 2) (pathI (keysL l) k) V3 i wr) (fun _ i _ => (pathI (keysL l) k).length - (intOf i).toNat)
  case atStart => unfold MetRel; exact ⟨0, by omega, rfl, Blk.new _ _ _, (Below.refl _ _).alloc (Nat.le_refl _) _⟩
  case round =>
    obtain ⟨t, t1, rfl, hblk, hBl⟩ := hrel
    by_cases hlt : t < (pathI (keysL l) k).length
    · obtain ⟨ad, rfl, hbl, hcp⟩ := (hp3.below hBl).cells (by omega)
      have hcell := hcp t hlt
      obtain ⟨r1, r2⟩ := OK.out.range _ (keyAt_mem hlt)
      have hnd := nodup_take OK.out.once hlt
      obtain ⟨z, hz⟩ : ∃ z : Nat, keyAt (pathI (keysL l) k) t = z := ⟨(keyAt (pathI (keysL l) k) t).toNat, by omega⟩
      have htk := Lib.hid (take_succ_at hlt)
      rw [hz] at hcell r1 r2 hnd htk
      have hmet : wr.cell? ⟨V3.heap.size, z, none⟩ = some (.bool false) := by
        rw [hblk.cell, metA_at _ (by omega)]
        simp [hnd]
      have hfz := hblk.frozen z
      have hset := hblk.set_ z (.bool true)
      rw [metA_set _ (by omega)] at hset
      rw [← htk.out] at hset
      have hBs : Below V3.heap.size V3 (wr.setCell ⟨V3.heap.size, z, none⟩ (.bool true)) := hBl.setCell (Nat.le_refl _) _
      have z1 : z < (keysL l).length + 2 := by omega
      clear hcp hnd hz
      go_wp2
      go_roundw
      case rel => unfold MetRel; exact ⟨t + 1, by omega, by go_num, hset, hBs⟩
      case measure => simp [intOf]; omega
    · have ht : t = (pathI (keysL l) k).length := by omega
      subst ht
      rw [List.take_length] at hblk
      have hBw : Below w.heap.size w wr := below_called hB3 hBl
      have hbig : V3.heap.size < wr.heap.size := hblk.lt
      have hq9 := h3.below hBl
      clear hlt
      have hmf : ∀ (V9 : World), Below wr.heap.size wr V9 → ∀ z : Nat, z < (keysL l).length + 2 → (z : Int) ∈ pathI (keysL l) k → V9.cell? ⟨V3.heap.size, z, none⟩ = some (.bool true) := fun V9 hb z hz hm => by
        rw [hb.cell (show V3.heap.size < wr.heap.size from hbig), hblk.cell, metA_at _ hz]
        simp [hm]
      have HM := Lib.hid hmf
      clear hmf
      by_cases hn : (keysL l).length = 0
      · have f0 : f = 0 := by omega
        subst f0
        have hn' : (((keysL l).length : Int) == 0) = true := by simp [hn]
        have hn2 : ((0 : Int) == ((keysL l).length : Int)) = true := by simp [hn]
        go_wp2_with (fail)
        refine (known6_any _).mono ?_
        rintro e V9 ⟨rfl, hb⟩
        have hB9 := below_called hBw hb
        go_wp2_with (fail)
        go_ret
        exact ⟨rfl, hB9⟩
      · obtain ⟨ad, rfl, hbl, hcq⟩ := hq9.cells (by omega)
        by_cases f0 : f = 0
        · subst f0
          have c0 := hcq 0 (by omega)
          rw [add_zero'] at c0
          have g0 := F3.out 0 (by omega) (by omega)
          have hin := Lib.hid (OK.out.high (by omega))
          have hn2 : ((0 : Int) == ((keysL l).length : Int)) = false := by simp; omega
          have hn3 : (0 : Int) < ((keysL l).length : Int) := by omega
          clear hcq
          go_wp2_with (fail)
          refine (known6_any _).mono ?_
          rintro e V9 ⟨rfl, hb⟩
          have hB9 := below_called hBw hb
          have hm1 := HM.out V9 hb 1 (by omega) (by simpa using hin.out)
          go_wp2_with (fail)
          go_ret
          exact ⟨rfl, hB9⟩
        · have c0 := hcq (f - 1) (by omega)
          have g0 := F2.out (f - 1) (by omega)
          have e1 : ((f : Int) - 1).toNat = f - 1 := by omega
          have hlow := Lib.hid (OK.out.low (by omega) (by omega))
          have z0 : ((f : Int) == 0) = false := by simp; omega
          have z1 : (0 : Int) < (f : Int) := by omega
          by_cases fn : f = (keysL l).length
          · have hn2 : ((f : Int) == ((keysL l).length : Int)) = true := by simp [fn]
            have hn3 : ¬ (f : Int) < ((keysL l).length : Int) := by omega
            clear hcq fn
            go_wp2_with (fail)
            refine (known6_any _).mono ?_
            rintro e V9 ⟨rfl, hb⟩
            have hB9 := below_called hBw hb
            have hm1 := HM.out V9 hb f (by omega) hlow.out
            go_wp2_with (fail)
            go_ret
            exact ⟨rfl, hB9⟩
          · have c1 := hcq f (by omega)
            have g1 := F3.out f (by omega) (by omega)
            have hin := Lib.hid (OK.out.high (by omega))
            have hn2 : ((f : Int) == ((keysL l).length : Int)) = false := by simp; omega
            have hn3 : (f : Int) < ((keysL l).length : Int) := by omega
            have e2 : ((f : Int) + 1).toNat = f + 1 := by omega
            clear hcq
            go_wp2_with (fail)
            refine (known6_any _).mono ?_
            rintro e V9 ⟨rfl, hb⟩
            have hB9 := below_called hBw hb
            have hm1 := HM.out V9 hb f (by omega) hlow.out
            have hm2 := HM.out V9 hb (f + 1) (by omega) (by simpa using hin.out)
            go_wp2_with (fail)
            go_ret
            exact ⟨rfl, hB9⟩
end Go.Proofs.Ytelmehlabgnllaa
