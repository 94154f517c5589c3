/- The stack of a walk: levels. -/
import Derived.Test.YtblajeildolloaaGreatMemW
import Derived.Deep.RegionHeld3
namespace Go.Proofs.YtblajeildolloaaGreat
set_option linter.unusedVariables false
set_option linter.unusedSimpArgs false
open Go.RowKit

def cellsL (L : List (Int × Int × Int)) : List Value := L.flatMap fun p => [.int .i64 p.1, .int .i64 p.2.1, .int .i64 p.2.2]
theorem cellsL_len : ∀ L, (cellsL L).length = L.length * 3
  | [] => rfl
  | p :: L => by
    have := cellsL_len L
    simp [cellsL] at this ⊢
    omega
theorem cellsL_append (a b : List (Int × Int × Int)) : cellsL (a ++ b) = cellsL a ++ cellsL b := by simp [cellsL]
theorem cellsL_top (L : List (Int × Int × Int)) (x : Int × Int × Int) : cellsL (x :: L).reverse = cellsL L.reverse ++ [.int .i64 x.1, .int .i64 x.2.1, .int .i64 x.2.2] := by
  rw [List.reverse_cons, cellsL_append]; rfl
theorem info_level : (Tryz.prog.info? 184).map (fun i => (i.zero, i.size, i.bytes)) = some (some (.agg #[.int .i64 0, .int .i64 0, .int .i64 0]), 3, 24) := by kernel_rfl
/-- The row of levels, the top last. -/
def LvP (F : Nat → Prop) (lv : Value) (L : List (Int × Int × Int)) (w : World) : Prop := w.ownsRow 0 184 3 lv L.length (cellsL L.reverse) ∧ ∀ g, lv.ownBlock = some g → F g
theorem LvP.head {F : Nat → Prop} {lv : Value} {L : List (Int × Int × Int)} {x : Int × Int × Int} {w : World} (h : LvP F lv (x :: L) w) : ∃ g c, lv = .slice (some ⟨g, 0, none⟩) (L.length + 1) c ∧ F g ∧ g < w.heap.size ∧ L.length + 1 ≤ c ∧ w.cell? ⟨g, L.length * 3, none⟩ = some (.int .i64 x.1) ∧ w.cell? ⟨g, L.length * 3 + 1, none⟩ = some (.int .i64 x.2.1) ∧ w.cell? ⟨g, L.length * 3 + 2, none⟩ = some (.int .i64 x.2.2) := by
  obtain ⟨hO, hF⟩ := h
  obtain ⟨g, c, rfl, _, hlt⟩ := hO.form (by simp)
  have hl : (cellsL L.reverse).length = L.length * 3 := by rw [cellsL_len, List.length_reverse]
  have at_ : ∀ j u, [Value.int .i64 x.1, .int .i64 x.2.1, .int .i64 x.2.2][j]? = some u → w.cell? ⟨g, L.length * 3 + j, none⟩ = some u := fun j u hu => by
    have hj : j < 3 := by
      rcases Nat.lt_or_ge j 3 with h | h
      · exact h
      · rw [List.getElem?_eq_none (by simpa using h)] at hu; cases hu
    rw [hO.cellAt (L.length * 3 + j) (by simp; omega), cellsL_top, List.getElem?_append_right (by omega), hl, Nat.add_sub_cancel_left]
    exact hu
  have hc := own_cap hO
  exact ⟨g, c, by simp, hF g (by simp [Value.ownBlock]), hlt, by simpa using hc, at_ 0 _ rfl, at_ 1 _ rfl, at_ 2 _ rfl⟩
def TopPost (x : Int × Int × Int) (ok : Bool) (w : World) (e : Ending) (w' : World) : Prop := e = .returned (.tuple #[.agg #[.int .i64 x.1, .int .i64 x.2.1, .int .i64 x.2.2], .bool ok]) ∧ Below w.heap.size w w'
set_option maxHeartbeats 1000000 in
theorem topL_nil (b o : Nat) (lv : Value) (w : World) (F : Nat → Prop) (hc : w.cell? ⟨b, o, none⟩ = some lv) (h : LvP F lv [] w) :
    Calls Tryz.prog 183 #[.pointer (some ⟨b, o, none⟩)] w (TopPost (0, 0, 0) false w) := by
  obtain ⟨A, c, rfl⟩ := own_shape h.1
  have hlt : b < w.heap.size := World.block_lt_of_cell? w _ hc
  clear h
  go_enter Tryz.func183, Tryz.ntmps183
  go_wp2_with (fail)
  exact bodyPost_ret (v := .tuple #[.agg #[.int .i64 0, .int .i64 0, .int .i64 0], .bool false]) (by simp [results, Tryz.results183, go_sem]) rfl ⟨rfl, ((Below.refl _ _).alloc (Nat.le_refl _) _).alloc (by simp) _⟩
set_option maxHeartbeats 1000000 in
theorem topL_cons (b o : Nat) (lv : Value) (x : Int × Int × Int) (L : List (Int × Int × Int)) (w : World) (F : Nat → Prop) (hc : w.cell? ⟨b, o, none⟩ = some lv) (h : LvP F lv (x :: L) w) (hl : L.length ≤ 1000000) :
    Calls Tryz.prog 183 #[.pointer (some ⟨b, o, none⟩)] w (TopPost x true w) := by
  obtain ⟨g, c, rfl, _, hlt, hlc, c0, c1, c2⟩ := h.head
  have hbl : b < w.heap.size := World.block_lt_of_cell? w _ hc
  have n1 := World.new_ne w ⟨b, o, none⟩ hc
  have n2 := World.new_ne w _ c0
  have e1 : ((L.length : Int) + 1 == 0) = false := by rw [beq_eq_false_iff_ne]; omega
  have e2 : (L.length : Int) + 1 - 1 = L.length := by omega
  have e3 : (0 : Int) ≤ L.length := by omega
  have e4 : (L.length : Int) < (L.length : Int) + 1 := by omega
  have ew : IntKind.i64.wrap ((L.length : Int) + 1 - 1) = L.length := by rw [e2]; exact IntWalk.i64_in _ ⟨by omega, by omega⟩
  have ew2 : IntKind.i64.wrap (L.length : Int) = L.length := IntWalk.i64_in _ ⟨by omega, by omega⟩
  clear h
  go_enter Tryz.func183, Tryz.ntmps183
  go_wp2_with (fail)
  go_region_held3 (fun w' => w'.cell? ⟨b, o, none⟩ = some (.slice (some ⟨g, 0, none⟩) (L.length + 1) c) ∧ w'.cell? ⟨g, L.length * 3, none⟩ = some (.int .i64 x.1) ∧ w'.cell? ⟨g, L.length * 3 + 1, none⟩ = some (.int .i64 x.2.1) ∧ w'.cell? ⟨g, L.length * 3 + 2, none⟩ = some (.int .i64 x.2.2)) (go_keep) (fail)
  have hB : Below w.heap.size w (w.alloc (.cells #[.int .i64 x.1, .int .i64 x.2.1, .int .i64 x.2.2] 184)).drew := belowD ((Below.refl w.heap.size w).alloc (Nat.le_refl _) _) 1
  go_wp2_with (fail)
  exact bodyPost_ret (v := .tuple #[.agg #[.int .i64 x.1, .int .i64 x.2.1, .int .i64 x.2.2], .bool true]) (by simp [results, Tryz.results183, go_sem]) rfl ⟨rfl, hB⟩
def PopPost (F : Nat → Prop) (b o : Nat) (T : TypeId) (cs : Array Value) (lv : Value) (x : Int × Int × Int) (L : List (Int × Int × Int)) (w : World) (e : Ending) (w' : World) : Prop :=
  e = .returned (.tuple #[.agg #[.int .i64 x.1, .int .i64 x.2.1, .int .i64 x.2.2], .bool true]) ∧ ∃ lv', Blk w' b T (cs.setIfInBounds o lv') ∧ LvP F lv' L w' ∧ lv'.ownBlock = lv.ownBlock ∧ Chg (fun y => y = b ∨ lv.ownBlock = some y) w w'
set_option maxHeartbeats 1000000 in
theorem popL_cons (F : Nat → Prop) (b o : Nat) (T : TypeId) (cs : Array Value) (lv : Value) (x : Int × Int × Int) (L : List (Int × Int × Int)) (w : World) (hb : Blk w b T cs) (hT : 184 ≠ T) (ho : cs[o]? = some lv) (h : LvP F lv (x :: L) w) (hl : L.length ≤ 1000000) :
    Calls Tryz.prog 184 #[.pointer (some ⟨b, o, none⟩)] w (PopPost F b o T cs lv x L w) := by
  have hB0 := (Below.refl w.heap.size w).alloc (Nat.le_refl _) (.cells #[.int .i64 0, .int .i64 0, .int .i64 0] 184)
  have HG0 := Lib.hid (own_lt h.1)
  have H0 := Lib.hid (show LvP F lv (x :: L) (w.alloc (.cells #[.int .i64 0, .int .i64 0, .int .i64 0] 184)) from ⟨own_below h.1 hB0, h.2⟩)
  have HBl := Lib.hid (hb.below hB0 hb.lt)
  have c9 : (w.alloc (.cells #[.int .i64 0, .int .i64 0, .int .i64 0] 184)).cell? ⟨b, o, none⟩ = some lv := (HBl.out.cell o).trans ho
  have C9 := Lib.hid c9
  have hR := Blk.new w 184 #[.int .i64 0, .int .i64 0, .int .i64 0]
  have HR := Lib.hid hR
  clear hR
  have hzz : (w.alloc (.cells #[.int .i64 0, .int .i64 0, .int .i64 0] 184)).heap.size = w.heap.size + 1 := by simp
  have HZZ := Lib.hid hzz
  have HO := Lib.hid ho
  have HT := Lib.hid hT
  clear hzz ho hT
  clear h hb c9
  go_enter Tryz.func184, Tryz.ntmps184
  go_wp2_with (fail)
  generalize w.alloc (.cells #[.int .i64 0, .int .i64 0, .int .i64 0] 184) = w0 at H0 HBl C9 HZZ HR hB0 ⊢
  with_reducible refine (topL_cons b o lv x L _ F C9.out H0.out hl).mono ?_
  rintro e w1 ⟨rfl, hb1⟩
  have HB1 := Lib.hid (hB0.trans (hb1.mono (by rw [HZZ.out]; omega)))
  have HL1 := Lib.hid (show LvP F lv (x :: L) w1 from ⟨own_below H0.out.1 hb1, H0.out.2⟩)
  have HBl1 := Lib.hid (HBl.out.below hb1 HBl.out.lt)
  have hz1 := hb1.size
  have HR1 := Lib.hid (HR.out.below hb1 HR.out.lt)
  clear hb1 H0 HBl C9 hB0 HR
  have hx := Blk.new w1 184 #[.int .i64 x.1, .int .i64 x.2.1, .int .i64 x.2.2]
  have ha1 := (Below.refl w1.heap.size w1).alloc (Nat.le_refl _) (.cells #[.int .i64 x.1, .int .i64 x.2.1, .int .i64 x.2.2] 184)
  have hs1 : (w1.alloc (.cells #[.int .i64 x.1, .int .i64 x.2.1, .int .i64 x.2.2] 184)).heap.size = w1.heap.size + 1 := by simp
  have hn := Blk.new (w1.alloc (.cells #[.int .i64 x.1, .int .i64 x.2.1, .int .i64 x.2.2] 184)) 184 #[.int .i64 0, .int .i64 0, .int .i64 0]
  have ha2 := ha1.alloc (by rw [hs1]; omega) (.cells #[.int .i64 0, .int .i64 0, .int .i64 0] 184)
  rw [hs1] at hn
  have HX3 := Lib.hid (hx.alloc (.cells #[.int .i64 0, .int .i64 0, .int .i64 0] 184))
  have HN3 := Lib.hid hn
  have HL3 := Lib.hid (show LvP F lv (x :: L) ((w1.alloc (.cells #[.int .i64 x.1, .int .i64 x.2.1, .int .i64 x.2.2] 184)).alloc (.cells #[.int .i64 0, .int .i64 0, .int .i64 0] 184)) from ⟨own_below HL1.out.1 ha2, HL1.out.2⟩)
  have HBl3 := Lib.hid (HBl1.out.below ha2 HBl1.out.lt)
  have HR3 := Lib.hid (HR1.out.below ha2 HR1.out.lt)
  have HB3 := Lib.hid (HB1.out.trans (ha2.mono HB1.out.size))
  have hbw : b < w1.heap.size := HBl1.out.lt
  have hrw : w.heap.size < w1.heap.size := HR1.out.lt
  have hbne : w.heap.size ≠ b := HR1.out.ne_ HBl1.out HT.out
  obtain ⟨g, c, rfl, hFg, hgl, hlc, _, _, _⟩ := HL3.out.head
  have c9 : ((w1.alloc (.cells #[.int .i64 x.1, .int .i64 x.2.1, .int .i64 x.2.2] 184)).alloc (.cells #[.int .i64 0, .int .i64 0, .int .i64 0] 184)).cell? ⟨b, o, none⟩ = some (.slice (some ⟨g, 0, none⟩) (L.length + 1) c) := (HBl3.out.cell o).trans HO.out
  have hbg : g ≠ b := fun e => own_blk_ne HL3.out.1 HBl3.out HT.out (by simp [Value.ownBlock, e])
  have hg0 : g < w.heap.size := HG0.out g rfl
  have hgw : g < w1.heap.size := own_lt HL1.out.1 g rfl
  have e2 : (L.length : Int) + 1 - 1 = L.length := by omega
  have e3 : (0 : Int) ≤ L.length := by omega
  have e4 : (L.length : Int) < (L.length : Int) + 1 := by omega
  have ew2 : IntKind.i64.wrap (L.length : Int) = L.length := IntWalk.i64_in _ ⟨by omega, by omega⟩
  have hlc2 : (L.length : Int) ≤ c := by omega
  clear hx hn ha1 ha2 hs1 HL1 HBl1 HR1 HB1
  go_wp2_with (fail)
  generalize (w1.alloc (.cells #[.int .i64 x.1, .int .i64 x.2.1, .int .i64 x.2.2] 184)).alloc (.cells #[.int .i64 0, .int .i64 0, .int .i64 0] 184) = w3 at HX3 HN3 HL3 HBl3 HR3 HB3 c9 hgl ⊢
  have n0 : w3.cell? ⟨w1.heap.size + 1, 0, none⟩ = some (.int .i64 0) := HN3.out.cell 0
  have n1 : w3.cell? ⟨w1.heap.size + 1, 1, none⟩ = some (.int .i64 0) := HN3.out.cell 1
  have n2 : w3.cell? ⟨w1.heap.size + 1, 2, none⟩ = some (.int .i64 0) := HN3.out.cell 2
  obtain ⟨g', c', hge, _, _, _, k0, k1, k2⟩ := HL3.out.head
  have hgg : g = g' := by injection hge with a; injection a with a; injection a
  subst hgg
  clear hge
  have hgf0 := HL3.out.1.frozenAt (L.length * 3)
  have hgf1 := HL3.out.1.frozenAt (L.length * 3 + 1)
  have hgf2 := HL3.out.1.frozenAt (L.length * 3 + 2)
  generalize w1.heap.size = z at n0 n1 n2 hbw hrw hgw HX3 HN3 hz1 ⊢
  have far : ∀ (q : Nat) (t : TypeId) (us : Array Value), Blk w3 q t us → q ≠ g → Blk (((w3.setCell ⟨g, L.length * 3, none⟩ (.int .i64 0)).setCell ⟨g, L.length * 3 + 1, none⟩ (.int .i64 0)).setCell ⟨g, L.length * 3 + 2, none⟩ (.int .i64 0)) q t us := fun q t us h hq => ((h.far (p := ⟨g, L.length * 3, none⟩) hq _).far (p := ⟨g, L.length * 3 + 1, none⟩) hq _).far (p := ⟨g, L.length * 3 + 2, none⟩) hq _
  have HN5 := Lib.hid (far _ _ _ HN3.out (by omega))
  have HX5 := Lib.hid (far _ _ _ HX3.out (by omega))
  have HR5 := Lib.hid (far _ _ _ HR3.out (by omega))
  have HBl5 := Lib.hid (far _ _ _ HBl3.out (fun e => hbg e.symm))
  have HL5 : Hid (LvP F (.slice (some ⟨g, 0, none⟩) L.length c) L (((w3.setCell ⟨g, L.length * 3, none⟩ (.int .i64 0)).setCell ⟨g, L.length * 3 + 1, none⟩ (.int .i64 0)).setCell ⟨g, L.length * 3 + 2, none⟩ (.int .i64 0))) := Lib.hid ⟨by
    obtain ⟨a1, _⟩ := HL3.out.1.stored (L.length * 3) (.int .i64 0)
    obtain ⟨a2, _⟩ := a1.stored (L.length * 3 + 1) (.int .i64 0)
    obtain ⟨a3, _⟩ := a2.stored (L.length * 3 + 2) (.int .i64 0)
    have hl : (cellsL L.reverse).length = L.length * 3 := by rw [cellsL_len, List.length_reverse]
    have hset : (((cellsL (x :: L).reverse).set (L.length * 3) (.int .i64 0)).set (L.length * 3 + 1) (.int .i64 0)).set (L.length * 3 + 2) (.int .i64 0) = cellsL L.reverse ++ [.int .i64 0, .int .i64 0, .int .i64 0] := by
      rw [cellsL_top, ← hl, List.set_append_right _ _ (by omega), List.set_append_right _ _ (by omega), List.set_append_right _ _ (by omega)]
      simp
    rw [hset] at a3
    exact ownsRow_pop hl a3, fun q hq => HL3.out.2 q hq⟩
  have HC5 : Hid (Chg (fun y => y = b ∨ some g = some y) w3 (((w3.setCell ⟨g, L.length * 3, none⟩ (.int .i64 0)).setCell ⟨g, L.length * 3 + 1, none⟩ (.int .i64 0)).setCell ⟨g, L.length * 3 + 2, none⟩ (.int .i64 0))) := Lib.hid ((Chg.of_mv (Mv.set1 w3 g _ _) (.inr rfl)).trans ((Chg.of_mv (Mv.set1 _ g _ _) (.inr rfl)).trans (Chg.of_mv (Mv.set1 _ g _ _) (.inr rfl))))
  clear far HX3 HN3 HR3 HL3 HBl3
  go_region_held3 (fun w' => w'.cell? ⟨b, o, none⟩ = some (.slice (some ⟨g, 0, none⟩) (L.length + 1) c) ∧ w'.cell? ⟨z + 1, 0, none⟩ = some (.int .i64 0) ∧ w'.cell? ⟨z + 1, 1, none⟩ = some (.int .i64 0) ∧ w'.cell? ⟨z + 1, 2, none⟩ = some (.int .i64 0)) (first | exact ⟨(HBl5.out.cell o).trans HO.out, HN5.out.cell 0, HN5.out.cell 1, HN5.out.cell 2⟩ | go_keep) (fail)
  have HX6 : Hid (Blk (((w3.setCell ⟨g, L.length * 3, none⟩ (.int .i64 0)).setCell ⟨g, L.length * 3 + 1, none⟩ (.int .i64 0)).setCell ⟨g, L.length * 3 + 2, none⟩ (.int .i64 0)).drew z 184 #[.int .i64 x.1, .int .i64 x.2.1, .int .i64 x.2.2]) := Lib.hid HX5.out
  have HR6 : Hid (Blk (((w3.setCell ⟨g, L.length * 3, none⟩ (.int .i64 0)).setCell ⟨g, L.length * 3 + 1, none⟩ (.int .i64 0)).setCell ⟨g, L.length * 3 + 2, none⟩ (.int .i64 0)).drew w.heap.size 184 #[.int .i64 0, .int .i64 0, .int .i64 0]) := Lib.hid HR5.out
  have HBl6 : Hid (Blk (((w3.setCell ⟨g, L.length * 3, none⟩ (.int .i64 0)).setCell ⟨g, L.length * 3 + 1, none⟩ (.int .i64 0)).setCell ⟨g, L.length * 3 + 2, none⟩ (.int .i64 0)).drew b T cs) := Lib.hid HBl5.out
  have HL6 : Hid (LvP F (.slice (some ⟨g, 0, none⟩) L.length c) L (((w3.setCell ⟨g, L.length * 3, none⟩ (.int .i64 0)).setCell ⟨g, L.length * 3 + 1, none⟩ (.int .i64 0)).setCell ⟨g, L.length * 3 + 2, none⟩ (.int .i64 0)).drew) := Lib.hid ⟨own_below HL5.out.1 (drawn_bl (Drawn.of _ 1) _), HL5.out.2⟩
  have HC6 : Hid (Chg (fun y => y = b ∨ some g = some y) w (((w3.setCell ⟨g, L.length * 3, none⟩ (.int .i64 0)).setCell ⟨g, L.length * 3 + 1, none⟩ (.int .i64 0)).setCell ⟨g, L.length * 3 + 2, none⟩ (.int .i64 0)).drew) := Lib.hid ((Chg.of_below HB3.out).trans (HC5.out.trans (Chg.of_below (drawn_bl (Drawn.of _ 1) _))))
  clear HX5 HR5 HBl5 HL5 HC5 HN5 HB3 n0 n1 n2 k0 k1 k2 hgf0 hgf1 hgf2
  generalize (((w3.setCell ⟨g, L.length * 3, none⟩ (.int .i64 0)).setCell ⟨g, L.length * 3 + 1, none⟩ (.int .i64 0)).setCell ⟨g, L.length * 3 + 2, none⟩ (.int .i64 0)).drew = w6 at HX6 HR6 HBl6 HL6 HC6 ⊢
  have c9' : w6.cell? ⟨b, o, none⟩ = some (.slice (some ⟨g, 0, none⟩) (L.length + 1) c) := (HBl6.out.cell o).trans HO.out
  have f9' := HBl6.out.frozen o
  have hzb : z ≠ b := fun e => HX6.out.ne_ HBl6.out HT.out e
  have hzr : z ≠ w.heap.size := by omega
  have HX7 := Lib.hid (HX6.out.far (p := ⟨b, o, none⟩) hzb (.slice (some ⟨g, 0, none⟩) L.length c))
  have HR7 := Lib.hid (HR6.out.far (p := ⟨b, o, none⟩) hbne (.slice (some ⟨g, 0, none⟩) L.length c))
  have HBl7 := Lib.hid (HBl6.out.set_ o (.slice (some ⟨g, 0, none⟩) L.length c))
  have HL7 : Hid (LvP F (.slice (some ⟨g, 0, none⟩) L.length c) L (w6.setCell ⟨b, o, none⟩ (.slice (some ⟨g, 0, none⟩) L.length c))) := Lib.hid ⟨ownsRow_setCell_other HL6.out.1 (a := ⟨b, o, none⟩) (fun e => hbg (by simpa [Value.ownBlock] using e)) _, HL6.out.2⟩
  have HC7 : Hid (Chg (fun y => y = b ∨ some g = some y) w (w6.setCell ⟨b, o, none⟩ (.slice (some ⟨g, 0, none⟩) L.length c))) := Lib.hid (HC6.out.trans (Chg.of_mv (Mv.set1 _ b _ _) (.inl rfl)))
  have x0 : (w6.setCell ⟨b, o, none⟩ (.slice (some ⟨g, 0, none⟩) L.length c)).cell? ⟨z, 0, none⟩ = some (.int .i64 x.1) := HX7.out.cell 0
  have x1 : (w6.setCell ⟨b, o, none⟩ (.slice (some ⟨g, 0, none⟩) L.length c)).cell? ⟨z, 1, none⟩ = some (.int .i64 x.2.1) := HX7.out.cell 1
  have x2 : (w6.setCell ⟨b, o, none⟩ (.slice (some ⟨g, 0, none⟩) L.length c)).cell? ⟨z, 2, none⟩ = some (.int .i64 x.2.2) := HX7.out.cell 2
  have r0 : (w6.setCell ⟨b, o, none⟩ (.slice (some ⟨g, 0, none⟩) L.length c)).cell? ⟨w.heap.size, 0, none⟩ = some (.int .i64 0) := HR7.out.cell 0
  have r1 : (w6.setCell ⟨b, o, none⟩ (.slice (some ⟨g, 0, none⟩) L.length c)).cell? ⟨w.heap.size, 1, none⟩ = some (.int .i64 0) := HR7.out.cell 1
  have r2 : (w6.setCell ⟨b, o, none⟩ (.slice (some ⟨g, 0, none⟩) L.length c)).cell? ⟨w.heap.size, 2, none⟩ = some (.int .i64 0) := HR7.out.cell 2
  have q0 := HR7.out.frozen 0
  have q1 := HR7.out.frozen 1
  have q2 := HR7.out.frozen 2
  clear HX6 HR6 HBl6 HL6 HC6
  go_wp2_with (fail)
  have hRf : Blk ((((w6.setCell ⟨b, o, none⟩ (.slice (some ⟨g, 0, none⟩) L.length c)).setCell ⟨w.heap.size, 0, none⟩ (.int .i64 x.1)).setCell ⟨w.heap.size, 1, none⟩ (.int .i64 x.2.1)).setCell ⟨w.heap.size, 2, none⟩ (.int .i64 x.2.2)) w.heap.size 184 #[.int .i64 x.1, .int .i64 x.2.1, .int .i64 x.2.2] := ((HR7.out.set_ 0 _).set_ 1 _).set_ 2 _
  have hBf : Blk ((((w6.setCell ⟨b, o, none⟩ (.slice (some ⟨g, 0, none⟩) L.length c)).setCell ⟨w.heap.size, 0, none⟩ (.int .i64 x.1)).setCell ⟨w.heap.size, 1, none⟩ (.int .i64 x.2.1)).setCell ⟨w.heap.size, 2, none⟩ (.int .i64 x.2.2)) b T (cs.setIfInBounds o (.slice (some ⟨g, 0, none⟩) L.length c)) := ((HBl7.out.far (p := ⟨w.heap.size, 0, none⟩) (fun e => hbne e.symm) _).far (p := ⟨w.heap.size, 1, none⟩) (fun e => hbne e.symm) _).far (p := ⟨w.heap.size, 2, none⟩) (fun e => hbne e.symm) _
  have hcf : Chg (fun y => y = w.heap.size) (w6.setCell ⟨b, o, none⟩ (.slice (some ⟨g, 0, none⟩) L.length c)) ((((w6.setCell ⟨b, o, none⟩ (.slice (some ⟨g, 0, none⟩) L.length c)).setCell ⟨w.heap.size, 0, none⟩ (.int .i64 x.1)).setCell ⟨w.heap.size, 1, none⟩ (.int .i64 x.2.1)).setCell ⟨w.heap.size, 2, none⟩ (.int .i64 x.2.2)) := (Chg.of_mv (F := fun y => y = w.heap.size) (Mv.set1 _ w.heap.size _ _) rfl).trans ((Chg.of_mv (F := fun y => y = w.heap.size) (Mv.set1 _ w.heap.size _ _) rfl).trans (Chg.of_mv (F := fun y => y = w.heap.size) (Mv.set1 _ w.heap.size _ _) rfl))
  have hLf : LvP F (.slice (some ⟨g, 0, none⟩) L.length c) L ((((w6.setCell ⟨b, o, none⟩ (.slice (some ⟨g, 0, none⟩) L.length c)).setCell ⟨w.heap.size, 0, none⟩ (.int .i64 x.1)).setCell ⟨w.heap.size, 1, none⟩ (.int .i64 x.2.1)).setCell ⟨w.heap.size, 2, none⟩ (.int .i64 x.2.2)) := ⟨hcf.own HL7.out.1 (fun q hq e => by
    have h1 : g = q := by simpa [Value.ownBlock] using hq
    omega), HL7.out.2⟩
  have hCf := HC7.out.grow hcf (fun y hy => .inr (by omega))
  have rc0 := hRf.cell 0
  have rc1 := hRf.cell 1
  have rc2 := hRf.cell 2
  have HBf := Lib.hid hBf
  have HLf := Lib.hid hLf
  have HCf := Lib.hid hCf
  clear hBf hLf hCf
  clear hRf hcf HR7 HBl7 HL7 HC7 HX7 x0 x1 x2 r0 r1 r2 q0 q1 q2 c9' f9'
  generalize ((((w6.setCell ⟨b, o, none⟩ (.slice (some ⟨g, 0, none⟩) L.length c)).setCell ⟨w.heap.size, 0, none⟩ (.int .i64 x.1)).setCell ⟨w.heap.size, 1, none⟩ (.int .i64 x.2.1)).setCell ⟨w.heap.size, 2, none⟩ (.int .i64 x.2.2)) = wf at rc0 rc1 rc2 HBf HLf HCf ⊢
  have rd0 : wf.cell? ⟨w.heap.size, 0, none⟩ = some (.int .i64 x.1) := rc0
  have rd1 : wf.cell? ⟨w.heap.size, 1, none⟩ = some (.int .i64 x.2.1) := rc1
  have rd2 : wf.cell? ⟨w.heap.size, 2, none⟩ = some (.int .i64 x.2.2) := rc2
  exact bodyPost_ret (v := .tuple #[.agg #[.int .i64 x.1, .int .i64 x.2.1, .int .i64 x.2.2], .bool true]) (by simp [results, Tryz.results184, go_sem, rd0, rd1, rd2]) rfl ⟨rfl, _, HBf.out, HLf.out, rfl, HCf.out⟩
end Go.Proofs.YtblajeildolloaaGreat
