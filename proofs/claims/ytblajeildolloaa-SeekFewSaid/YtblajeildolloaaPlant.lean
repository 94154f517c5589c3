/- plant: made, lay, Right, Build. -/
import Derived.Test.YtblajeildolloaaPlantM
import Derived.Test.YtblajeildolloaaMemW
import Derived.Test.YtblajeildolloaaPartD
import Derived.Deep.RegionHeld3
namespace Go.Proofs.Ytblajeildolloaa
set_option linter.unusedVariables false
set_option linter.unusedSimpArgs false
open Go.RowKit

set_option maxHeartbeats 400000 in
theorem leafW_any (k x : Int) (w : World) : Calls Try.prog 43 #[.int .i64 k, .int .i64 x] w fun e w' => e = .returned (.slice (some ⟨w.heap.size, 0, none⟩) 2 2) ∧ IntsAt w' (w.heap.size + 1) (some ⟨w.heap.size, 0, none⟩) [k, x] ∧ Below w.heap.size w w' ∧ w'.heap.size = w.heap.size + 1 := by
  have H : Hid (IntsAt (w.alloc (.cells #[.int .i64 k, .int .i64 x] 2)) (w.heap.size + 1) (some ⟨w.heap.size, 0, none⟩) [k, x]) := Lib.hid (ints_row w 2 [k, x])
  go_enter Try.func43, Try.ntmps43
  go_wp2_with (fail)
  go_ret
  exact ⟨rfl, H.out, (Below.refl _ _).alloc (Nat.le_refl _) _, by simp⟩
theorem leafD_any (k x : Int) (w : World) : Calls Try.prog 43 #[.int .i64 k, .int .i64 x] w.drew fun e w' => e = .returned (.slice (some ⟨w.heap.size, 0, none⟩) 2 2) ∧ IntsAt w' w'.heap.size (some ⟨w.heap.size, 0, none⟩) [k, x] ∧ Below w.heap.size w w' ∧ w'.heap.size = w.heap.size + 1 :=
  (leafW_any k x w.drew).mono fun e w' ⟨h1, h2, h3, h4⟩ => ⟨h1, h2.more (Nat.le_of_eq h4.symm), belowDrew h3, h4⟩
/-- What a change of the memory turns: its own block and its row. -/
def MemF (b : Nat) (v : Value) (x : Nat) : Prop := x = b ∨ v.ownBlock = some x
theorem MemF.of_mv {b : Nat} {v : Value} {w w' : World} (m : Mv b v.ownBlock w w') : Chg (MemF b v) w w' := ⟨m.os, m.tape, m.output, m.size, fun k hk hn => m.block k hk (fun e => hn (.inl e)) (fun e => hn (.inr e.symm))⟩
/-- The row of a memory behind a change is the old one or new. -/
def RowNew (v v' : Value) (n : Nat) : Prop := v'.ownBlock = v.ownBlock ∨ ∃ g, v'.ownBlock = some g ∧ n ≤ g
theorem RowNew.refl (v : Value) (n : Nat) : RowNew v v n := .inl rfl
theorem RowNew.trans {v v1 v2 : Value} {n m : Nat} (h : RowNew v v1 n) (k : RowNew v1 v2 m) (hm : n ≤ m) : RowNew v v2 n := by
  rcases k with k | ⟨g, k, hg⟩
  · rcases h with h | ⟨g, h, hg⟩
    · exact .inl (k.trans h)
    · exact .inr ⟨g, k.trans h, hg⟩
  · exact .inr ⟨g, k, by omega⟩
theorem RowNew.memF {b : Nat} {v v' : Value} {n x : Nat} (h : RowNew v v' n) (hx : MemF b v' x) : MemF b v x ∨ n ≤ x := by
  rcases hx with hx | hx
  · exact .inl (.inl hx)
  · rcases h with h | ⟨g, h, hg⟩
    · exact .inl (.inr (h ▸ hx))
    · rw [h] at hx; injection hx with hx; exact .inr (by omega)
def MadePost (B b : Nat) (v : Value) (C : List Int) (size count odd ref kind : Int) (q : List Int) (w : World) (e : Ending) (w' : World) : Prop :=
  e = .returned (.int .i64 (wOf kind ((C.length : Int) + 1))) ∧ ∃ v', MemP B b v' (C ++ q) size (bump count) odd ref w' ∧ Chg (MemF b v) w w' ∧ RowNew v v' w.heap.size
set_option maxHeartbeats 400000 in
theorem made_ok (B b : Nat) (v : Value) (C : List Int) (size count odd ref kind : Int) (w : World) (h : MemP B b v C size count odd ref w) (hs2 : size ≤ 65536) (A : Option Addr) (c : Nat) (q : List Int) (N : Nat) (hN : N = q.length) (hq : IntsAt w w.heap.size A q) (hA : ∀ ad, A = some ad → ad.block ≠ b) (h0 : 0 < q.length) (h1 : (q.length : Int) ≤ size - C.length) :
    Calls Try.prog 42 #[.pointer (some ⟨b, 0, none⟩), .int .i64 kind, .slice A N c] w (MadePost B b v C size count odd ref kind q w) := by
  have H := Lib.hid h
  have HN := Lib.hid hN
  have HQ := Lib.hid hq
  clear h hN hq
  go_enter Try.func42, Try.ntmps42
  go_wp2_with (fail)
  with_reducible refine (make_ok B b v C size count odd ref _ H.out (by omega) hs2 A c q N HN.out HQ.out hA h0 h1).mono ?_
  rintro e w1 ⟨rfl, v1, hm, m1, hv⟩
  have HM := Lib.hid hm
  have HC := Lib.hid (MemF.of_mv m1)
  have HV : Hid (RowNew v v1 w.heap.size) := Lib.hid hv
  clear hm m1 hv H HQ
  go_wp2_with (fail)
  with_reducible refine (of_any _ _ _).mono ?_
  rintro e w2 ⟨rfl, rfl⟩
  go_wp2_with (fail)
  go_ret
  exact ⟨rfl, v1, HM.out, HC.out, HV.out⟩
def LayPost (B b : Nat) (v : Value) (C : List Int) (size odd ref : Int) (f : Nat) (l : List (Int × Int)) (w : World) (e : Ending) (w' : World) : Prop :=
  e = .returned (.int .i64 (layF f C l).2) ∧ ∃ v' count', MemP B b v' (layF f C l).1 size count' odd ref w' ∧ Chg (MemF b v) w w' ∧ RowNew v v' w.heap.size
/-- The list lies apart from the memory. -/
def Apart (A : Option Addr) (b : Nat) (v : Value) : Prop := ∀ ad, A = some ad → ¬ MemF b v ad.block
section
variable (B b : Nat) (size odd ref : Int) (hs2 : size ≤ 65536)
set_option maxHeartbeats 1000000 in
theorem lay0_any (f : Nat) (v : Value) (C : List Int) (count : Int) (A : Option Addr) (c : Nat) (w : World) (hs2 : size ≤ 65536) (h : MemP B b v C size count odd ref w) (hroom : (C.length : Int) + 1 ≤ size) :
    Calls Try.prog 23 #[.pointer (some ⟨b, 0, none⟩), .slice A 0 c] w (LayPost B b v C size odd ref (f + 1) [] w) := by
  have HL := Lib.hid (show layF (f + 1) C [] = (C ++ [0], wOf 1 ((C.length : Int) + 1)) from rfl)
  have hblt := h.blk.lt
  have H := Lib.hid h
  clear h
  go_enter Try.func23, Try.ntmps23
  go_wp2_with (fail)
  with_reducible refine (emptyW_any _).mono ?_
  rintro e w1 ⟨rfl, hq, hb⟩
  have HM := Lib.hid (H.out.below hb)
  have HB := Lib.hid hb
  have hz : w.heap.size + 1 ≤ w1.heap.size := by
    obtain ⟨ad, e, h1, h2⟩ := hq.2 (by simp)
    injection e with e
    subst e
    have := World.block_lt_of_cell? w1 _ (h2 0 _ rfl)
    rw [block_of_add] at this
    exact this
  have HQ := Lib.hid (hq.more hz)
  clear hq hb H
  go_wp2_with (fail)
  with_reducible refine (made_ok B b v C size count odd ref 1 _ HM.out hs2 (some ⟨w.heap.size, 0, none⟩) 1 ([0] : List Int) 1 (by kernel_rfl) HQ.out (fun ad ha => by injection ha with ha; subst ha; show w.heap.size ≠ b; omega) (by simp) (by simp; omega)).mono ?_
  rintro e w2 ⟨rfl, v2, hm, hc, hv⟩
  have HM2 := Lib.hid hm
  have HC : Hid (Chg (MemF b v) w w2) := Lib.hid ((Chg.of_below HB.out).trans hc)
  have HV : Hid (RowNew v v2 w.heap.size) := Lib.hid ((RowNew.refl v w.heap.size).trans hv HB.out.size)
  clear hm hc hv HM HB HQ
  go_wp2_with (fail)
  go_ret
  unfold LayPost
  rw [HL.out]
  exact ⟨rfl, v2, _, HM2.out, HC.out, HV.out⟩
set_option maxHeartbeats 1000000 in
theorem lay1_any (f : Nat) (v : Value) (C : List Int) (count : Int) (A : Option Addr) (c : Nat) (x : Int × Int) (w : World) (hs2 : size ≤ 65536) (h : MemP B b v C size count odd ref w) (hq : PairsAt w w.heap.size A [x]) (hsep : Apart A b v) (hroom : (C.length : Int) + 2 ≤ size) :
    Calls Try.prog 23 #[.pointer (some ⟨b, 0, none⟩), .slice A 1 c] w (LayPost B b v C size odd ref (f + 1) [x] w) := by
  have HL := Lib.hid (show layF (f + 1) C [x] = (C ++ [x.1, x.2], wOf 2 ((C.length : Int) + 1)) from rfl)
  have hblt := h.blk.lt
  obtain ⟨ad, rfl, hlt, hcell⟩ := hq.2 (by simp)
  have c0 : w.cell? ad = some (.int .i64 x.1) := hcell 0 _ rfl
  have c1 : w.cell? { block := ad.block, off := ad.off + 1 } = some (.int .i64 x.2) := hcell 1 _ rfl
  have H := Lib.hid h
  have HCE := Lib.hid hcell
  clear h hcell
  clear hq
  go_enter Try.func23, Try.ntmps23
  go_wp2_with (fail)
  have HMd : Hid (MemP B b v C size count odd ref w.drew) := Lib.hid (H.out.below (drawn_bl (Drawn.of w 1) _))
  go_region_held3 (fun w' => w'.cell? ad = some (.int .i64 x.1) ∧ w'.cell? { block := ad.block, off := ad.off + 1 } = some (.int .i64 x.2)) (first | go_keep | exact ⟨K1.out.1, K1.out.2⟩ | exact ⟨K2.out.1, K2.out.2⟩) (first | (go_at_call 43; (with_reducible refine (leafD_any _ _ w).mono ?_); rintro e w1 ⟨rfl, hq, hb, hz⟩; have K1 := Lib.hid (show w1.cell? ad = some (.int .i64 x.1) ∧ w1.cell? { block := ad.block, off := ad.off + 1 } = some (.int .i64 x.2) from ⟨(hb.cell hlt).trans c0, (hb.cell (p := { block := ad.block, off := ad.off + 1 }) hlt).trans c1⟩); have HM1 := Lib.hid (H.out.below hb); have BB1 := Lib.hid hb; have HZ := Lib.hid hz; have HQ := Lib.hid hq; clear hq hb hz) | (go_at_call 42; (with_reducible refine (made_ok B b v C size count odd ref 2 _ HM1.out hs2 (some ⟨w.heap.size, 0, none⟩) 2 ([x.1, x.2] : List Int) 2 (by kernel_rfl) HQ.out (fun ad ha => by injection ha with ha; subst ha; show w.heap.size ≠ b; omega) (by simp) (by simp; omega)).mono ?_); rintro e w2 ⟨rfl, v2, hm, hc, hv⟩; have K2 : Hid (w2.cell? ad = some (.int .i64 x.1) ∧ w2.cell? { block := ad.block, off := ad.off + 1 } = some (.int .i64 x.2)) := Lib.hid ⟨(World.cell?_of_block (hc.block ad.block (by rw [HZ.out]; omega) (hsep ad rfl))).trans K1.out.1, (World.cell?_of_block (a := { block := ad.block, off := ad.off + 1 }) (hc.block ad.block (by rw [HZ.out]; omega) (hsep ad rfl))).trans K1.out.2⟩; have HM2 := Lib.hid hm; have HC : Hid (Chg (MemF b v) w w2) := Lib.hid ((Chg.of_below BB1.out).trans hc); have HV : Hid (RowNew v v2 w.heap.size) := Lib.hid ((RowNew.refl v w.heap.size).trans hv BB1.out.size); clear hm hc hv))
  go_wp2_with (fail)
  go_ret
  unfold LayPost
  rw [HL.out]
  exact ⟨rfl, v2, _, HM2.out, HC.out, HV.out⟩
end
/-- A slice of the call's own lies apart from the memory. -/
def Sep (u : Value) (b : Nat) (v : Value) : Prop := ∀ g, u.ownBlock = some g → ¬ MemF b v g
theorem PairsAt.chg {F : Nat → Prop} {w w' : World} {B : Nat} {A : Option Addr} {l : List (Int × Int)} (h : PairsAt w B A l) (m : Chg F w w') (hB : B ≤ w.heap.size) (hA : ∀ ad, A = some ad → ¬ F ad.block) : PairsAt w' B A l :=
  ⟨h.1, fun hn => by
    obtain ⟨ad, e, hb, hc⟩ := h.2 hn
    refine ⟨ad, e, hb, fun j u hu => (World.cell?_of_block (m.block _ (by rw [block_of_add]; omega) (by rw [block_of_add]; exact hA ad e))).trans (hc j u hu)⟩⟩
structure LayRel (B b : Nat) (v : Value) (C : List Int) (size odd ref : Int) (f : Nat) (A : Option Addr) (l : List (Int × Int)) (w : World) (i : Nat) (kv cv : Value) (wr : World) : Prop where
  keys : wr.ownsRow w.heap.size 2 1 kv (keysTo l i).length ((keysTo l i).map (Value.int .i64))
  words : wr.ownsRow w.heap.size 2 1 cv (layTo (layF f) C l i).2.length ((layTo (layF f) C l i).2.map (Value.int .i64))
  mem : ∃ v' count', MemP B b v' (layTo (layF f) C l i).1 size count' odd ref wr ∧ RowNew v v' w.heap.size ∧ Sep kv b v' ∧ Sep cv b v'
  dj : kv.ownBlock = none ∨ kv.ownBlock ≠ cv.ownBlock
  chg : Chg (MemF b v) w wr
def LayLoop (B b : Nat) (v : Value) (C : List Int) (size odd ref : Int) (f D : Nat) (A : Option Addr) (l : List (Int × Int)) (w : World) (kv cv iv : Value) (wr : World) : Prop := ∃ i : Nat, i ≤ D ∧ iv = .int .i64 (i : Int) ∧ LayRel B b v C size odd ref f A l w i kv cv wr
set_option maxRecDepth 100000 in
set_option maxHeartbeats 2000000 in
theorem lay_any (B b : Nat) (size odd ref : Int) (hs2 : size ≤ 65536) : ∀ (f : Nat) (v : Value) (C : List Int) (count : Int) (A : Option Addr) (c N : Nat) (l : List (Int × Int)) (w : World), N = l.length → l.length < f → l.length ≤ 16384 → MemP B b v C size count odd ref w → PairsAt w w.heap.size A l → l.length ≤ c → Apart A b v → (C.length : Int) + cellsI l.length ≤ size →
    Calls Try.prog 23 #[.pointer (some ⟨b, 0, none⟩), .slice A N c] w (LayPost B b v C size odd ref f l w)
  | 0, v, C, count, A, c, N, l, w, _, h, _, _, _, _, _, _ => absurd h (by omega)
  | f + 1, v, C, count, A, c, N, l, w, hN, hf, hl, hm, hq, hc, hsep, hroom => by
    subst hN
    rcases l with _ | ⟨x, l0⟩
    · exact lay0_any B b size odd ref f v C count A c w hs2 hm (by have := cellsI_zero; simp at hroom; omega)
    · rcases l0 with _ | ⟨y, l1⟩
      · exact lay1_any B b size odd ref f v C count A c x w hs2 hm hq hsep (by have := cellsI_one; simp at hroom; omega)
      · obtain ⟨l, hle⟩ : ∃ l, x :: y :: l1 = l := ⟨_, rfl⟩
        have h2 : 2 ≤ l.length := by rw [← hle]; simp
        rw [hle] at hf hl hq hc hroom ⊢
        clear hle x y l1
        have hd := degreeI_bd (n := l.length) (by omega) (by omega)
        obtain ⟨D, hD⟩ : ∃ D : Nat, degreeI l.length = D := ⟨(degreeI l.length).toNat, by omega⟩
        have hDt : (degreeI l.length).toNat = D := by omega
        have HD := Lib.hid hD
        have hD2 : 2 ≤ D := by omega
        have hD3 : D ≤ 128 := by omega
        have HL := Lib.hid (show layF (f + 1) C l = ((layTo (layF f) C l D).1 ++ innerW l.length (keysTo l D) (layTo (layF f) C l D).2, wOf 3 (((layTo (layF f) C l D).1.length : Int) + 1)) by
          unfold layF; rw [if_neg (by omega), if_neg (by omega), hDt])
        have hn0 : ((l.length : Int) == 0) = false := by rw [beq_eq_false_iff_ne]; omega
        have hn1 : ((l.length : Int) == 1) = false := by rw [beq_eq_false_iff_ne]; omega
        obtain ⟨ad, rfl, _, _⟩ := hq.2 (by omega)
        obtain ⟨i0, hi0, hz0, hz1, hz2⟩ := info_parts info_int64m
        have HCL := Lib.hid (lay_to C l f hf hl h2)
        rw [hD, show ((D : Nat) : Int).toNat = D from Int.toNat_natCast D] at HCL
        have HCE : Hid (cellsTo l.length D = cellsI l.length) := Lib.hid (by have := cellsTo_all (n := l.length) (by omega) (by omega); rw [hDt] at this; exact this)
        have HM := Lib.hid hm
        have HQ := Lib.hid hq
        have HS := Lib.hid hsep
        have HR := Lib.hid hroom
        clear hm hq hsep hroom hd hDt
        go_enter Try.func23, Try.ntmps23
        go_wp2_with (fail)
        with_reducible refine (pDegree_any _ _ (by omega) (by omega)).mono ?_
        rintro e w0 ⟨rfl, rfl⟩
        rw [hD]
        clear hD
        go_wp2_with (fail)
        go_loopw [6, 7, 33] (fun kv cv iv wr => LayLoop B b v C size odd ref f D (some ad) l w kv cv iv wr) (fun _ _ iv _ => D - (intOf iv).toNat)
        case atStart =>
          unfold LayLoop
          exact ⟨0, by omega, rfl, ⟨World.ownsRow_nil _ _ _ _, World.ownsRow_nil _ _ _ _, ⟨v, count, HM.out, RowNew.refl _ _, fun g hg => by simp [Value.ownBlock] at hg, fun g hg => by simp [Value.ownBlock] at hg⟩, .inl rfl, Chg.refl _ _⟩⟩
        case round =>
          obtain ⟨i, i1, rfl, hrel⟩ := hrel
          by_cases hlt : i < D
          · obtain ⟨p1, p2, p3, p4, p5⟩ := part_len (l := l) h2 hl (i := i) (by rw [HD.out]; omega)
            obtain ⟨F, hF⟩ : ∃ F : Nat, fromI l.length i = F := ⟨(fromI l.length i).toNat, by omega⟩
            obtain ⟨Z, hZ⟩ : ∃ Z : Nat, sizeI l.length i = Z := ⟨(sizeI l.length i).toNat, by omega⟩
            have HREL := Lib.hid hrel
            have HFE := Lib.hid hF
            have HZE := Lib.hid hZ
            clear hrel
            go_wp2_with (fail)
            with_reducible refine (pFrom_any _ _ _ (by omega) (by omega)).mono ?_
            rintro e w1 ⟨rfl, hdr⟩
            rw [hF]
            rw [hF, hZ] at p1 p5
            rw [hZ] at p3 p4
            rw [hF] at p2
            have hbD := drawn_bl hdr wr.heap.size
            obtain ⟨v1, count1, hm1, hv1, hsk1, hsc1⟩ := HREL.out.mem
            have hz1 := HREL.out.chg.size
            have hz2 := hbD.size
            have HM1 := Lib.hid (hm1.below hbD)
            have HK1 := Lib.hid (own_below HREL.out.keys hbD)
            have HW1 := Lib.hid (own_below HREL.out.words hbD)
            have HC1 : Hid (Chg (MemF b v) w w1) := Lib.hid (HREL.out.chg.trans (Chg.of_below hbD))
            have HQ1 : Hid (PairsAt w1 w1.heap.size (some ad) l) := Lib.hid ((HQ.out.chg HC1.out (Nat.le_refl _) HS.out).more (show w.heap.size ≤ w1.heap.size by omega))
            have HDJ := Lib.hid HREL.out.dj
            have HV1 := Lib.hid hv1
            have HSK1 := Lib.hid hsk1
            have HSC1 := Lib.hid hsc1
            clear hv1 hsk1 hsc1
            have hF0 : ¬ c = F := by omega
            clear hdr hbD hm1 hz2 HREL hF hZ
            have hb0 : w.heap.size ≤ w1.heap.size := HC1.out.size
            clear hz1
            by_cases hiz : i = 0
            · subst hiz
              have HK2 : Hid (w1.ownsRow w.heap.size 2 1 u6 (keysTo l (0 + 1)).length ((keysTo l (0 + 1)).map (Value.int .i64))) := HK1
              go_wp2_with (fail)
              with_reducible refine (pSize_any _ _ _ (by omega) (by omega) (by omega) (by omega)).mono ?_
              rintro e wz ⟨rfl, rfl⟩
              rw [show sizeI l.length 0 = Z from HZE.out]
              have hFZ : (F : Int) + (Z : Int) ≤ c := by omega
              have hQp : PairsAt w1 w1.heap.size (some (ad.add (F * 2))) ((l.drop F).take Z) := by
                have h1 := HQ1.out.cut (n := F) (by omega)
                have h2 : PairsAt w1 w1.heap.size (some (ad.add (F * 2))) (l.drop F) := by unfold PairsAt; rw [List.length_drop]; exact h1
                have h3 := h2.take (n := Z) (by rw [List.length_drop]; omega)
                unfold PairsAt
                rw [show ((l.drop F).take Z).length = Z by rw [List.length_take, List.length_drop]; omega]
                exact h3
              have HQP := Lib.hid hQp
              have hpl : ((l.drop F).take Z).length = Z := by rw [List.length_take, List.length_drop]; omega
              have HPL := Lib.hid hpl
              have hroom2 : (((layTo (layF f) C l 0).1.length : Int)) + cellsI Z ≤ size := by
                have := HR.out
                have h1 := (HCL.out 0 (by omega)).1
                have h2 := (HCL.out (0 + 1) (by omega)).2
                have h3 := HCE.out
                have e0 : cellsTo l.length (0 + 1) = cellsTo l.length 0 + cellsI (sizeI l.length ((0 : Nat) : Int)) := rfl
                rw [e0, show sizeI l.length ((0 : Nat) : Int) = Z from HZE.out] at h2
                omega
              have HRO := Lib.hid hroom2
              have hsepA : Apart (some (ad.add (F * 2))) b v1 := fun a ha hx => by
                injection ha with ha
                subst ha
                rw [block_of_add] at hx
                rcases HV1.out.memF hx with h | h
                · exact HS.out ad rfl h
                · omega
              have HSA := Lib.hid hsepA
              clear hQp hpl hroom2 hsepA
              go_wp2_with (fail)
              with_reducible refine (lay_any B b size odd ref hs2 f v1 _ count1 _ (c - F) Z ((l.drop F).take Z) _ HPL.out.symm (by rw [HPL.out]; omega) (by rw [HPL.out]; omega) HM1.out HQP.out (by rw [HPL.out]; omega) HSA.out (by rw [HPL.out]; exact HRO.out)).mono ?_
              rintro e w5 ⟨rfl, v5, count5, hm5, hc5, hv5⟩
              have hFt : (fromI l.length ((0 : Nat) : Int)).toNat = F := by rw [HFE.out]; omega
              have hZt : (sizeI l.length ((0 : Nat) : Int)).toNat = Z := by rw [HZE.out]; omega
              have HT : Hid (layTo (layF f) C l (0 + 1) = ((layF f (layTo (layF f) C l 0).1 ((l.drop F).take Z)).1, (layTo (layF f) C l 0).2 ++ [(layF f (layTo (layF f) C l 0).1 ((l.drop F).take Z)).2])) := Lib.hid (by simp only [layTo]; rw [hFt, hZt])
              have hz5 := hc5.size
              have HM5 : Hid (MemP B b v5 (layTo (layF f) C l (0 + 1)).1 size count5 odd ref w5) := Lib.hid (by rw [HT.out]; exact hm5)
              have HK5 := Lib.hid (hc5.own HK2.out (fun g hg hx => HSK1.out g hg hx))
              have HW5 := Lib.hid (hc5.own HW1.out (fun g hg hx => HSC1.out g hg hx))
              have HC5 : Hid (Chg (MemF b v) w w5) := Lib.hid (HC1.out.grow hc5 (fun x hx => HV1.out.memF hx))
              have HV5 : Hid (RowNew v v5 w.heap.size) := Lib.hid (HV1.out.trans hv5 (by have := HC1.out.size; omega))
              have HSK5 : Hid (Sep u6 b v5) := Lib.hid (fun g hg hx => by
                rcases hv5.memF hx with h | h
                · exact HSK1.out g hg h
                · have := own_lt HK2.out g hg; omega)
              have HSC5 : Hid (Sep u7 b v5) := Lib.hid (fun g hg hx => by
                rcases hv5.memF hx with h | h
                · exact HSC1.out g hg h
                · have := own_lt HW1.out g hg; omega)
              clear hm5 hc5 hv5 HQP HPL HRO HSA hFt hZt
              obtain ⟨x5, hx5⟩ : ∃ x5, (layF f (layTo (layF f) C l 0).1 ((l.drop F).take Z)).2 = x5 := ⟨_, rfl⟩
              rw [hx5] at HT ⊢
              clear hx5
              have ha := (Below.refl w5.heap.size w5).alloc (Nat.le_refl _) (.cells #[.int .i64 x5] 2)
              have hr6 := reads_one w5 2 (.int .i64 x5)
              have hs6 : (w5.alloc (.cells #[.int .i64 x5] 2)).heap.size = w5.heap.size + 1 := by simp
              have HM6 := Lib.hid (HM5.out.below ha)
              have HK6 := Lib.hid (own_below HK5.out ha)
              have HW6 := Lib.hid (own_below HW5.out ha)
              have HC6 : Hid (Chg (MemF b v) w (w5.alloc (.cells #[.int .i64 x5] 2))) := Lib.hid (HC5.out.trans (Chg.of_below ha))
              have hw5 := HC5.out.size
              have HS6 := Lib.hid hs6
              have HR6 := Lib.hid hr6
              clear hs6 hr6
              clear ha HM5
              have HCN := Lib.hid (layTo_words (lay := layF f) (C := C) (l := l) 0)
              go_wp2_with (at_builtin; refine wpList_append_any _ rfl _ _ 40 rfl w.heap.size 2 i0 (.int .i64 0) 1 8 Try.underlying40 hi0 hz0 hz1 hz2 rfl (by decide) u7 _ _ rfl HW6.out (w5.heap.size + 1) (some ⟨w5.heap.size, 0, none⟩) 1 1 [Value.int .i64 x5] rfl HR6.out (one_of _ rfl) ?p1 ?p2 ?p3 ?_; (case p1 => (have := HCN.out; unfold maxLen; omega)); (case p2 => (have := HCN.out; omega)); (case p3 => (have := HC6.out.size; exact this)); intro u8 w7 hO7 hg7 hvb7)
              have hc7 := Chg.of_grown hg7
              have HM7 := Lib.hid (HM6.out.chg hc7 (fun e => HSC5.out _ e (.inl rfl)) (fun g hg e => HSC5.out g e (.inr hg)))
              have HK7 := Lib.hid (hc7.own HK6.out (fun g hg e => by
                rcases HDJ.out with h | h
                · rw [h] at hg; cases hg
                · exact h (hg.trans e.symm)))
              have HC7 : Hid (Chg (MemF b v) w w7) := Lib.hid (HC6.out.grow hc7 (fun x hx => .inr (HW6.out.lt x hx).1))
              have HDJ7 : Hid (u6.ownBlock = none ∨ u6.ownBlock ≠ u8.ownBlock) := Lib.hid (by
                rcases hvb7 with h | h
                · rw [h]; exact HDJ.out
                · rw [h]
                  right
                  intro e
                  have := own_lt HK6.out _ e
                  omega)
              have HSC7 : Hid (Sep u8 b v5) := Lib.hid (fun g hg hx => by
                rcases hvb7 with h | h
                · exact HSC5.out g (h ▸ hg) hx
                · rw [h] at hg
                  injection hg with hg
                  rcases hx with hx | hx
                  · have := HM6.out.blk.lt; omega
                  · have := own_lt HM6.out.own g hx; omega)
              have HW7 : Hid (w7.ownsRow w.heap.size 2 1 u8 (layTo (layF f) C l (0 + 1)).2.length ((layTo (layF f) C l (0 + 1)).2.map (Value.int .i64))) := Lib.hid (by
                rw [HT.out]
                simp only [List.length_append, List.map_append, List.length_cons, List.length_nil, List.map_cons, List.map_nil]
                exact hO7)
              clear hg7 hvb7 hO7 hc7
              go_wp2_with (fail)
              go_roundw
              case rel =>
                unfold LayLoop
                exact ⟨0 + 1, by omega, by rfl, ⟨HK7.out, HW7.out, ⟨v5, count5, HM7.out, HV5.out, HSK5.out, HSC7.out⟩, HDJ7.out, HC7.out⟩⟩
              case measure => simp [intOf]; omega
            · obtain ⟨j, rfl⟩ : ∃ j, i = j + 1 := ⟨i - 1, by omega⟩
              obtain ⟨adk, hadk, hk1, hk2⟩ := HQ1.out.key (by omega)
              injection hadk with hadk
              subst hadk
              have ck : w1.cell? (ad.add (F * 2)) = some (.int .i64 (pkey l F)) := hk2 F (by omega)
              obtain ⟨x1, hx1⟩ : ∃ x1, pkey l F = x1 := ⟨_, rfl⟩
              rw [hx1] at ck
              have HX1 := Lib.hid hx1
              clear hx1 hk2 hk1
              have ha := (Below.refl w1.heap.size w1).alloc (Nat.le_refl _) (.cells #[.int .i64 x1] 2)
              have hs2' : (w1.alloc (.cells #[.int .i64 x1] 2)).heap.size = w1.heap.size + 1 := by simp
              have HR2 := Lib.hid (reads_one w1 2 (.int .i64 x1))
              have HM2 := Lib.hid (HM1.out.below ha)
              have HKa := Lib.hid (own_below HK1.out ha)
              have HW2 := Lib.hid (own_below HW1.out ha)
              have HC2 : Hid (Chg (MemF b v) w (w1.alloc (.cells #[.int .i64 x1] 2))) := Lib.hid (HC1.out.trans (Chg.of_below ha))
              have HS2 := Lib.hid hs2'
              clear hs2'
              clear ha
              have HKN := Lib.hid (keysTo_len l j)
              have hFl : (F : Int) < l.length := by omega
              go_wp2_with (at_builtin; refine wpList_append_any _ rfl _ _ 40 rfl w.heap.size 2 i0 (.int .i64 0) 1 8 Try.underlying40 hi0 hz0 hz1 hz2 rfl (by decide) u6 _ _ rfl HKa.out (w1.heap.size + 1) (some ⟨w1.heap.size, 0, none⟩) 1 1 [Value.int .i64 x1] rfl HR2.out (one_of _ rfl) ?p1 ?p2 ?p3 ?_; (case p1 => (have := HKN.out; unfold maxLen; omega)); (case p2 => (have := HKN.out; omega)); (case p3 => (have := HC2.out.size; exact this)); intro u9k w3 hO3 hg3 hvb3)
              have hc3 := Chg.of_grown hg3
              have HM3 := Lib.hid (HM2.out.chg hc3 (fun e => HSK1.out _ e (.inl rfl)) (fun g hg e => HSK1.out g e (.inr hg)))
              have HW3 := Lib.hid (hc3.own HW2.out (fun g hg e => by
                rcases HDJ.out with h | h
                · rw [h] at e; cases e
                · exact h (e.trans hg.symm)))
              have HC3 : Hid (Chg (MemF b v) w w3) := Lib.hid (HC2.out.grow hc3 (fun x hx => .inr (HKa.out.lt x hx).1))
              have HDJ3 : Hid (u9k.ownBlock = none ∨ u9k.ownBlock ≠ u7.ownBlock) := Lib.hid (by
                rcases hvb3 with h | h
                · rw [h]; exact HDJ.out
                · rw [h]
                  right
                  intro e
                  have := own_lt HW2.out _ e.symm
                  omega)
              have HSK3 : Hid (Sep u9k b v1) := Lib.hid (fun g hg hx => by
                rcases hvb3 with h | h
                · exact HSK1.out g (h ▸ hg) hx
                · rw [h] at hg
                  injection hg with hg
                  rcases hx with hx | hx
                  · have := HM2.out.blk.lt; omega
                  · have := own_lt HM2.out.own g hx; omega)
              have HK3 : Hid (w3.ownsRow w.heap.size 2 1 u9k (keysTo l (j + 1 + 1)).length ((keysTo l (j + 1 + 1)).map (Value.int .i64))) := Lib.hid (by
                have e1 : keysTo l (j + 1 + 1) = keysTo l (j + 1) ++ [x1] := by
                  show keysTo l (j + 1) ++ [pkey l (fromI l.length ((j + 1 : Nat) : Int)).toNat] = _
                  rw [show (fromI l.length ((j + 1 : Nat) : Int)).toNat = F by rw [HFE.out]; omega, HX1.out]
                rw [e1]
                simp only [List.length_append, List.map_append, List.length_cons, List.length_nil, List.map_cons, List.map_nil]
                exact hO3)
              have HQ3 : Hid (PairsAt w3 w3.heap.size (some ad) l) := Lib.hid ((HQ.out.chg HC3.out (Nat.le_refl _) HS.out).more HC3.out.size)
              have hb3 : w.heap.size ≤ w3.heap.size := HC3.out.size
              clear hg3 hvb3 hO3 hc3 HM1 HK1 HW1 HC1 HQ1 HM2 HKa HW2 HC2 HR2 HS2 HDJ HSK1 hb0 ck
              go_wp2_with (fail)
              with_reducible refine (pSize_any _ _ _ (by omega) (by omega) (by omega) (by omega)).mono ?_
              rintro e wz ⟨rfl, rfl⟩
              rw [show sizeI l.length ((j : Int) + 1) = Z by have := HZE.out; rw [show ((j + 1 : Nat) : Int) = (j : Int) + 1 by omega] at this; exact this]
              have hFZ : (F : Int) + (Z : Int) ≤ c := by omega
              have hQp : PairsAt w3 w3.heap.size (some (ad.add (F * 2))) ((l.drop F).take Z) := by
                have h1 := HQ3.out.cut (n := F) (by omega)
                have h2 : PairsAt w3 w3.heap.size (some (ad.add (F * 2))) (l.drop F) := by unfold PairsAt; rw [List.length_drop]; exact h1
                have h3 := h2.take (n := Z) (by rw [List.length_drop]; omega)
                unfold PairsAt
                rw [show ((l.drop F).take Z).length = Z by rw [List.length_take, List.length_drop]; omega]
                exact h3
              have HQP := Lib.hid hQp
              have hpl : ((l.drop F).take Z).length = Z := by rw [List.length_take, List.length_drop]; omega
              have HPL := Lib.hid hpl
              have hroom2 : (((layTo (layF f) C l (j + 1)).1.length : Int)) + cellsI Z ≤ size := by
                have := HR.out
                have h1 := (HCL.out (j + 1) (by omega)).1
                have h2 := (HCL.out ((j + 1) + 1) (by omega)).2
                have h3 := HCE.out
                have e0 : cellsTo l.length ((j + 1) + 1) = cellsTo l.length (j + 1) + cellsI (sizeI l.length (((j + 1) : Nat) : Int)) := rfl
                rw [e0, show sizeI l.length (((j + 1) : Nat) : Int) = Z from HZE.out] at h2
                omega
              have HRO := Lib.hid hroom2
              have hsepA : Apart (some (ad.add (F * 2))) b v1 := fun a ha hx => by
                injection ha with ha
                subst ha
                rw [block_of_add] at hx
                rcases HV1.out.memF hx with h | h
                · exact HS.out ad rfl h
                · omega
              have HSA := Lib.hid hsepA
              clear hQp hpl hroom2 hsepA
              go_wp2_with (fail)
              with_reducible refine (lay_any B b size odd ref hs2 f v1 _ count1 _ (c - F) Z ((l.drop F).take Z) _ HPL.out.symm (by rw [HPL.out]; omega) (by rw [HPL.out]; omega) HM3.out HQP.out (by rw [HPL.out]; omega) HSA.out (by rw [HPL.out]; exact HRO.out)).mono ?_
              rintro e w5 ⟨rfl, v5, count5, hm5, hc5, hv5⟩
              have hFt : (fromI l.length (((j + 1) : Nat) : Int)).toNat = F := by rw [HFE.out]; omega
              have hZt : (sizeI l.length (((j + 1) : Nat) : Int)).toNat = Z := by rw [HZE.out]; omega
              have HT : Hid (layTo (layF f) C l ((j + 1) + 1) = ((layF f (layTo (layF f) C l (j + 1)).1 ((l.drop F).take Z)).1, (layTo (layF f) C l (j + 1)).2 ++ [(layF f (layTo (layF f) C l (j + 1)).1 ((l.drop F).take Z)).2])) := Lib.hid (by simp only [layTo]; rw [hFt, hZt])
              have hz5 := hc5.size
              have HM5 : Hid (MemP B b v5 (layTo (layF f) C l ((j + 1) + 1)).1 size count5 odd ref w5) := Lib.hid (by rw [HT.out]; exact hm5)
              have HK5 := Lib.hid (hc5.own HK3.out (fun g hg hx => HSK3.out g hg hx))
              have HW5 := Lib.hid (hc5.own HW3.out (fun g hg hx => HSC1.out g hg hx))
              have HC5 : Hid (Chg (MemF b v) w w5) := Lib.hid (HC3.out.grow hc5 (fun x hx => HV1.out.memF hx))
              have HV5 : Hid (RowNew v v5 w.heap.size) := Lib.hid (HV1.out.trans hv5 (by have := HC3.out.size; omega))
              have HSK5 : Hid (Sep u9k b v5) := Lib.hid (fun g hg hx => by
                rcases hv5.memF hx with h | h
                · exact HSK3.out g hg h
                · have := own_lt HK3.out g hg; omega)
              have HSC5 : Hid (Sep u7 b v5) := Lib.hid (fun g hg hx => by
                rcases hv5.memF hx with h | h
                · exact HSC1.out g hg h
                · have := own_lt HW3.out g hg; omega)
              clear hm5 hc5 hv5 HQP HPL HRO HSA hFt hZt
              obtain ⟨x5, hx5⟩ : ∃ x5, (layF f (layTo (layF f) C l (j + 1)).1 ((l.drop F).take Z)).2 = x5 := ⟨_, rfl⟩
              rw [hx5] at HT ⊢
              clear hx5
              have ha := (Below.refl w5.heap.size w5).alloc (Nat.le_refl _) (.cells #[.int .i64 x5] 2)
              have hr6 := reads_one w5 2 (.int .i64 x5)
              have hs6 : (w5.alloc (.cells #[.int .i64 x5] 2)).heap.size = w5.heap.size + 1 := by simp
              have HM6 := Lib.hid (HM5.out.below ha)
              have HK6 := Lib.hid (own_below HK5.out ha)
              have HW6 := Lib.hid (own_below HW5.out ha)
              have HC6 : Hid (Chg (MemF b v) w (w5.alloc (.cells #[.int .i64 x5] 2))) := Lib.hid (HC5.out.trans (Chg.of_below ha))
              have hw5 := HC5.out.size
              have HS6 := Lib.hid hs6
              have HR6 := Lib.hid hr6
              clear hs6 hr6
              clear ha HM5
              have HCN := Lib.hid (layTo_words (lay := layF f) (C := C) (l := l) (j + 1))
              go_wp2_with (at_builtin; refine wpList_append_any _ rfl _ _ 40 rfl w.heap.size 2 i0 (.int .i64 0) 1 8 Try.underlying40 hi0 hz0 hz1 hz2 rfl (by decide) u7 _ _ rfl HW6.out (w5.heap.size + 1) (some ⟨w5.heap.size, 0, none⟩) 1 1 [Value.int .i64 x5] rfl HR6.out (one_of _ rfl) ?p1 ?p2 ?p3 ?_; (case p1 => (have := HCN.out; unfold maxLen; omega)); (case p2 => (have := HCN.out; omega)); (case p3 => (have := HC6.out.size; exact this)); intro u8 w7 hO7 hg7 hvb7)
              have hc7 := Chg.of_grown hg7
              have HM7 := Lib.hid (HM6.out.chg hc7 (fun e => HSC5.out _ e (.inl rfl)) (fun g hg e => HSC5.out g e (.inr hg)))
              have HK7 := Lib.hid (hc7.own HK6.out (fun g hg e => by
                rcases HDJ3.out with h | h
                · rw [h] at hg; cases hg
                · exact h (hg.trans e.symm)))
              have HC7 : Hid (Chg (MemF b v) w w7) := Lib.hid (HC6.out.grow hc7 (fun x hx => .inr (HW6.out.lt x hx).1))
              have HDJ7 : Hid (u9k.ownBlock = none ∨ u9k.ownBlock ≠ u8.ownBlock) := Lib.hid (by
                rcases hvb7 with h | h
                · rw [h]; exact HDJ3.out
                · rw [h]
                  right
                  intro e
                  have := own_lt HK6.out _ e
                  omega)
              have HSC7 : Hid (Sep u8 b v5) := Lib.hid (fun g hg hx => by
                rcases hvb7 with h | h
                · exact HSC5.out g (h ▸ hg) hx
                · rw [h] at hg
                  injection hg with hg
                  rcases hx with hx | hx
                  · have := HM6.out.blk.lt; omega
                  · have := own_lt HM6.out.own g hx; omega)
              have HW7 : Hid (w7.ownsRow w.heap.size 2 1 u8 (layTo (layF f) C l ((j + 1) + 1)).2.length ((layTo (layF f) C l ((j + 1) + 1)).2.map (Value.int .i64))) := Lib.hid (by
                rw [HT.out]
                simp only [List.length_append, List.map_append, List.length_cons, List.length_nil, List.map_cons, List.map_nil]
                exact hO7)
              clear hg7 hvb7 hO7 hc7
              go_wp2_with (fail)
              go_roundw
              case rel =>
                unfold LayLoop
                exact ⟨(j + 1) + 1, by omega, by go_num, ⟨HK7.out, HW7.out, ⟨v5, count5, HM7.out, HV5.out, HSK5.out, HSC7.out⟩, HDJ7.out, HC7.out⟩⟩
              case measure => simp [intOf]; omega
          · have hiD : i = D := by omega
            subst hiD
            obtain ⟨v1, count1, hm1, hv1, hsk1, hsc1⟩ := hrel.mem
            obtain ⟨A6, c6, rfl⟩ := own_shape hrel.keys
            obtain ⟨A7, c7, rfl⟩ := own_shape hrel.words
            obtain ⟨D', hD'⟩ : ∃ D', i = D' + 1 := ⟨i - 1, by omega⟩
            have HKN : Hid ((keysTo l i).length + 1 = i) := Lib.hid (by rw [hD', keysTo_len])
            have HCN := Lib.hid (layTo_words (lay := layF f) (C := C) (l := l) i)
            have HKI : Hid (IntsAt wr wr.heap.size A6 (keysTo l i)) := Lib.hid (Reads.of_own hrel.keys)
            have HWI : Hid (IntsAt wr wr.heap.size A7 (layTo (layF f) C l i).2) := Lib.hid (Reads.of_own hrel.words)
            have hle := (HCL.out i (by omega)).1
            have hce := HCE.out
            have hrr := HR.out
            have HC1 := Lib.hid hrel.chg
            have HM1 := Lib.hid hm1
            have HV1 := Lib.hid hv1
            have hz1 := hrel.chg.size
            have hblt : b < wr.heap.size := hm1.blk.lt
            clear hrel hm1 hv1 hsk1 hsc1 hD'
            go_wp2_with (fail)
            with_reducible refine (innerW_any _ A6 c6 (keysTo l i) A7 c7 (layTo (layF f) C l i).2 _ _ _ rfl rfl HKI.out HWI.out (by have := HKN.out; have := HCN.out; omega) (by have := HKN.out; omega)).mono ?_
            rintro e w2 ⟨v2, rfl, hO2, hb2⟩
            have HM2 := Lib.hid (HM1.out.below hb2)
            have HB2 := Lib.hid hb2
            have hin : [((layTo (layF f) C l i).2.length : Int), (l.length : Int), 0, 0, 0] ++ keysTo l i ++ (layTo (layF f) C l i).2 = innerW l.length (keysTo l i) (layTo (layF f) C l i).2 := rfl
            rw [hin] at hO2
            clear hin
            have hil : (innerW l.length (keysTo l i) (layTo (layF f) C l i).2).length = 2 * i + 4 := by
              have := HKN.out; have := HCN.out; unfold innerW; simp only [List.length_append, List.length_cons, List.length_nil]; omega
            obtain ⟨A2, c2, rfl⟩ := own_shape hO2
            have HQ2 : Hid (IntsAt w2 w2.heap.size A2 (innerW l.length (keysTo l i) (layTo (layF f) C l i).2)) := Lib.hid (Reads.of_own hO2)
            have hA2 : ∀ ad, A2 = some ad → ad.block ≠ b := fun a ha => by
              subst ha
              have := (hO2.lt a.block rfl).1
              omega
            have HA2 := Lib.hid hA2
            have HIL := Lib.hid hil
            clear hO2 hb2 HKI HWI hA2 hil
            generalize innerW l.length (keysTo l i) (layTo (layF f) C l i).2 = iw at HQ2 HL HIL ⊢
            go_wp2_with (fail)
            with_reducible refine (made_ok B b v1 _ size count1 odd ref 3 _ HM2.out hs2 A2 c2 iw _ rfl HQ2.out HA2.out (by rw [HIL.out]; omega) (by rw [HIL.out]; omega)).mono ?_
            rintro e w3 ⟨rfl, v3, hm3, hc3, hv3⟩
            have HM3 := Lib.hid hm3
            have HC3 : Hid (Chg (MemF b v) w w3) := Lib.hid ((HC1.out.trans (Chg.of_below HB2.out)).grow hc3 (fun x hx => HV1.out.memF hx))
            have HV3 : Hid (RowNew v v3 w.heap.size) := Lib.hid (HV1.out.trans hv3 (by have := HB2.out.size; omega))
            clear hm3 hc3 hv3 HM2 HB2 HQ2 HM1 HC1
            go_wp2_with (fail)
            go_ret
            unfold LayPost
            rw [HL.out]
            exact ⟨rfl, v3, _, HM3.out, HC3.out, HV3.out⟩
/-- Strictly ascending keys. -/
def AscP (l : List (Int × Int)) : Prop := ∀ i, i + 1 < l.length → pkey l i < pkey l (i + 1)
set_option maxHeartbeats 1000000 in
theorem plantRight_any (A : Option Addr) (c N : Nat) (l : List (Int × Int)) (w : World) (hN : N = l.length) (hq : PairsAt w w.heap.size A l) (hl : l.length ≤ 16384) (ha : AscP l) :
    Calls Try.prog 21 #[.slice A N c] w fun e w' => e = .returned (.bool true) ∧ Drawn w w' := by
  subst hN
  have HQ := Lib.hid hq
  have HA := Lib.hid ha
  clear hq ha
  go_enter Try.func21, Try.ntmps21
  go_wp2_with (fail)
  go_loopw [3] (fun v wr => ∃ (i m : Nat), 1 ≤ i ∧ (i ≤ l.length ∨ i = 1) ∧ v = .int .i64 i ∧ wr = w.drewN m) (fun v _ => l.length - (intOf v).toNat)
  case atStart => exact ⟨1, 0, by omega, .inr rfl, rfl, rfl⟩
  case round =>
    obtain ⟨i, m, i0, i1, rfl, rfl⟩ := hrel
    by_cases hlt : i < l.length
    · obtain ⟨j, rfl⟩ : ∃ j, i = j + 1 := ⟨i - 1, by omega⟩
      obtain ⟨ad, rfl, _, hc⟩ := HQ.out.key (by omega)
      have k1 := hc j (by omega)
      have k2 := hc (j + 1) hlt
      have hk := HA.out j hlt
      have e1 : (j : Int) + 1 - 1 = j := by omega
      generalize pkey l j = x at k1 hk
      generalize pkey l (j + 1) = y at k2 hk
      clear hc i1
      have k2' : w.cell? (ad.add (j * 2 + 2)) = some (.int .i64 y) := by rw [show (j + 1) * 2 = j * 2 + 2 by omega] at k2; exact k2
      have hlt2 : (j : Int) + 1 < l.length := by omega
      have hk2 : ¬ y ≤ x := by omega
      go_wp2_with (fail)
      go_quiet (fail)
      go_wp2_with (fail)
      go_roundw
      case rel => exact ⟨j + 1 + 1, _, by omega, .inl (by omega), by go_num, rfl⟩
      case measure => simp [intOf]; omega
    · have hle : (l.length : Int) ≤ 16384 := by omega
      have hlt2 : ¬ (i : Int) < l.length := by omega
      go_wp2_with (fail)
      go_ret
      exact ⟨rfl, Drawn.of _ _⟩
set_option maxHeartbeats 1000000 in
/-- Build, where there is room: the tree's cells behind the ones that are, its word. -/
theorem build_any (B b : Nat) (v : Value) (C : List Int) (size count odd ref : Int) (A : Option Addr) (c N : Nat) (l : List (Int × Int)) (w : World) (hN : N = l.length) (hs2 : size ≤ 65536) (hm : MemP B b v C size count odd ref w) (hq : PairsAt w w.heap.size A l) (hl : l.length ≤ 16384) (hc : l.length ≤ c) (ha : AscP l) (hsep : Apart A b v) (hroom : (C.length : Int) + cellsI l.length ≤ size) :
    Calls Try.prog 7 #[.pointer (some ⟨b, 0, none⟩), .slice A N c] w fun e w' => e = .returned (.tuple #[.int .i64 (layF (l.length + 1) C l).2, .bool true]) ∧ ∃ v' count', MemP B b v' (layF (l.length + 1) C l).1 size count' odd ref w' ∧ Chg (MemF b v) w w' ∧ RowNew v v' w.heap.size := by
  subst hN
  have hcb := cellsI_abs l.length
  have hle : ¬ size - (C.length : Int) < cellsI l.length := by omega
  have HM := Lib.hid hm
  have HQ := Lib.hid hq
  have HA := Lib.hid ha
  have HS := Lib.hid hsep
  have HR := Lib.hid hroom
  clear hm hq ha hsep hroom
  go_enter Try.func7, Try.ntmps7
  go_wp2_with (fail)
  with_reducible refine (plantRight_any A c l.length l _ rfl HQ.out hl HA.out).mono ?_
  rintro e w1 ⟨rfl, hd⟩
  have hb1 := drawn_bl hd w.heap.size
  go_wp2_with (fail)
  with_reducible refine (pCells_any _ _ (by omega) (by omega)).mono ?_
  rintro e w2 ⟨rfl, hd2⟩
  have hb2 := hb1.trans (drawn_bl hd2 _)
  have HM2 := Lib.hid (HM.out.below hb2)
  have HQ2 : Hid (PairsAt w2 w2.heap.size A l) := Lib.hid ((HQ.out.below hb2).more hb2.size)
  have HB2 := Lib.hid hb2
  clear hd hd2 hb1 hb2 HM HQ
  go_wp2_with (fail)
  with_reducible refine (size_any B b v C size count odd ref _ HM2.out).mono ?_
  rintro e w3 ⟨rfl, rfl⟩
  go_wp2_with (fail)
  with_reducible refine (used_any B b v C size count odd ref _ HM2.out).mono ?_
  rintro e w3 ⟨rfl, rfl⟩
  go_wp2_with (fail)
  with_reducible refine (lay_any B b size odd ref hs2 (l.length + 1) v C count A c l.length l _ rfl (by omega) hl HM2.out HQ2.out hc HS.out HR.out).mono ?_
  rintro e w3 ⟨rfl, v3, count3, hm3, hc3, hv3⟩
  have HM3 := Lib.hid hm3
  have HC3 : Hid (Chg (MemF b v) w w3) := Lib.hid ((Chg.of_below HB2.out).trans hc3)
  have HV3 : Hid (RowNew v v3 w.heap.size) := Lib.hid ((RowNew.refl v w.heap.size).trans hv3 HB2.out.size)
  clear hm3 hc3 hv3
  go_wp2_with (fail)
  go_ret2
  exact ⟨rfl, v3, count3, HM3.out, HC3.out, HV3.out⟩
end Go.Proofs.Ytblajeildolloaa
