/- Part 3 of what the statement of RoutePlays needs: Plant, SeekK, WalkEnd, QueryAll, Proc, ProcS, ProcB, RunR, RefK, Ref7W, RunS, RunT. No condition. -/
import Derived.Test.YtblajeildolloaaGreatRoutePlaysB2
import Derived.Deep.RegionHeld3
import Derived.Deep.RegionLaw
import Derived.StillTailTactics
/- plant: made, lay, Right, Build. -/
namespace Go.Proofs.YtblajeildolloaaGreat
set_option linter.unusedVariables false
set_option linter.unusedSimpArgs false
open Go.RowKit

set_option maxHeartbeats 400000 in
theorem leafW_any (k x : Int) (w : World) : Calls Tryz.prog 164 #[.int .i64 k, .int .i64 x] w fun e w' => e = .returned (.slice (some ⟨w.heap.size, 0, none⟩) 2 2) ∧ IntsAt w' (w.heap.size + 1) (some ⟨w.heap.size, 0, none⟩) [k, x] ∧ Below w.heap.size w w' ∧ w'.heap.size = w.heap.size + 1 := by
  have H : Hid (IntsAt (w.alloc (.cells #[.int .i64 k, .int .i64 x] 2)) (w.heap.size + 1) (some ⟨w.heap.size, 0, none⟩) [k, x]) := Lib.hid (ints_row w 2 [k, x])
  go_enter Tryz.func164, Tryz.ntmps164
  go_wp2_with (fail)
  go_ret
  exact ⟨rfl, H.out, (Below.refl _ _).alloc (Nat.le_refl _) _, by simp⟩
theorem leafD_any (k x : Int) (w : World) : Calls Tryz.prog 164 #[.int .i64 k, .int .i64 x] w.drew fun e w' => e = .returned (.slice (some ⟨w.heap.size, 0, none⟩) 2 2) ∧ IntsAt w' w'.heap.size (some ⟨w.heap.size, 0, none⟩) [k, x] ∧ Below w.heap.size w w' ∧ w'.heap.size = w.heap.size + 1 :=
  (leafW_any k x w.drew).mono fun e w' ⟨h1, h2, h3, h4⟩ => ⟨h1, h2.more (Nat.le_of_eq h4.symm), belowDrew h3, h4⟩
/-- What a change of the memory turns: its own block and its row. -/
def MemF (b : Nat) (v : Value) (x : Nat) : Prop := x = b ∨ v.ownBlock = some x
theorem MemF.of_mv {b : Nat} {v : Value} {w w' : World} (m : Mv b v.ownBlock w w') : Chg (MemF b v) w w' := ⟨m.os, m.tape, m.output, m.size, fun k hk hn => m.block k hk (fun e => hn (.inl e)) (fun e => hn (.inr e.symm))⟩
/-- The row of a memory behind a change is the old one or new. -/
def RowNew (v v' : Value) (n : Nat) : Prop := v'.ownBlock = v.ownBlock ∨ ∃ g, v'.ownBlock = some g ∧ n ≤ g
theorem RowNew.refl (v : Value) (n : Nat) : RowNew v v n := .inl rfl
theorem RowNew.trans {v v1 v2 : Value} {n m : Nat} (h : RowNew v v1 n) (k : RowNew v1 v2 m) (hm : n ≤ m) : RowNew v v2 n := by
  rcases k with k | ⟨g, k, hg⟩
  · rcases h with h | ⟨g, h, hg⟩
    · exact .inl (k.trans h)
    · exact .inr ⟨g, k.trans h, hg⟩
  · exact .inr ⟨g, k, by omega⟩
theorem RowNew.memF {b : Nat} {v v' : Value} {n x : Nat} (h : RowNew v v' n) (hx : MemF b v' x) : MemF b v x ∨ n ≤ x := by
  rcases hx with hx | hx
  · exact .inl (.inl hx)
  · rcases h with h | ⟨g, h, hg⟩
    · exact .inl (.inr (h ▸ hx))
    · rw [h] at hx; injection hx with hx; exact .inr (by omega)
def MadePost (B b : Nat) (v : Value) (C : List Int) (size count odd ref kind : Int) (q : List Int) (w : World) (e : Ending) (w' : World) : Prop :=
  e = .returned (.int .i64 (wOf kind ((C.length : Int) + 1))) ∧ ∃ v', MemP B b v' (C ++ q) size (bump count) odd ref w' ∧ Chg (MemF b v) w w' ∧ RowNew v v' w.heap.size
set_option maxHeartbeats 400000 in
theorem made_ok (B b : Nat) (v : Value) (C : List Int) (size count odd ref kind : Int) (w : World) (h : MemP B b v C size count odd ref w) (hs2 : size ≤ 65536) (A : Option Addr) (c : Nat) (q : List Int) (N : Nat) (hN : N = q.length) (hq : IntsAt w w.heap.size A q) (hA : ∀ ad, A = some ad → ad.block ≠ b) (h0 : 0 < q.length) (h1 : (q.length : Int) ≤ size - C.length) :
    Calls Tryz.prog 163 #[.pointer (some ⟨b, 0, none⟩), .int .i64 kind, .slice A N c] w (MadePost B b v C size count odd ref kind q w) := by
  have H := Lib.hid h
  have HN := Lib.hid hN
  have HQ := Lib.hid hq
  clear h hN hq
  go_enter Tryz.func163, Tryz.ntmps163
  go_wp2_with (fail)
  with_reducible refine (make_ok B b v C size count odd ref _ H.out (by omega) hs2 A c q N HN.out HQ.out hA h0 h1).mono ?_
  rintro e w1 ⟨rfl, v1, hm, m1, hv⟩
  have HM := Lib.hid hm
  have HC := Lib.hid (MemF.of_mv m1)
  have HV : Hid (RowNew v v1 w.heap.size) := Lib.hid hv
  clear hm m1 hv H HQ
  go_wp2_with (fail)
  with_reducible refine (of_any _ _ _).mono ?_
  rintro e w2 ⟨rfl, rfl⟩
  go_wp2_with (fail)
  go_ret
  exact ⟨rfl, v1, HM.out, HC.out, HV.out⟩
def LayPost (B b : Nat) (v : Value) (C : List Int) (size odd ref : Int) (f : Nat) (l : List (Int × Int)) (w : World) (e : Ending) (w' : World) : Prop :=
  e = .returned (.int .i64 (layF f C l).2) ∧ ∃ v' count', MemP B b v' (layF f C l).1 size count' odd ref w' ∧ Chg (MemF b v) w w' ∧ RowNew v v' w.heap.size
/-- The list lies apart from the memory. -/
def Apart (A : Option Addr) (b : Nat) (v : Value) : Prop := ∀ ad, A = some ad → ¬ MemF b v ad.block
section
variable (B b : Nat) (size odd ref : Int) (hs2 : size ≤ 65536)
set_option maxHeartbeats 1000000 in
theorem lay0_any (f : Nat) (v : Value) (C : List Int) (count : Int) (A : Option Addr) (c : Nat) (w : World) (hs2 : size ≤ 65536) (h : MemP B b v C size count odd ref w) (hroom : (C.length : Int) + 1 ≤ size) :
    Calls Tryz.prog 101 #[.pointer (some ⟨b, 0, none⟩), .slice A 0 c] w (LayPost B b v C size odd ref (f + 1) [] w) := by
  have HL := Lib.hid (show layF (f + 1) C [] = (C ++ [0], wOf 1 ((C.length : Int) + 1)) from rfl)
  have hblt := h.blk.lt
  have H := Lib.hid h
  clear h
  go_enter Tryz.func101, Tryz.ntmps101
  go_wp2_with (fail)
  with_reducible refine (emptyW_any _).mono ?_
  rintro e w1 ⟨rfl, hq, hb⟩
  have HM := Lib.hid (H.out.below hb)
  have HB := Lib.hid hb
  have hz : w.heap.size + 1 ≤ w1.heap.size := by
    obtain ⟨ad, e, h1, h2⟩ := hq.2 (by simp)
    injection e with e
    subst e
    have := World.block_lt_of_cell? w1 _ (h2 0 _ rfl)
    rw [block_of_add] at this
    exact this
  have HQ := Lib.hid (hq.more hz)
  clear hq hb H
  go_wp2_with (fail)
  with_reducible refine (made_ok B b v C size count odd ref 1 _ HM.out hs2 (some ⟨w.heap.size, 0, none⟩) 1 ([0] : List Int) 1 (by kernel_rfl) HQ.out (fun ad ha => by injection ha with ha; subst ha; show w.heap.size ≠ b; omega) (by simp) (by simp; omega)).mono ?_
  rintro e w2 ⟨rfl, v2, hm, hc, hv⟩
  have HM2 := Lib.hid hm
  have HC : Hid (Chg (MemF b v) w w2) := Lib.hid ((Chg.of_below HB.out).trans hc)
  have HV : Hid (RowNew v v2 w.heap.size) := Lib.hid ((RowNew.refl v w.heap.size).trans hv HB.out.size)
  clear hm hc hv HM HB HQ
  go_wp2_with (fail)
  go_ret
  unfold LayPost
  rw [HL.out]
  exact ⟨rfl, v2, _, HM2.out, HC.out, HV.out⟩
set_option maxHeartbeats 1000000 in
theorem lay1_any (f : Nat) (v : Value) (C : List Int) (count : Int) (A : Option Addr) (c : Nat) (x : Int × Int) (w : World) (hs2 : size ≤ 65536) (h : MemP B b v C size count odd ref w) (hq : PairsAt w w.heap.size A [x]) (hsep : Apart A b v) (hroom : (C.length : Int) + 2 ≤ size) :
    Calls Tryz.prog 101 #[.pointer (some ⟨b, 0, none⟩), .slice A 1 c] w (LayPost B b v C size odd ref (f + 1) [x] w) := by
  have HL := Lib.hid (show layF (f + 1) C [x] = (C ++ [x.1, x.2], wOf 2 ((C.length : Int) + 1)) from rfl)
  have hblt := h.blk.lt
  obtain ⟨ad, rfl, hlt, hcell⟩ := hq.2 (by simp)
  have c0 : w.cell? ad = some (.int .i64 x.1) := hcell 0 _ rfl
  have c1 : w.cell? { block := ad.block, off := ad.off + 1 } = some (.int .i64 x.2) := hcell 1 _ rfl
  have H := Lib.hid h
  have HCE := Lib.hid hcell
  clear h hcell
  clear hq
  go_enter Tryz.func101, Tryz.ntmps101
  go_wp2_with (fail)
  have HMd : Hid (MemP B b v C size count odd ref w.drew) := Lib.hid (H.out.below (drawn_bl (Drawn.of w 1) _))
  go_region_held3 (fun w' => w'.cell? ad = some (.int .i64 x.1) ∧ w'.cell? { block := ad.block, off := ad.off + 1 } = some (.int .i64 x.2)) (first | go_keep | exact ⟨K1.out.1, K1.out.2⟩ | exact ⟨K2.out.1, K2.out.2⟩) (first | (go_at_call 164; (with_reducible refine (leafD_any _ _ w).mono ?_); rintro e w1 ⟨rfl, hq, hb, hz⟩; have K1 := Lib.hid (show w1.cell? ad = some (.int .i64 x.1) ∧ w1.cell? { block := ad.block, off := ad.off + 1 } = some (.int .i64 x.2) from ⟨(hb.cell hlt).trans c0, (hb.cell (p := { block := ad.block, off := ad.off + 1 }) hlt).trans c1⟩); have HM1 := Lib.hid (H.out.below hb); have BB1 := Lib.hid hb; have HZ := Lib.hid hz; have HQ := Lib.hid hq; clear hq hb hz) | (go_at_call 163; (with_reducible refine (made_ok B b v C size count odd ref 2 _ HM1.out hs2 (some ⟨w.heap.size, 0, none⟩) 2 ([x.1, x.2] : List Int) 2 (by kernel_rfl) HQ.out (fun ad ha => by injection ha with ha; subst ha; show w.heap.size ≠ b; omega) (by simp) (by simp; omega)).mono ?_); rintro e w2 ⟨rfl, v2, hm, hc, hv⟩; have K2 : Hid (w2.cell? ad = some (.int .i64 x.1) ∧ w2.cell? { block := ad.block, off := ad.off + 1 } = some (.int .i64 x.2)) := Lib.hid ⟨(World.cell?_of_block (hc.block ad.block (by rw [HZ.out]; omega) (hsep ad rfl))).trans K1.out.1, (World.cell?_of_block (a := { block := ad.block, off := ad.off + 1 }) (hc.block ad.block (by rw [HZ.out]; omega) (hsep ad rfl))).trans K1.out.2⟩; have HM2 := Lib.hid hm; have HC : Hid (Chg (MemF b v) w w2) := Lib.hid ((Chg.of_below BB1.out).trans hc); have HV : Hid (RowNew v v2 w.heap.size) := Lib.hid ((RowNew.refl v w.heap.size).trans hv BB1.out.size); clear hm hc hv))
  go_wp2_with (fail)
  go_ret
  unfold LayPost
  rw [HL.out]
  exact ⟨rfl, v2, _, HM2.out, HC.out, HV.out⟩
end
/-- A slice of the call's own lies apart from the memory. -/
def Sep (u : Value) (b : Nat) (v : Value) : Prop := ∀ g, u.ownBlock = some g → ¬ MemF b v g
theorem PairsAt.chg {F : Nat → Prop} {w w' : World} {B : Nat} {A : Option Addr} {l : List (Int × Int)} (h : PairsAt w B A l) (m : Chg F w w') (hB : B ≤ w.heap.size) (hA : ∀ ad, A = some ad → ¬ F ad.block) : PairsAt w' B A l :=
  ⟨h.1, fun hn => by
    obtain ⟨ad, e, hb, hc⟩ := h.2 hn
    refine ⟨ad, e, hb, fun j u hu => (World.cell?_of_block (m.block _ (by rw [block_of_add]; omega) (by rw [block_of_add]; exact hA ad e))).trans (hc j u hu)⟩⟩
structure LayRel (B b : Nat) (v : Value) (C : List Int) (size odd ref : Int) (f : Nat) (A : Option Addr) (l : List (Int × Int)) (w : World) (i : Nat) (kv cv : Value) (wr : World) : Prop where
  keys : wr.ownsRow w.heap.size 2 1 kv (keysTo l i).length ((keysTo l i).map (Value.int .i64))
  words : wr.ownsRow w.heap.size 2 1 cv (layTo (layF f) C l i).2.length ((layTo (layF f) C l i).2.map (Value.int .i64))
  mem : ∃ v' count', MemP B b v' (layTo (layF f) C l i).1 size count' odd ref wr ∧ RowNew v v' w.heap.size ∧ Sep kv b v' ∧ Sep cv b v'
  dj : kv.ownBlock = none ∨ kv.ownBlock ≠ cv.ownBlock
  chg : Chg (MemF b v) w wr
def LayLoop (B b : Nat) (v : Value) (C : List Int) (size odd ref : Int) (f D : Nat) (A : Option Addr) (l : List (Int × Int)) (w : World) (kv cv iv : Value) (wr : World) : Prop := ∃ i : Nat, i ≤ D ∧ iv = .int .i64 (i : Int) ∧ LayRel B b v C size odd ref f A l w i kv cv wr
set_option maxRecDepth 100000 in
set_option maxHeartbeats 2000000 in
theorem lay_any (B b : Nat) (size odd ref : Int) (hs2 : size ≤ 65536) : ∀ (f : Nat) (v : Value) (C : List Int) (count : Int) (A : Option Addr) (c N : Nat) (l : List (Int × Int)) (w : World), N = l.length → l.length < f → l.length ≤ 16384 → MemP B b v C size count odd ref w → PairsAt w w.heap.size A l → l.length ≤ c → Apart A b v → (C.length : Int) + cellsI l.length ≤ size →
    Calls Tryz.prog 101 #[.pointer (some ⟨b, 0, none⟩), .slice A N c] w (LayPost B b v C size odd ref f l w)
  | 0, v, C, count, A, c, N, l, w, _, h, _, _, _, _, _, _ => absurd h (by omega)
  | f + 1, v, C, count, A, c, N, l, w, hN, hf, hl, hm, hq, hc, hsep, hroom => by
    subst hN
    rcases l with _ | ⟨x, l0⟩
    · exact lay0_any B b size odd ref f v C count A c w hs2 hm (by have := cellsI_zero; simp at hroom; omega)
    · rcases l0 with _ | ⟨y, l1⟩
      · exact lay1_any B b size odd ref f v C count A c x w hs2 hm hq hsep (by have := cellsI_one; simp at hroom; omega)
      · obtain ⟨l, hle⟩ : ∃ l, x :: y :: l1 = l := ⟨_, rfl⟩
        have h2 : 2 ≤ l.length := by rw [← hle]; simp
        rw [hle] at hf hl hq hc hroom ⊢
        clear hle x y l1
        have hd := degreeI_bd (n := l.length) (by omega) (by omega)
        obtain ⟨D, hD⟩ : ∃ D : Nat, degreeI l.length = D := ⟨(degreeI l.length).toNat, by omega⟩
        have hDt : (degreeI l.length).toNat = D := by omega
        have HD := Lib.hid hD
        have hD2 : 2 ≤ D := by omega
        have hD3 : D ≤ 128 := by omega
        have HL := Lib.hid (show layF (f + 1) C l = ((layTo (layF f) C l D).1 ++ innerW l.length (keysTo l D) (layTo (layF f) C l D).2, wOf 3 (((layTo (layF f) C l D).1.length : Int) + 1)) by
          unfold layF; rw [if_neg (by omega), if_neg (by omega), hDt])
        have hn0 : ((l.length : Int) == 0) = false := by rw [beq_eq_false_iff_ne]; omega
        have hn1 : ((l.length : Int) == 1) = false := by rw [beq_eq_false_iff_ne]; omega
        obtain ⟨ad, rfl, _, _⟩ := hq.2 (by omega)
        obtain ⟨i0, hi0, hz0, hz1, hz2⟩ := info_parts info_int64m
        have HCL := Lib.hid (lay_to C l f hf hl h2)
        rw [hD, show ((D : Nat) : Int).toNat = D from Int.toNat_natCast D] at HCL
        have HCE : Hid (cellsTo l.length D = cellsI l.length) := Lib.hid (by have := cellsTo_all (n := l.length) (by omega) (by omega); rw [hDt] at this; exact this)
        have HM := Lib.hid hm
        have HQ := Lib.hid hq
        have HS := Lib.hid hsep
        have HR := Lib.hid hroom
        clear hm hq hsep hroom hd hDt
        go_enter Tryz.func101, Tryz.ntmps101
        go_wp2_with (fail)
        with_reducible refine (pDegree_any _ _ (by omega) (by omega)).mono ?_
        rintro e w0 ⟨rfl, rfl⟩
        rw [hD]
        clear hD
        go_wp2_with (fail)
        go_loopw [6, 7, 33] (fun kv cv iv wr => LayLoop B b v C size odd ref f D (some ad) l w kv cv iv wr) (fun _ _ iv _ => D - (intOf iv).toNat)
        case atStart =>
          unfold LayLoop
          exact ⟨0, by omega, rfl, ⟨World.ownsRow_nil _ _ _ _, World.ownsRow_nil _ _ _ _, ⟨v, count, HM.out, RowNew.refl _ _, fun g hg => by simp [Value.ownBlock] at hg, fun g hg => by simp [Value.ownBlock] at hg⟩, .inl rfl, Chg.refl _ _⟩⟩
        case round =>
          obtain ⟨i, i1, rfl, hrel⟩ := hrel
          by_cases hlt : i < D
          · obtain ⟨p1, p2, p3, p4, p5⟩ := part_len (l := l) h2 hl (i := i) (by rw [HD.out]; omega)
            obtain ⟨F, hF⟩ : ∃ F : Nat, fromI l.length i = F := ⟨(fromI l.length i).toNat, by omega⟩
            obtain ⟨Z, hZ⟩ : ∃ Z : Nat, sizeI l.length i = Z := ⟨(sizeI l.length i).toNat, by omega⟩
            have HREL := Lib.hid hrel
            have HFE := Lib.hid hF
            have HZE := Lib.hid hZ
            clear hrel
            go_wp2_with (fail)
            with_reducible refine (pFrom_any _ _ _ (by omega) (by omega)).mono ?_
            rintro e w1 ⟨rfl, hdr⟩
            rw [hF]
            rw [hF, hZ] at p1 p5
            rw [hZ] at p3 p4
            rw [hF] at p2
            have hbD := drawn_bl hdr wr.heap.size
            obtain ⟨v1, count1, hm1, hv1, hsk1, hsc1⟩ := HREL.out.mem
            have hz1 := HREL.out.chg.size
            have hz2 := hbD.size
            have HM1 := Lib.hid (hm1.below hbD)
            have HK1 := Lib.hid (own_below HREL.out.keys hbD)
            have HW1 := Lib.hid (own_below HREL.out.words hbD)
            have HC1 : Hid (Chg (MemF b v) w w1) := Lib.hid (HREL.out.chg.trans (Chg.of_below hbD))
            have HQ1 : Hid (PairsAt w1 w1.heap.size (some ad) l) := Lib.hid ((HQ.out.chg HC1.out (Nat.le_refl _) HS.out).more (show w.heap.size ≤ w1.heap.size by omega))
            have HDJ := Lib.hid HREL.out.dj
            have HV1 := Lib.hid hv1
            have HSK1 := Lib.hid hsk1
            have HSC1 := Lib.hid hsc1
            clear hv1 hsk1 hsc1
            have hF0 : ¬ c = F := by omega
            clear hdr hbD hm1 hz2 HREL hF hZ
            have hb0 : w.heap.size ≤ w1.heap.size := HC1.out.size
            clear hz1
            by_cases hiz : i = 0
            · subst hiz
              have HK2 : Hid (w1.ownsRow w.heap.size 2 1 u6 (keysTo l (0 + 1)).length ((keysTo l (0 + 1)).map (Value.int .i64))) := HK1
              go_wp2_with (fail)
              with_reducible refine (pSize_any _ _ _ (by omega) (by omega) (by omega) (by omega)).mono ?_
              rintro e wz ⟨rfl, rfl⟩
              rw [show sizeI l.length 0 = Z from HZE.out]
              have hFZ : (F : Int) + (Z : Int) ≤ c := by omega
              have hQp : PairsAt w1 w1.heap.size (some (ad.add (F * 2))) ((l.drop F).take Z) := by
                have h1 := HQ1.out.cut (n := F) (by omega)
                have h2 : PairsAt w1 w1.heap.size (some (ad.add (F * 2))) (l.drop F) := by unfold PairsAt; rw [List.length_drop]; exact h1
                have h3 := h2.take (n := Z) (by rw [List.length_drop]; omega)
                unfold PairsAt
                rw [show ((l.drop F).take Z).length = Z by rw [List.length_take, List.length_drop]; omega]
                exact h3
              have HQP := Lib.hid hQp
              have hpl : ((l.drop F).take Z).length = Z := by rw [List.length_take, List.length_drop]; omega
              have HPL := Lib.hid hpl
              have hroom2 : (((layTo (layF f) C l 0).1.length : Int)) + cellsI Z ≤ size := by
                have := HR.out
                have h1 := (HCL.out 0 (by omega)).1
                have h2 := (HCL.out (0 + 1) (by omega)).2
                have h3 := HCE.out
                have e0 : cellsTo l.length (0 + 1) = cellsTo l.length 0 + cellsI (sizeI l.length ((0 : Nat) : Int)) := rfl
                rw [e0, show sizeI l.length ((0 : Nat) : Int) = Z from HZE.out] at h2
                omega
              have HRO := Lib.hid hroom2
              have hsepA : Apart (some (ad.add (F * 2))) b v1 := fun a ha hx => by
                injection ha with ha
                subst ha
                rw [block_of_add] at hx
                rcases HV1.out.memF hx with h | h
                · exact HS.out ad rfl h
                · omega
              have HSA := Lib.hid hsepA
              clear hQp hpl hroom2 hsepA
              go_wp2_with (fail)
              with_reducible refine (lay_any B b size odd ref hs2 f v1 _ count1 _ (c - F) Z ((l.drop F).take Z) _ HPL.out.symm (by rw [HPL.out]; omega) (by rw [HPL.out]; omega) HM1.out HQP.out (by rw [HPL.out]; omega) HSA.out (by rw [HPL.out]; exact HRO.out)).mono ?_
              rintro e w5 ⟨rfl, v5, count5, hm5, hc5, hv5⟩
              have hFt : (fromI l.length ((0 : Nat) : Int)).toNat = F := by rw [HFE.out]; omega
              have hZt : (sizeI l.length ((0 : Nat) : Int)).toNat = Z := by rw [HZE.out]; omega
              have HT : Hid (layTo (layF f) C l (0 + 1) = ((layF f (layTo (layF f) C l 0).1 ((l.drop F).take Z)).1, (layTo (layF f) C l 0).2 ++ [(layF f (layTo (layF f) C l 0).1 ((l.drop F).take Z)).2])) := Lib.hid (by simp only [layTo]; rw [hFt, hZt])
              have hz5 := hc5.size
              have HM5 : Hid (MemP B b v5 (layTo (layF f) C l (0 + 1)).1 size count5 odd ref w5) := Lib.hid (by rw [HT.out]; exact hm5)
              have HK5 := Lib.hid (hc5.own HK2.out (fun g hg hx => HSK1.out g hg hx))
              have HW5 := Lib.hid (hc5.own HW1.out (fun g hg hx => HSC1.out g hg hx))
              have HC5 : Hid (Chg (MemF b v) w w5) := Lib.hid (HC1.out.grow hc5 (fun x hx => HV1.out.memF hx))
              have HV5 : Hid (RowNew v v5 w.heap.size) := Lib.hid (HV1.out.trans hv5 (by have := HC1.out.size; omega))
              have HSK5 : Hid (Sep u6 b v5) := Lib.hid (fun g hg hx => by
                rcases hv5.memF hx with h | h
                · exact HSK1.out g hg h
                · have := own_lt HK2.out g hg; omega)
              have HSC5 : Hid (Sep u7 b v5) := Lib.hid (fun g hg hx => by
                rcases hv5.memF hx with h | h
                · exact HSC1.out g hg h
                · have := own_lt HW1.out g hg; omega)
              clear hm5 hc5 hv5 HQP HPL HRO HSA hFt hZt
              obtain ⟨x5, hx5⟩ : ∃ x5, (layF f (layTo (layF f) C l 0).1 ((l.drop F).take Z)).2 = x5 := ⟨_, rfl⟩
              rw [hx5] at HT ⊢
              clear hx5
              have ha := (Below.refl w5.heap.size w5).alloc (Nat.le_refl _) (.cells #[.int .i64 x5] 2)
              have hr6 := reads_one w5 2 (.int .i64 x5)
              have hs6 : (w5.alloc (.cells #[.int .i64 x5] 2)).heap.size = w5.heap.size + 1 := by simp
              have HM6 := Lib.hid (HM5.out.below ha)
              have HK6 := Lib.hid (own_below HK5.out ha)
              have HW6 := Lib.hid (own_below HW5.out ha)
              have HC6 : Hid (Chg (MemF b v) w (w5.alloc (.cells #[.int .i64 x5] 2))) := Lib.hid (HC5.out.trans (Chg.of_below ha))
              have hw5 := HC5.out.size
              have HS6 := Lib.hid hs6
              have HR6 := Lib.hid hr6
              clear hs6 hr6
              clear ha HM5
              have HCN := Lib.hid (layTo_words (lay := layF f) (C := C) (l := l) 0)
              go_wp2_with (at_builtin; refine wpList_append_any _ rfl _ _ 22 rfl w.heap.size 2 i0 (.int .i64 0) 1 8 Tryz.underlying22 hi0 hz0 hz1 hz2 rfl (by decide) u7 _ _ rfl HW6.out (w5.heap.size + 1) (some ⟨w5.heap.size, 0, none⟩) 1 1 [Value.int .i64 x5] rfl HR6.out (one_of _ rfl) ?p1 ?p2 ?p3 ?_; (case p1 => (have := HCN.out; unfold maxLen; omega)); (case p2 => (have := HCN.out; omega)); (case p3 => (have := HC6.out.size; exact this)); intro u8 w7 hO7 hg7 hvb7)
              have hc7 := Chg.of_grown hg7
              have HM7 := Lib.hid (HM6.out.chg hc7 (fun e => HSC5.out _ e (.inl rfl)) (fun g hg e => HSC5.out g e (.inr hg)))
              have HK7 := Lib.hid (hc7.own HK6.out (fun g hg e => by
                rcases HDJ.out with h | h
                · rw [h] at hg; cases hg
                · exact h (hg.trans e.symm)))
              have HC7 : Hid (Chg (MemF b v) w w7) := Lib.hid (HC6.out.grow hc7 (fun x hx => .inr (HW6.out.lt x hx).1))
              have HDJ7 : Hid (u6.ownBlock = none ∨ u6.ownBlock ≠ u8.ownBlock) := Lib.hid (by
                rcases hvb7 with h | h
                · rw [h]; exact HDJ.out
                · rw [h]
                  right
                  intro e
                  have := own_lt HK6.out _ e
                  omega)
              have HSC7 : Hid (Sep u8 b v5) := Lib.hid (fun g hg hx => by
                rcases hvb7 with h | h
                · exact HSC5.out g (h ▸ hg) hx
                · rw [h] at hg
                  injection hg with hg
                  rcases hx with hx | hx
                  · have := HM6.out.blk.lt; omega
                  · have := own_lt HM6.out.own g hx; omega)
              have HW7 : Hid (w7.ownsRow w.heap.size 2 1 u8 (layTo (layF f) C l (0 + 1)).2.length ((layTo (layF f) C l (0 + 1)).2.map (Value.int .i64))) := Lib.hid (by
                rw [HT.out]
                simp only [List.length_append, List.map_append, List.length_cons, List.length_nil, List.map_cons, List.map_nil]
                exact hO7)
              clear hg7 hvb7 hO7 hc7
              go_wp2_with (fail)
              go_roundw
              case rel =>
                unfold LayLoop
                exact ⟨0 + 1, by omega, by rfl, ⟨HK7.out, HW7.out, ⟨v5, count5, HM7.out, HV5.out, HSK5.out, HSC7.out⟩, HDJ7.out, HC7.out⟩⟩
              case measure => simp [intOf]; omega
            · obtain ⟨j, rfl⟩ : ∃ j, i = j + 1 := ⟨i - 1, by omega⟩
              obtain ⟨adk, hadk, hk1, hk2⟩ := HQ1.out.key (by omega)
              injection hadk with hadk
              subst hadk
              have ck : w1.cell? (ad.add (F * 2)) = some (.int .i64 (pkey l F)) := hk2 F (by omega)
              obtain ⟨x1, hx1⟩ : ∃ x1, pkey l F = x1 := ⟨_, rfl⟩
              rw [hx1] at ck
              have HX1 := Lib.hid hx1
              clear hx1 hk2 hk1
              have ha := (Below.refl w1.heap.size w1).alloc (Nat.le_refl _) (.cells #[.int .i64 x1] 2)
              have hs2' : (w1.alloc (.cells #[.int .i64 x1] 2)).heap.size = w1.heap.size + 1 := by simp
              have HR2 := Lib.hid (reads_one w1 2 (.int .i64 x1))
              have HM2 := Lib.hid (HM1.out.below ha)
              have HKa := Lib.hid (own_below HK1.out ha)
              have HW2 := Lib.hid (own_below HW1.out ha)
              have HC2 : Hid (Chg (MemF b v) w (w1.alloc (.cells #[.int .i64 x1] 2))) := Lib.hid (HC1.out.trans (Chg.of_below ha))
              have HS2 := Lib.hid hs2'
              clear hs2'
              clear ha
              have HKN := Lib.hid (keysTo_len l j)
              have hFl : (F : Int) < l.length := by omega
              go_wp2_with (at_builtin; refine wpList_append_any _ rfl _ _ 22 rfl w.heap.size 2 i0 (.int .i64 0) 1 8 Tryz.underlying22 hi0 hz0 hz1 hz2 rfl (by decide) u6 _ _ rfl HKa.out (w1.heap.size + 1) (some ⟨w1.heap.size, 0, none⟩) 1 1 [Value.int .i64 x1] rfl HR2.out (one_of _ rfl) ?p1 ?p2 ?p3 ?_; (case p1 => (have := HKN.out; unfold maxLen; omega)); (case p2 => (have := HKN.out; omega)); (case p3 => (have := HC2.out.size; exact this)); intro u9k w3 hO3 hg3 hvb3)
              have hc3 := Chg.of_grown hg3
              have HM3 := Lib.hid (HM2.out.chg hc3 (fun e => HSK1.out _ e (.inl rfl)) (fun g hg e => HSK1.out g e (.inr hg)))
              have HW3 := Lib.hid (hc3.own HW2.out (fun g hg e => by
                rcases HDJ.out with h | h
                · rw [h] at e; cases e
                · exact h (e.trans hg.symm)))
              have HC3 : Hid (Chg (MemF b v) w w3) := Lib.hid (HC2.out.grow hc3 (fun x hx => .inr (HKa.out.lt x hx).1))
              have HDJ3 : Hid (u9k.ownBlock = none ∨ u9k.ownBlock ≠ u7.ownBlock) := Lib.hid (by
                rcases hvb3 with h | h
                · rw [h]; exact HDJ.out
                · rw [h]
                  right
                  intro e
                  have := own_lt HW2.out _ e.symm
                  omega)
              have HSK3 : Hid (Sep u9k b v1) := Lib.hid (fun g hg hx => by
                rcases hvb3 with h | h
                · exact HSK1.out g (h ▸ hg) hx
                · rw [h] at hg
                  injection hg with hg
                  rcases hx with hx | hx
                  · have := HM2.out.blk.lt; omega
                  · have := own_lt HM2.out.own g hx; omega)
              have HK3 : Hid (w3.ownsRow w.heap.size 2 1 u9k (keysTo l (j + 1 + 1)).length ((keysTo l (j + 1 + 1)).map (Value.int .i64))) := Lib.hid (by
                have e1 : keysTo l (j + 1 + 1) = keysTo l (j + 1) ++ [x1] := by
                  show keysTo l (j + 1) ++ [pkey l (fromI l.length ((j + 1 : Nat) : Int)).toNat] = _
                  rw [show (fromI l.length ((j + 1 : Nat) : Int)).toNat = F by rw [HFE.out]; omega, HX1.out]
                rw [e1]
                simp only [List.length_append, List.map_append, List.length_cons, List.length_nil, List.map_cons, List.map_nil]
                exact hO3)
              have HQ3 : Hid (PairsAt w3 w3.heap.size (some ad) l) := Lib.hid ((HQ.out.chg HC3.out (Nat.le_refl _) HS.out).more HC3.out.size)
              have hb3 : w.heap.size ≤ w3.heap.size := HC3.out.size
              clear hg3 hvb3 hO3 hc3 HM1 HK1 HW1 HC1 HQ1 HM2 HKa HW2 HC2 HR2 HS2 HDJ HSK1 hb0 ck
              go_wp2_with (fail)
              with_reducible refine (pSize_any _ _ _ (by omega) (by omega) (by omega) (by omega)).mono ?_
              rintro e wz ⟨rfl, rfl⟩
              rw [show sizeI l.length ((j : Int) + 1) = Z by have := HZE.out; rw [show ((j + 1 : Nat) : Int) = (j : Int) + 1 by omega] at this; exact this]
              have hFZ : (F : Int) + (Z : Int) ≤ c := by omega
              have hQp : PairsAt w3 w3.heap.size (some (ad.add (F * 2))) ((l.drop F).take Z) := by
                have h1 := HQ3.out.cut (n := F) (by omega)
                have h2 : PairsAt w3 w3.heap.size (some (ad.add (F * 2))) (l.drop F) := by unfold PairsAt; rw [List.length_drop]; exact h1
                have h3 := h2.take (n := Z) (by rw [List.length_drop]; omega)
                unfold PairsAt
                rw [show ((l.drop F).take Z).length = Z by rw [List.length_take, List.length_drop]; omega]
                exact h3
              have HQP := Lib.hid hQp
              have hpl : ((l.drop F).take Z).length = Z := by rw [List.length_take, List.length_drop]; omega
              have HPL := Lib.hid hpl
              have hroom2 : (((layTo (layF f) C l (j + 1)).1.length : Int)) + cellsI Z ≤ size := by
                have := HR.out
                have h1 := (HCL.out (j + 1) (by omega)).1
                have h2 := (HCL.out ((j + 1) + 1) (by omega)).2
                have h3 := HCE.out
                have e0 : cellsTo l.length ((j + 1) + 1) = cellsTo l.length (j + 1) + cellsI (sizeI l.length (((j + 1) : Nat) : Int)) := rfl
                rw [e0, show sizeI l.length (((j + 1) : Nat) : Int) = Z from HZE.out] at h2
                omega
              have HRO := Lib.hid hroom2
              have hsepA : Apart (some (ad.add (F * 2))) b v1 := fun a ha hx => by
                injection ha with ha
                subst ha
                rw [block_of_add] at hx
                rcases HV1.out.memF hx with h | h
                · exact HS.out ad rfl h
                · omega
              have HSA := Lib.hid hsepA
              clear hQp hpl hroom2 hsepA
              go_wp2_with (fail)
              with_reducible refine (lay_any B b size odd ref hs2 f v1 _ count1 _ (c - F) Z ((l.drop F).take Z) _ HPL.out.symm (by rw [HPL.out]; omega) (by rw [HPL.out]; omega) HM3.out HQP.out (by rw [HPL.out]; omega) HSA.out (by rw [HPL.out]; exact HRO.out)).mono ?_
              rintro e w5 ⟨rfl, v5, count5, hm5, hc5, hv5⟩
              have hFt : (fromI l.length (((j + 1) : Nat) : Int)).toNat = F := by rw [HFE.out]; omega
              have hZt : (sizeI l.length (((j + 1) : Nat) : Int)).toNat = Z := by rw [HZE.out]; omega
              have HT : Hid (layTo (layF f) C l ((j + 1) + 1) = ((layF f (layTo (layF f) C l (j + 1)).1 ((l.drop F).take Z)).1, (layTo (layF f) C l (j + 1)).2 ++ [(layF f (layTo (layF f) C l (j + 1)).1 ((l.drop F).take Z)).2])) := Lib.hid (by simp only [layTo]; rw [hFt, hZt])
              have hz5 := hc5.size
              have HM5 : Hid (MemP B b v5 (layTo (layF f) C l ((j + 1) + 1)).1 size count5 odd ref w5) := Lib.hid (by rw [HT.out]; exact hm5)
              have HK5 := Lib.hid (hc5.own HK3.out (fun g hg hx => HSK3.out g hg hx))
              have HW5 := Lib.hid (hc5.own HW3.out (fun g hg hx => HSC1.out g hg hx))
              have HC5 : Hid (Chg (MemF b v) w w5) := Lib.hid (HC3.out.grow hc5 (fun x hx => HV1.out.memF hx))
              have HV5 : Hid (RowNew v v5 w.heap.size) := Lib.hid (HV1.out.trans hv5 (by have := HC3.out.size; omega))
              have HSK5 : Hid (Sep u9k b v5) := Lib.hid (fun g hg hx => by
                rcases hv5.memF hx with h | h
                · exact HSK3.out g hg h
                · have := own_lt HK3.out g hg; omega)
              have HSC5 : Hid (Sep u7 b v5) := Lib.hid (fun g hg hx => by
                rcases hv5.memF hx with h | h
                · exact HSC1.out g hg h
                · have := own_lt HW3.out g hg; omega)
              clear hm5 hc5 hv5 HQP HPL HRO HSA hFt hZt
              obtain ⟨x5, hx5⟩ : ∃ x5, (layF f (layTo (layF f) C l (j + 1)).1 ((l.drop F).take Z)).2 = x5 := ⟨_, rfl⟩
              rw [hx5] at HT ⊢
              clear hx5
              have ha := (Below.refl w5.heap.size w5).alloc (Nat.le_refl _) (.cells #[.int .i64 x5] 2)
              have hr6 := reads_one w5 2 (.int .i64 x5)
              have hs6 : (w5.alloc (.cells #[.int .i64 x5] 2)).heap.size = w5.heap.size + 1 := by simp
              have HM6 := Lib.hid (HM5.out.below ha)
              have HK6 := Lib.hid (own_below HK5.out ha)
              have HW6 := Lib.hid (own_below HW5.out ha)
              have HC6 : Hid (Chg (MemF b v) w (w5.alloc (.cells #[.int .i64 x5] 2))) := Lib.hid (HC5.out.trans (Chg.of_below ha))
              have hw5 := HC5.out.size
              have HS6 := Lib.hid hs6
              have HR6 := Lib.hid hr6
              clear hs6 hr6
              clear ha HM5
              have HCN := Lib.hid (layTo_words (lay := layF f) (C := C) (l := l) (j + 1))
              go_wp2_with (at_builtin; refine wpList_append_any _ rfl _ _ 22 rfl w.heap.size 2 i0 (.int .i64 0) 1 8 Tryz.underlying22 hi0 hz0 hz1 hz2 rfl (by decide) u7 _ _ rfl HW6.out (w5.heap.size + 1) (some ⟨w5.heap.size, 0, none⟩) 1 1 [Value.int .i64 x5] rfl HR6.out (one_of _ rfl) ?p1 ?p2 ?p3 ?_; (case p1 => (have := HCN.out; unfold maxLen; omega)); (case p2 => (have := HCN.out; omega)); (case p3 => (have := HC6.out.size; exact this)); intro u8 w7 hO7 hg7 hvb7)
              have hc7 := Chg.of_grown hg7
              have HM7 := Lib.hid (HM6.out.chg hc7 (fun e => HSC5.out _ e (.inl rfl)) (fun g hg e => HSC5.out g e (.inr hg)))
              have HK7 := Lib.hid (hc7.own HK6.out (fun g hg e => by
                rcases HDJ3.out with h | h
                · rw [h] at hg; cases hg
                · exact h (hg.trans e.symm)))
              have HC7 : Hid (Chg (MemF b v) w w7) := Lib.hid (HC6.out.grow hc7 (fun x hx => .inr (HW6.out.lt x hx).1))
              have HDJ7 : Hid (u9k.ownBlock = none ∨ u9k.ownBlock ≠ u8.ownBlock) := Lib.hid (by
                rcases hvb7 with h | h
                · rw [h]; exact HDJ3.out
                · rw [h]
                  right
                  intro e
                  have := own_lt HK6.out _ e
                  omega)
              have HSC7 : Hid (Sep u8 b v5) := Lib.hid (fun g hg hx => by
                rcases hvb7 with h | h
                · exact HSC5.out g (h ▸ hg) hx
                · rw [h] at hg
                  injection hg with hg
                  rcases hx with hx | hx
                  · have := HM6.out.blk.lt; omega
                  · have := own_lt HM6.out.own g hx; omega)
              have HW7 : Hid (w7.ownsRow w.heap.size 2 1 u8 (layTo (layF f) C l ((j + 1) + 1)).2.length ((layTo (layF f) C l ((j + 1) + 1)).2.map (Value.int .i64))) := Lib.hid (by
                rw [HT.out]
                simp only [List.length_append, List.map_append, List.length_cons, List.length_nil, List.map_cons, List.map_nil]
                exact hO7)
              clear hg7 hvb7 hO7 hc7
              go_wp2_with (fail)
              go_roundw
              case rel =>
                unfold LayLoop
                exact ⟨(j + 1) + 1, by omega, by go_num, ⟨HK7.out, HW7.out, ⟨v5, count5, HM7.out, HV5.out, HSK5.out, HSC7.out⟩, HDJ7.out, HC7.out⟩⟩
              case measure => simp [intOf]; omega
          · have hiD : i = D := by omega
            subst hiD
            obtain ⟨v1, count1, hm1, hv1, hsk1, hsc1⟩ := hrel.mem
            obtain ⟨A6, c6, rfl⟩ := own_shape hrel.keys
            obtain ⟨A7, c7, rfl⟩ := own_shape hrel.words
            obtain ⟨D', hD'⟩ : ∃ D', i = D' + 1 := ⟨i - 1, by omega⟩
            have HKN : Hid ((keysTo l i).length + 1 = i) := Lib.hid (by rw [hD', keysTo_len])
            have HCN := Lib.hid (layTo_words (lay := layF f) (C := C) (l := l) i)
            have HKI : Hid (IntsAt wr wr.heap.size A6 (keysTo l i)) := Lib.hid (Reads.of_own hrel.keys)
            have HWI : Hid (IntsAt wr wr.heap.size A7 (layTo (layF f) C l i).2) := Lib.hid (Reads.of_own hrel.words)
            have hle := (HCL.out i (by omega)).1
            have hce := HCE.out
            have hrr := HR.out
            have HC1 := Lib.hid hrel.chg
            have HM1 := Lib.hid hm1
            have HV1 := Lib.hid hv1
            have hz1 := hrel.chg.size
            have hblt : b < wr.heap.size := hm1.blk.lt
            clear hrel hm1 hv1 hsk1 hsc1 hD'
            go_wp2_with (fail)
            with_reducible refine (innerW_any _ A6 c6 (keysTo l i) A7 c7 (layTo (layF f) C l i).2 _ _ _ rfl rfl HKI.out HWI.out (by have := HKN.out; have := HCN.out; omega) (by have := HKN.out; omega)).mono ?_
            rintro e w2 ⟨v2, rfl, hO2, hb2⟩
            have HM2 := Lib.hid (HM1.out.below hb2)
            have HB2 := Lib.hid hb2
            have hin : [((layTo (layF f) C l i).2.length : Int), (l.length : Int), 0, 0, 0] ++ keysTo l i ++ (layTo (layF f) C l i).2 = innerW l.length (keysTo l i) (layTo (layF f) C l i).2 := rfl
            rw [hin] at hO2
            clear hin
            have hil : (innerW l.length (keysTo l i) (layTo (layF f) C l i).2).length = 2 * i + 4 := by
              have := HKN.out; have := HCN.out; unfold innerW; simp only [List.length_append, List.length_cons, List.length_nil]; omega
            obtain ⟨A2, c2, rfl⟩ := own_shape hO2
            have HQ2 : Hid (IntsAt w2 w2.heap.size A2 (innerW l.length (keysTo l i) (layTo (layF f) C l i).2)) := Lib.hid (Reads.of_own hO2)
            have hA2 : ∀ ad, A2 = some ad → ad.block ≠ b := fun a ha => by
              subst ha
              have := (hO2.lt a.block rfl).1
              omega
            have HA2 := Lib.hid hA2
            have HIL := Lib.hid hil
            clear hO2 hb2 HKI HWI hA2 hil
            generalize innerW l.length (keysTo l i) (layTo (layF f) C l i).2 = iw at HQ2 HL HIL ⊢
            go_wp2_with (fail)
            with_reducible refine (made_ok B b v1 _ size count1 odd ref 3 _ HM2.out hs2 A2 c2 iw _ rfl HQ2.out HA2.out (by rw [HIL.out]; omega) (by rw [HIL.out]; omega)).mono ?_
            rintro e w3 ⟨rfl, v3, hm3, hc3, hv3⟩
            have HM3 := Lib.hid hm3
            have HC3 : Hid (Chg (MemF b v) w w3) := Lib.hid ((HC1.out.trans (Chg.of_below HB2.out)).grow hc3 (fun x hx => HV1.out.memF hx))
            have HV3 : Hid (RowNew v v3 w.heap.size) := Lib.hid (HV1.out.trans hv3 (by have := HB2.out.size; omega))
            clear hm3 hc3 hv3 HM2 HB2 HQ2 HM1 HC1
            go_wp2_with (fail)
            go_ret
            unfold LayPost
            rw [HL.out]
            exact ⟨rfl, v3, _, HM3.out, HC3.out, HV3.out⟩
/-- Strictly ascending keys. -/
def AscP (l : List (Int × Int)) : Prop := ∀ i, i + 1 < l.length → pkey l i < pkey l (i + 1)
set_option maxHeartbeats 1000000 in
theorem plantRight_any (A : Option Addr) (c N : Nat) (l : List (Int × Int)) (w : World) (hN : N = l.length) (hq : PairsAt w w.heap.size A l) (hl : l.length ≤ 16384) (ha : AscP l) :
    Calls Tryz.prog 99 #[.slice A N c] w fun e w' => e = .returned (.bool true) ∧ Drawn w w' := by
  subst hN
  have HQ := Lib.hid hq
  have HA := Lib.hid ha
  clear hq ha
  go_enter Tryz.func99, Tryz.ntmps99
  go_wp2_with (fail)
  go_loopw [3] (fun v wr => ∃ (i m : Nat), 1 ≤ i ∧ (i ≤ l.length ∨ i = 1) ∧ v = .int .i64 i ∧ wr = w.drewN m) (fun v _ => l.length - (intOf v).toNat)
  case atStart => exact ⟨1, 0, by omega, .inr rfl, rfl, rfl⟩
  case round =>
    obtain ⟨i, m, i0, i1, rfl, rfl⟩ := hrel
    by_cases hlt : i < l.length
    · obtain ⟨j, rfl⟩ : ∃ j, i = j + 1 := ⟨i - 1, by omega⟩
      obtain ⟨ad, rfl, _, hc⟩ := HQ.out.key (by omega)
      have k1 := hc j (by omega)
      have k2 := hc (j + 1) hlt
      have hk := HA.out j hlt
      have e1 : (j : Int) + 1 - 1 = j := by omega
      generalize pkey l j = x at k1 hk
      generalize pkey l (j + 1) = y at k2 hk
      clear hc i1
      have k2' : w.cell? (ad.add (j * 2 + 2)) = some (.int .i64 y) := by rw [show (j + 1) * 2 = j * 2 + 2 by omega] at k2; exact k2
      have hlt2 : (j : Int) + 1 < l.length := by omega
      have hk2 : ¬ y ≤ x := by omega
      go_wp2_with (fail)
      go_quiet (fail)
      go_wp2_with (fail)
      go_roundw
      case rel => exact ⟨j + 1 + 1, _, by omega, .inl (by omega), by go_num, rfl⟩
      case measure => simp [intOf]; omega
    · have hle : (l.length : Int) ≤ 16384 := by omega
      have hlt2 : ¬ (i : Int) < l.length := by omega
      go_wp2_with (fail)
      go_ret
      exact ⟨rfl, Drawn.of _ _⟩
set_option maxHeartbeats 1000000 in
/-- Build, where there is room: the tree's cells behind the ones that are, its word. -/
theorem build_any (B b : Nat) (v : Value) (C : List Int) (size count odd ref : Int) (A : Option Addr) (c N : Nat) (l : List (Int × Int)) (w : World) (hN : N = l.length) (hs2 : size ≤ 65536) (hm : MemP B b v C size count odd ref w) (hq : PairsAt w w.heap.size A l) (hl : l.length ≤ 16384) (hc : l.length ≤ c) (ha : AscP l) (hsep : Apart A b v) (hroom : (C.length : Int) + cellsI l.length ≤ size) :
    Calls Tryz.prog 39 #[.pointer (some ⟨b, 0, none⟩), .slice A N c] w fun e w' => e = .returned (.tuple #[.int .i64 (layF (l.length + 1) C l).2, .bool true]) ∧ ∃ v' count', MemP B b v' (layF (l.length + 1) C l).1 size count' odd ref w' ∧ Chg (MemF b v) w w' ∧ RowNew v v' w.heap.size := by
  subst hN
  have hcb := cellsI_abs l.length
  have hle : ¬ size - (C.length : Int) < cellsI l.length := by omega
  have HM := Lib.hid hm
  have HQ := Lib.hid hq
  have HA := Lib.hid ha
  have HS := Lib.hid hsep
  have HR := Lib.hid hroom
  clear hm hq ha hsep hroom
  go_enter Tryz.func39, Tryz.ntmps39
  go_wp2_with (fail)
  with_reducible refine (plantRight_any A c l.length l _ rfl HQ.out hl HA.out).mono ?_
  rintro e w1 ⟨rfl, hd⟩
  have hb1 := drawn_bl hd w.heap.size
  go_wp2_with (fail)
  with_reducible refine (pCells_any _ _ (by omega) (by omega)).mono ?_
  rintro e w2 ⟨rfl, hd2⟩
  have hb2 := hb1.trans (drawn_bl hd2 _)
  have HM2 := Lib.hid (HM.out.below hb2)
  have HQ2 : Hid (PairsAt w2 w2.heap.size A l) := Lib.hid ((HQ.out.below hb2).more hb2.size)
  have HB2 := Lib.hid hb2
  clear hd hd2 hb1 hb2 HM HQ
  go_wp2_with (fail)
  with_reducible refine (size_any B b v C size count odd ref _ HM2.out).mono ?_
  rintro e w3 ⟨rfl, rfl⟩
  go_wp2_with (fail)
  with_reducible refine (used_any B b v C size count odd ref _ HM2.out).mono ?_
  rintro e w3 ⟨rfl, rfl⟩
  go_wp2_with (fail)
  with_reducible refine (lay_any B b size odd ref hs2 (l.length + 1) v C count A c l.length l _ rfl (by omega) hl HM2.out HQ2.out hc HS.out HR.out).mono ?_
  rintro e w3 ⟨rfl, v3, count3, hm3, hc3, hv3⟩
  have HM3 := Lib.hid hm3
  have HC3 : Hid (Chg (MemF b v) w w3) := Lib.hid ((Chg.of_below HB2.out).trans hc3)
  have HV3 : Hid (RowNew v v3 w.heap.size) := Lib.hid ((RowNew.refl v w.heap.size).trans hv3 HB2.out.size)
  clear hm3 hc3 hv3
  go_wp2_with (fail)
  go_ret2
  exact ⟨rfl, v3, count3, HM3.out, HC3.out, HV3.out⟩
end Go.Proofs.YtblajeildolloaaGreat

/- The walk of SeekKnown. -/
namespace Go.Proofs.YtblajeildolloaaGreat
set_option linter.unusedVariables false
set_option linter.unusedSimpArgs false
open Go.RowKit

theorem ints5_any (f : FuncId) : True := trivial
/-- A memory by its cells alone. -/
def MemC (b : Nat) (C : List Int) (size : Int) (w : World) : Prop := ∃ v count odd, MemP b b v C size count odd 0 w
theorem MemC.below {b : Nat} {C : List Int} {size : Int} {w w' : World} (h : MemC b C size w) (hb : Below w.heap.size w w') : MemC b C size w' := by
  obtain ⟨v, c, o, h⟩ := h; exact ⟨v, c, o, h.below hb⟩
theorem MemC.lt {b : Nat} {C : List Int} {size : Int} {w : World} (h : MemC b C size w) : b < w.heap.size := by
  obtain ⟨v, c, o, h⟩ := h; exact h.blk.lt
theorem MemP.low {B b : Nat} {v : Value} {C : List Int} {size count odd ref : Int} {w w' : World} (h : MemP B b v C size count odd ref w) (m : Chg (MemF b v) w w') : Below B w w' :=
  m.below (fun x hx => by
    rcases hx with e | e
    · rw [e]; exact h.base
    · exact (h.own.lt x e).1) (by have := h.base; have := h.blk.lt; omega)
def MakeCPost (b : Nat) (C : List Int) (size : Int) (q : List Int) (w : World) (e : Ending) (w' : World) : Prop := e = .returned (.tuple #[.int .i64 ((C.length : Int) + 1), .bool true]) ∧ MemC b (C ++ q) size w' ∧ Below b w w'
theorem makeC_any (b : Nat) (C : List Int) (size : Int) (A : Option Addr) (c N : Nat) (q : List Int) (w : World) (hN : N = q.length) (h : MemC b C size w) (hs2 : size ≤ 65536) (hq : IntsAt w w.heap.size A q) (hA : ∀ ad, A = some ad → ad.block ≠ b) (h0 : 0 < q.length) (h1 : (q.length : Int) ≤ size - C.length) :
    Calls Tryz.prog 80 #[.pointer (some ⟨b, 0, none⟩), .slice A N c] w (MakeCPost b C size q w) := by
  obtain ⟨v, count, odd, h⟩ := h
  exact (make_ok b b v C size count odd 0 w h (by omega) hs2 A c q N hN hq hA h0 h1).mono fun e w' ⟨he, v', hm, m, _⟩ => ⟨he, ⟨v', _, _, hm⟩, h.low (MemF.of_mv m)⟩
def WriteCPost (b : Nat) (C : List Int) (size a x : Int) (w : World) (e : Ending) (w' : World) : Prop := e = .returned (.tuple #[]) ∧ MemC b (wrC C a x) size w' ∧ Below b w w'
theorem writeC_any (b : Nat) (C : List Int) (size a x : Int) (w : World) (h : MemC b C size w) (hC : C.length ≤ 1000000) (a0 : -9223372036854775808 ≤ a) (a1 : a ≤ 9223372036854775807) :
    Calls Tryz.prog 40 #[.pointer (some ⟨b, 0, none⟩), .int .i64 a, .int .i64 x] w (WriteCPost b C size a x w) := by
  obtain ⟨v, count, odd, h⟩ := h
  exact (write_any b b v C size count odd 0 a x w h hC a0 a1).mono fun e w' ⟨he, hm, m⟩ => ⟨he, ⟨v, _, _, hm⟩, h.low (MemF.of_mv m)⟩
theorem atC_any (b : Nat) (C : List Int) (size a : Int) (w : World) (h : MemC b C size w) (hC : C.length ≤ 1000000) (a0 : -9223372036854775808 ≤ a) (a1 : a ≤ 9223372036854775807) :
    Calls Tryz.prog 79 #[.pointer (some ⟨b, 0, none⟩), .int .i64 a] w fun e w' => e = .returned (.int .i64 (rdC C a)) ∧ w = w' := by
  obtain ⟨v, count, odd, h⟩ := h
  exact memAt_any b b v C size count odd 0 a w h hC a0 a1
def StepCPost (b fb lo : Nat) (C : List Int) (size : Int) (s : SS) (w : World) (e : Ending) (w' : World) : Prop := e = .returned (.bool ((s.step (rdC C)).next == 5)) ∧ SeekP (fun x => lo ≤ x) fb (s.step (rdC C)) w' ∧ MemC b C size w' ∧ Below b w w'
/-- Step, of a frame all of whose blocks lie above the memory's. -/
theorem stepC_any (b fb lo : Nat) (C : List Int) (size : Int) (s : SS) (w : World) (h : SeekP (fun x => lo ≤ x) fb s w) (hm : MemC b C size w) (hI : s.Inv) (hlo : b ≤ lo) (hlw : lo ≤ w.heap.size) (hC : C.length ≤ 1000000) (hw : ∀ x ∈ C, -9223372036854775808 ≤ x ∧ x ≤ 9223372036854775807) :
    Calls Tryz.prog 53 #[.pointer (some ⟨fb, 0, none⟩), .pointer (some ⟨b, 0, none⟩)] w (StepCPost b fb lo C size s w) := by
  obtain ⟨v, count, odd, hm⟩ := hm
  exact (stepS_any _ fb b s b v C size count odd 0 w h hm hI hC (bd_of hw)).mono fun e w' ⟨he, h1, h2, h3⟩ => ⟨he, h1.mono (fun x hx => hx.elim id (fun h => by omega)), ⟨v, _, _, h2⟩, h3.below (fun x hx => hx.elim (fun h => by omega) (fun h => by omega)) (by have := hm.blk.lt; omega)⟩
def AskedP (b fb lo : Nat) (C : List Int) (size : Int) (s : SS) (w : World) : Prop := SeekP (fun x => lo ≤ x) fb s w ∧ MemC b C size w
set_option maxRecDepth 100000 in
set_option maxHeartbeats 1000000 in
theorem known16_any (w : World) : Calls Tryz.prog 50 #[] w fun e w' => e = .returned (.bool true) ∧ Below w.heap.size w w' := by
  go_enter Tryz.func50, Tryz.ntmps50
  go_wp2_with (fail)
  with_reducible refine (memNew_any 9 _ (by decide) (by decide)).mono ?_
  rintro e w1 ⟨rfl, hm, hb⟩
  have hB1 := hb
  have HM := Lib.hid hm
  clear hm hb
  obtain ⟨b, hbe⟩ : ∃ b, w.heap.size = b := ⟨_, rfl⟩
  rw [hbe] at HM hB1 ⊢
  go_wp2_with (fail)
  with_reducible refine (begin_any b b 9 0 0 0 _ HM.out (by decide) (by decide)).mono ?_
  rintro e w2 ⟨rfl, v, hm, ho, _⟩
  have hz2 : b < w2.heap.size := by have := hB1.size; have := ho.size; have := HM.out.blk.lt; omega
  have hB2 := hB1.trans (ho.below (B := b) (by simp) (by have := HM.out.blk.lt; omega))
  have HM2 : Hid (MemP b b v beginL 9 2 0 0 w2) := Lib.hid (by rw [show bump (bump 0) = 2 from by kernel_rfl] at hm; exact hm)
  clear hm ho HM hB1
  have HC2 : Hid (MemC b beginL 9 w2) := Lib.hid ⟨v, _, _, HM2.out⟩
  clear HM2
  go_wp2_with (fail)
  with_reducible refine (newS_any 5 _).mono ?_
  rintro e w3 ⟨rfl, hs, hb⟩
  have HC3 := Lib.hid (HC2.out.below hb)
  have HS3 := Lib.hid hs
  have hB3 := hB2.trans (hb.mono (by omega))
  have hz3 := hb.size
  clear hs hb HC2 hB2
  have hbd : ∀ x ∈ beginL, -9223372036854775808 ≤ x ∧ x ≤ 9223372036854775807 := by decide
  have HBD := Lib.hid hbd
  have HI0 := Lib.hid (SS.Inv.init (k := 5) (by decide) (by decide))
  clear hbd
  generalize w2.heap.size = lo at HS3 hz2 hz3 ⊢
  go_wp2_with (fail)
  with_reducible refine (stepC_any b lo lo beginL 9 _ _ HS3.out HC3.out HI0.out (by omega) (by omega) (by decide) HBD.out).mono ?_
  rintro e w4 ⟨rfl, hs, hc, hb⟩
  have es : (SS.init 5).step (rdC beginL) = ⟨1, 5, 1, ⟨6, 1, 5, 1, 1, 0, 0⟩, some (PS.init 6), 0, 0, false⟩ := by kernel_rfl
  have HI4 := Lib.hid (SS.Inv.step HI0.out (rdC_bd (bd_of HBD.out)))
  rw [es] at hs HI4 ⊢
  have HS4 := Lib.hid hs
  have HC4 := Lib.hid hc
  have hB4 := hB3.trans hb
  have hz4 := hb.size
  clear hs hc hb es HS3 HC3 hB3
  go_wp2_with (fail)
  with_reducible refine (stepC_any b lo lo beginL 9 _ _ HS4.out HC4.out HI4.out (by omega) (by omega) (by decide) HBD.out).mono ?_
  rintro e w5 ⟨rfl, hs, hc, hb⟩
  have es : SS.step (rdC beginL) ⟨1, 5, 1, ⟨6, 1, 5, 1, 1, 0, 0⟩, some (PS.init 6), 0, 0, false⟩ = ⟨5, 5, 1, ⟨6, 1, 5, 1, 1, 0, 0⟩, some ⟨3, 6, 0, 57⟩, 7, 0, false⟩ := by kernel_rfl
  rw [es] at hs ⊢
  have HS5 := Lib.hid hs
  have hB5 := hB4.trans hb
  clear hs hc hb es HS4 HC4 hB4
  go_wp2_with (fail)
  with_reducible refine (valueS_any _ _ _ _ HS5.out).mono ?_
  rintro e w6 ⟨rfl, hd⟩
  have HS6 := Lib.hid (HS5.out.below (drawn_bl hd _))
  have hB6 := hB5.trans (drawn_bl hd _)
  clear hd HS5 hB5
  go_wp2_with (fail)
  with_reducible refine (doneS_any _ _ _ _ HS6.out).mono ?_
  rintro e w7 ⟨rfl, rfl⟩
  go_wp2_with (fail)
  go_ret
  exact ⟨rfl, hbe ▸ hB6⟩
/-- The memory ahead of the law's round i. -/
def memB (i : Nat) : List Int := if i = 0 then memK 0 else memK (i - 1)
def KOut (b : Nat) (w0 : World) (iv : Value) (wr : World) : Prop := ∃ i : Nat, i ≤ 3 ∧ iv = .int .i64 (i : Int) ∧ MemC b (memB i) 90 wr ∧ Below b w0 wr
def KMid (b : Nat) (M : List Int) (w0 : World) (kv : Value) (wr : World) : Prop := ∃ k : Nat, k ≤ 5 ∧ kv = .int .i64 (k : Int) ∧ MemC b M 90 wr ∧ Below b w0 wr
def KIn (b fb lo : Nat) (M : List Int) (S : Nat) (st : Nat → SS) (w0 : World) (nv : Value) (wr : World) : Prop := ∃ t : Nat, t < S ∧ nv = .int .i64 (t : Int) ∧ lo ≤ wr.heap.size ∧ SeekP (fun x => lo ≤ x) fb (st t) wr ∧ MemC b M 90 wr ∧ Below b w0 wr
structure Sought (i k : Nat) (M : List Int) (S : Nat) (st : Nat → SS) : Prop where
  zero : st 0 = SS.init k
  step : ∀ t, (st t).step (rdC M) = st (t + 1)
  inv : ∀ t, (st t).Inv
  going : ∀ t, t < S → (st t).next ≠ 5
  done : (st S).next = 5
  there : (st S).there = decide (0 < k ∧ k < 4)
  value : (st S).value = wantK i k
  few : S ≤ 40
  pos : 0 < S
theorem sought {i k : Nat} (hi : i < 3) (hk : k < 5) {M : List Int} (hM : memK i = M) : ∃ S st, Sought i k M S st := by
  obtain ⟨q1, q2, q3, q4, q5, q6⟩ := seekK i hi k hk
  subst hM
  exact ⟨stepsK i k, runK i k, rfl, fun t => rfl, fun t => SS.Inv.it (SS.Inv.init (by omega) (by omega)) (rdC_bd (bd_of (memK_bd i hi))) t, q1, q2, q3, q4, q5, q6⟩
theorem mem01 : wrC (layF (p3L.length + 1) beginL p3L).1 6 179 = memB 0 := by decide +kernel
theorem mem12 : wrC (memB 1 ++ [179, 3, 6, 0, 0]) 6 244 = memK 1 := by decide +kernel
theorem mem23 : wrC (wrC (memB 2 ++ [3, 33] ++ [24, 29, rdC (memB 2 ++ [3, 33]) 29, 282, 0]) 29 301) 41 1 = memK 2 := by decide +kernel
theorem memB_len : (memB 0).length = 29 ∧ (memB 1).length = 29 ∧ (memB 2).length = 34 := by decide +kernel
theorem p3_asc : AscP p3L := fun i hi => by
  have : i = 0 ∨ i = 1 := by simp [p3L] at hi; omega
  rcases this with rfl | rfl <;> decide
end Go.Proofs.YtblajeildolloaaGreat

namespace Go.Proofs.YtblajeildolloaaGreat
set_option linter.unusedVariables false
set_option linter.unusedSimpArgs false
open Go.RowKit
/- The frame of walk: Step where it routes. -/

def PushQ (F : Nat → Prop) (b : Nat) (s : WS) (rv pv prv sv : Value) (x : Int × Int × Int) (w : World) (e : Ending) (w' : World) : Prop :=
  e = .returned (.tuple #[]) ∧ ∃ lv', WalkQ (fun x => F x ∨ w.heap.size ≤ x) b { s with levels := x :: s.levels } rv pv lv' prv sv w' ∧ Chg (fun x => F x) w w'
theorem pushQ_any (F : Nat → Prop) (b : Nat) (s : WS) (rv pv lv prv sv : Value) (n d i : Int) (w : World) (h : WalkQ F b s rv pv lv prv sv w) (hl : s.levels.length ≤ 1000000) :
    Calls Tryz.prog 128 #[.pointer (some ⟨b, 9, none⟩), .agg #[.int .i64 n, .int .i64 d, .int .i64 i]] w (PushQ F b s rv pv prv sv (n, d, i) w) := by
  refine (pushL_any F b 9 181 _ lv n d i s.levels w h.blk (by decide) rfl h.lev hl).mono ?_
  rintro e w' ⟨he, lv', hb, hlv, hc⟩
  refine ⟨he, lv', (h.mono (fun x hx => Or.inl hx)).turned hb hlv hc, hc.mono (fun x hx => ?_)⟩
  rcases hx with rfl | e
  · exact h.fb
  · exact h.lev.2 x e
section
variable {F G : Nat → Prop} {b : Nat} {s : WS} {rv pv lv prv sv : Value} {w w' : World}
/-- What hangs on the frame's block but for its two frames, kept where none but blocks of other kinds has been turned. -/
theorem WalkQ.rows (h : WalkQ F b s rv pv lv prv sv w) (m : Chg G w w') (hG : ∀ x, G x → ∃ t cs, Blk w x t cs ∧ (t = 134 ∨ t = 136 ∨ t = 221)) : Blk w' b 181 #[.int .i64 s.next, .int .i64 s.lo, .int .i64 s.hi, .bool s.back, .bool s.values, .int .i64 s.most, .int .i64 s.n, rv, pv, lv, .int .i64 s.at_, .int .i64 s.key, prv, sv] ∧ LvP F lv s.levels w' ∧ PrP F 52 prv s.pairs w' ∧ PrP F 114 sv s.spots w' := by
  have k : ∀ T : TypeId, 134 ≠ T → 136 ≠ T → 221 ≠ T → ∀ x, G x → ∃ t cs, Blk w x t cs ∧ t ≠ T := fun T h1 h2 h3 x hx => by
    obtain ⟨t, cs, hb, e | e | e⟩ := hG x hx
    · exact ⟨t, cs, hb, by rw [e]; exact h1⟩
    · exact ⟨t, cs, hb, by rw [e]; exact h2⟩
    · exact ⟨t, cs, hb, by rw [e]; exact h3⟩
  refine ⟨m.blk h.blk (fun hg => ?_), h.lev.keep m (k _ (by decide) (by decide) (by decide)), h.prs.keep m (k _ (by decide) (by decide) (by decide)), h.sps.keep m (k _ (by decide) (by decide) (by decide))⟩
  obtain ⟨t, cs, hb, ht⟩ := k 181 (by decide) (by decide) (by decide) b hg
  exact hb.ne_ h.blk ht rfl
end
section
variable (F : Nat → Prop) (b bm : Nat) (s : WS) (B : Nat) (v : Value) (C : List Int) (size count odd ref : Int) (w : World)
variable (h : WalkP F b s w) (hm : MemP B bm v C size count odd ref w) (hO : Off F bm v) (hI : s.Inv) (hC : C.length ≤ 1000000) (hw : ∀ i, i < C.length → -9223372036854775808 ≤ keyAt C i ∧ keyAt C i ≤ 9223372036854775807) (hll : s.levels.length < 1000000)
include h hm hO hI hC hw hll
set_option maxRecDepth 100000 in
set_option maxHeartbeats 1000000 in
theorem stepW0_any (hn : s.next = 0) : Calls Tryz.prog 61 #[.pointer (some ⟨b, 0, none⟩), .pointer (some ⟨bm, 0, none⟩)] w (WSPost F b bm s B v C size count odd ref w) := by
  obtain ⟨rv, pv, lv, prv, sv, h⟩ := h
  obtain ⟨rb, rfl, hFr, hr⟩ := h.route
  have ha := Lib.hid (WS.acc0 hn)
  have c0 : w.cell? ⟨b, 0, none⟩ = some (.int .i64 0) := by rw [← hn]; exact h.blk.cell 0
  have c7 : w.cell? ⟨b, 7, none⟩ = some (.pointer (some ⟨rb, 0, none⟩)) := h.blk.cell 7
  have hrI := hI.rt
  have H := Lib.hid h
  have HM := Lib.hid hm
  have HR := Lib.hid hr
  have HN := Lib.hid hn
  have HO := Lib.hid hO
  clear h hm hr hn hO
  clear hI
  go_enter Tryz.func61, Tryz.ntmps61
  go_wp2_with (fail)
  with_reducible refine (stepR2_any rb bm s.route B v C size count odd ref _ HR.out HM.out hrI hC hw).mono ?_
  rintro e w1 ⟨rfl, hr1, hm1, o1⟩
  have k1 : Chg (fun y => y = rb ∨ y = bm) w w1 := Chg.of_only o1 (by simp)
  obtain ⟨hB1, hl1, hp1, hs1⟩ := H.out.rows k1 (fun y hy => by
    rcases hy with rfl | rfl
    · exact ⟨_, _, HR.out.blk, .inr (.inl rfl)⟩
    · exact ⟨_, _, HM.out.blk, .inl rfl⟩)
  have hk1 : PeekO F pv s.peek w1 := H.out.peek.keep k1 (fun y hy => by
    rcases hy with rfl | rfl
    · exact ⟨_, _, HR.out.blk, by decide⟩
    · exact ⟨_, _, HM.out.blk, by decide⟩)
  have O1 : Hid (Chg (fun x => F x ∨ x = bm) w w1) := Lib.hid (k1.mono (fun y hy => hy.imp (fun e => by rw [e]; exact hFr) id))
  have HM1 := Lib.hid hm1
  obtain ⟨r1, hr1e⟩ : ∃ r1, s.route.step (rdC C) = r1 := ⟨_, rfl⟩
  rw [hr1e] at hr1 ⊢
  have HQ1 : Hid (WalkQ F b { s with route := r1 } (.pointer (some ⟨rb, 0, none⟩)) pv lv prv sv w1) := Lib.hid ⟨H.out.fb, hB1, ⟨rb, rfl, hFr, hr1⟩, hk1, hl1, hp1, hs1⟩
  have HR1 := Lib.hid hr1
  clear k1 o1 hm1 H HM HR c0 c7 hB1 hl1 hp1 hs1 hk1 hr1
  by_cases h6 : r1.next = 6
  · have e6 : (r1.next == 6) = true := by simpa using h6
    have hs := Lib.hid (WS.step0e (R := rdC C) HN.out (by rw [hr1e]; exact h6))
    rw [hr1e] at hs
    have c6 : w1.cell? ⟨b, 6, none⟩ = some (.int .i64 s.n) := HQ1.out.blk.cell 6
    have c7 : w1.cell? ⟨b, 7, none⟩ = some (.pointer (some ⟨rb, 0, none⟩)) := HQ1.out.blk.cell 7
    have HRd : Hid (RouteP rb r1 w1.drew) := Lib.hid HR1.out
    have HQd : Hid (WalkQ F b { s with route := r1 } (.pointer (some ⟨rb, 0, none⟩)) pv lv prv sv w1.drew) := Lib.hid (HQ1.out.below (drawn_bl (Drawn.of w1 1) _))
    rw [e6]
    clear e6 hr1e
    go_wp2_with (fail)
    go_region_held3 (fun w' => w'.cell? ⟨b, 6, none⟩ = some (.int .i64 s.n) ∧ w'.cell? ⟨b, 7, none⟩ = some (.pointer (some ⟨rb, 0, none⟩))) (first | go_keep | exact ⟨HQ3.out.blk.cell 6, HQ3.out.blk.cell 7⟩) (first | (go_at_call 33; (with_reducible refine (degree_any rb r1 _ HRd.out h6).mono ?_); rintro e wq ⟨rfl, rfl⟩) | (go_at_call 34; (with_reducible refine (child_any rb r1 _ HRd.out).mono ?_); rintro e wq ⟨rfl, rfl⟩) | (go_at_call 128; (with_reducible refine (pushQ_any F b _ _ pv lv prv sv s.n r1.degree r1.child _ HQd.out (Nat.le_of_lt hll)).mono ?_); rintro e w3 ⟨rfl, lv3, hq3, hc3⟩; have HQ3 := Lib.hid hq3; have HC3 := Lib.hid hc3; clear hq3 hc3))
    have H3 : Hid (WalkP (fun x => F x ∨ w1.drew.heap.size ≤ x) b { s with route := r1, levels := (s.n, r1.degree, r1.child) :: s.levels } w3) := Lib.hid ⟨_, _, _, _, _, HQ3.out⟩
    have HMd := Lib.hid (HM1.out.below (drawn_bl (Drawn.of w1 1) _))
    have Od : Hid (Chg (fun x => F x ∨ x = bm) w w1.drew) := Lib.hid (O1.out.trans (Chg.of_below (drawn_bl (Drawn.of w1 1) _)))
    go_wp2_with (fail)
    with_reducible refine (lookW_any _ b _ _ H3.out (by simp) (by simp; omega)).mono ?_
    rintro e w4 hp
    have HX := Lib.hid ((hp.grown HC3.out).out HMd.out Od.out HO.out)
    obtain ⟨rfl, _, _⟩ := hp
    clear HMd Od H3 HQ3 HC3
    go_wp2_with (fail)
    with_reducible refine (doneW_any _ _ _ _ HX.out.1).mono ?_
    rintro e w5 ⟨rfl, rfl⟩
    go_wp2_with (fail)
    go_ret
    unfold WSPost
    rw [hs.out, ha.out]
    exact ⟨rfl, HX.out⟩
  · have e6 : (r1.next == 6) = false := by simpa using h6
    have hs := Lib.hid (WS.step0 (R := rdC C) HN.out (by rw [hr1e]; exact h6))
    rw [hr1e] at hs
    have HX : Hid (WalkP F b { s with route := r1 } w1) := Lib.hid ⟨_, _, _, _, _, HQ1.out⟩
    rw [e6]
    clear e6 hr1e
    go_wp2_with (fail)
    with_reducible refine (doneW_any _ _ _ _ HX.out).mono ?_
    rintro e w2 ⟨rfl, rfl⟩
    go_wp2_with (fail)
    go_ret
    unfold WSPost
    rw [hs.out, ha.out]
    exact ⟨rfl, HX.out.mono (fun _ => .inl), HM1.out, O1.out⟩
variable (hsl : s.spots.length ≤ 1000000)
include hsl
set_option maxRecDepth 100000 in
set_option maxHeartbeats 2000000 in
theorem stepW1_any (hn : s.next = 1) : Calls Tryz.prog 61 #[.pointer (some ⟨b, 0, none⟩), .pointer (some ⟨bm, 0, none⟩)] w (WSPost F b bm s B v C size count odd ref w) := by
  obtain ⟨i0, hi0, hz0, hz1, hz2⟩ := info_parts info_spot
  obtain ⟨rv, pv, lv, prv, sv, h⟩ := h
  obtain ⟨hlv, p, hp, hpI, hp3⟩ : s.levels ≠ [] ∧ ∃ p, s.peek = some p ∧ p.Inv ∧ p.next ≠ 3 := by
    rcases hI.st with ⟨e, _⟩ | ⟨_, q⟩ | e | e | e | ⟨e, _⟩ | e <;> first | exact q | omega
  have hpk := h.peek
  rw [hp] at hpk
  obtain ⟨pb, rfl, hFp, hP⟩ := hpk
  have ha := Lib.hid (WS.acc1 hn hp)
  have c0 : w.cell? ⟨b, 0, none⟩ = some (.int .i64 1) := by rw [← hn]; exact h.blk.cell 0
  have c8 : w.cell? ⟨b, 8, none⟩ = some (.pointer (some ⟨pb, 0, none⟩)) := h.blk.cell 8
  have HLV := Lib.hid hI.lv
  have H := Lib.hid h
  have HM := Lib.hid hm
  have HP := Lib.hid hP
  have HN := Lib.hid hn
  have HPE := Lib.hid hp
  have HO := Lib.hid hO
  have HNL := Lib.hid hlv
  clear h hm hP hn hp hO hlv
  clear hI hp3
  go_enter Tryz.func61, Tryz.ntmps61
  go_wp2_with (fail)
  with_reducible refine (stepPk_any pb bm p B v C size count odd ref _ HP.out HM.out hpI hC hw).mono ?_
  rintro e w1 ⟨rfl, hP1, hm1, o1⟩
  have k1 : Chg (fun y => y = pb ∨ y = bm) w w1 := Chg.of_only o1 (by simp)
  obtain ⟨hB1, hl1, hp1, hs1⟩ := H.out.rows k1 (fun y hy => by
    rcases hy with rfl | rfl
    · exact ⟨_, _, HP.out.blk, .inr (.inr rfl)⟩
    · exact ⟨_, _, HM.out.blk, .inl rfl⟩)
  have hr1 : RouteO F rv s.route w1 := H.out.route.keep k1 (fun y hy => by
    rcases hy with rfl | rfl
    · exact ⟨_, _, HP.out.blk, by decide⟩
    · exact ⟨_, _, HM.out.blk, by decide⟩)
  have O1 : Hid (Chg (fun x => F x ∨ x = bm) w w1) := Lib.hid (k1.mono (fun y hy => hy.imp (fun e => by rw [e]; exact hFp) id))
  have HM1 := Lib.hid hm1
  have hpb := hpI.step (rdC_bd hw)
  obtain ⟨p1, hp1e⟩ : ∃ p1, p.step (rdC C) = p1 := ⟨_, rfl⟩
  rw [hp1e] at hP1 hpb ⊢
  have HQ1 : Hid (WalkQ F b { s with peek := some p1 } rv (.pointer (some ⟨pb, 0, none⟩)) lv prv sv w1) := Lib.hid ⟨H.out.fb, hB1, hr1, ⟨pb, rfl, hFp, hP1⟩, hl1, hp1, hs1⟩
  have HP1 := Lib.hid hP1
  clear k1 o1 hm1 H HM HP c0 c8 hB1 hl1 hp1 hs1 hr1 hP1
  by_cases h3 : p1.next = 3
  · have e3 : (p1.next == 3) = true := by simpa using h3
    have hs := Lib.hid (WS.step1e (R := rdC C) HN.out HPE.out (by rw [hp1e]; exact h3))
    rw [hp1e] at hs
    have c8 : w1.cell? ⟨b, 8, none⟩ = some (.pointer (some ⟨pb, 0, none⟩)) := HQ1.out.blk.cell 8
    have c13 : w1.cell? ⟨b, 13, none⟩ = some sv := HQ1.out.blk.cell 13
    have x0 := hpb.x0
    have x1 := hpb.x1
    obtain ⟨A, c, rfl⟩ := own_shape HQ1.out.sps.1
    have HPd : Hid (WalkP F b { s with peek := some p1 } w1.drew) := Lib.hid ⟨_, _, _, _, _, HQ1.out.below (drawn_bl (Drawn.of w1 1) _)⟩
    have n1 := World.new_ne w1 ⟨b, 13, none⟩ c13
    have hbl := HQ1.out.blk.lt
    have SLOT : Hid (∀ w2, Below w1.drew.heap.size w1.drew w2 → w2.cell? ⟨b, 8, none⟩ = some (.pointer (some ⟨pb, 0, none⟩)) ∧ w2.cell? ⟨b, 13, none⟩ = some (.slice A s.spots.length c) ∧ PeekP pb p1 w2 ∧ (w2.alloc (.cells #[.int .i64 s.slot, .int .i64 p1.word] 114)).ownsRow 0 114 2 (.slice A s.spots.length c) s.spots.length (cellsP s.spots) ∧ (∀ (j : Nat) (u : Value), ([.int .i64 s.slot, .int .i64 p1.word] : List Value)[j]? = some u → (w2.alloc (.cells #[.int .i64 s.slot, .int .i64 p1.word] 114)).cell? ((⟨w2.heap.size, 0, none⟩ : Addr).add j) = some u) ∧ Below w1.heap.size w1 (w2.alloc (.cells #[.int .i64 s.slot, .int .i64 p1.word] 114)) ∧ w1.heap.size ≤ w2.heap.size) := Lib.hid (fun w2 hb2 => by
      have hb := (drawn_bl (Drawn.of w1 1) w1.heap.size).trans (show Below w1.heap.size w1.drew w2 from hb2)
      have hbq := HQ1.out.below hb
      have hba := hb.alloc hb.size (.cells #[.int .i64 s.slot, .int .i64 p1.word] 114)
      refine ⟨hbq.blk.cell 8, hbq.blk.cell 13, HP1.out.blk.below hb HP1.out.blk.lt, own_below HQ1.out.sps.1 hba, fun j u hu => ?_, hba, hb.size⟩
      have e : (⟨w2.heap.size, 0, none⟩ : Addr).add j = ⟨w2.heap.size, j, none⟩ := by unfold Addr.add; split <;> simp_all
      rw [e]
      have := (Blk.new w2 114 #[.int .i64 s.slot, .int .i64 p1.word]).cell j
      exact this.trans (by simpa using hu))
    have SLOTC : Hid (Calls Tryz.prog 130 #[.pointer (some ⟨b, 0, none⟩)] w1.drew fun e w' => e = .returned (.int .i64 s.slot) ∧ Below w1.drew.heap.size w1.drew w') := Lib.hid (slotW_any F b { s with peek := some p1 } _ HPd.out HNL.out (Nat.le_of_lt hll))
    rw [e3]
    clear e3 hp1e h3 hpI hpb
    go_wp2_with (fail)
    go_region_law (first | (refine step_append_lies _ (by rfl) _ _ _ (by rfl) 0 114 i0 _ 2 16 Tryz.underlying41 hi0 hz0 hz1 hz2 rfl (by omega) (.slice A s.spots.length c) s.spots.length (cellsP s.spots) (by rfl) SF.out.2.2.2.1 ⟨w2.heap.size, 0, none⟩ 1 1 [.int .i64 s.slot, .int .i64 p1.word] (by rfl) (by rfl) SF.out.2.2.2.2.1 (by simp [Value.oneCell']) (by omega) (by unfold maxLen; omega) (by omega) (by omega) (w2.heap.size + 1) (by simp) ?_; intro gg cap w5 hO5 hg5 hat hlt5; have K5 := HQ1.out.apps SF.out.2.2.2.2.2.1 hO5 hg5 (hat.imp id (fun e => by have := SF.out.2.2.2.2.2.2; omega)); have c5 := K5.out.1; have f5 := K5.out.2.1; clear hO5 hg5 hat hlt5) | (go_simp; go_at_call 130; (with_reducible refine (SLOTC.out).mono ?_); rintro e w2 ⟨rfl, hb2⟩; have SF := Lib.hid (SLOT.out w2 hb2); have c8b := SF.out.1; have c13b := SF.out.2.1; have n2 := World.new_ne w2 ⟨b, 13, none⟩ c13b; have hbl2 : b < w2.heap.size := World.block_lt_of_cell? w2 _ c13b; clear hb2) | (go_simp; go_at_call 120; (with_reducible refine (wordPk_any pb p1 _ SF.out.2.2.1).mono ?_); rintro e wq ⟨rfl, rfl⟩))
    all_goals
      have hP : WalkQ (fun x => F x ∨ w1.heap.size ≤ x) b { s with peek := some p1, spots := s.spots ++ [(s.slot, p1.word)] } rv (.pointer (some ⟨pb, 0, none⟩)) lv prv (.slice (some ⟨gg, 0, none⟩) (s.spots.length + 1) cap) (w5.setCell ⟨b, 13, none⟩ (.slice (some ⟨gg, 0, none⟩) (s.spots.length + 1) cap)) ∧ Chg (fun x => F x) w1 (w5.setCell ⟨b, 13, none⟩ (.slice (some ⟨gg, 0, none⟩) (s.spots.length + 1) cap)) := K5.out.2.2
      clear K5 c5 f5 SF c8b c13b n2 hbl2 n1 c8 c13
      revert hP
      generalize w5.setCell ⟨b, 13, none⟩ (.slice (some ⟨gg, 0, none⟩) (s.spots.length + 1) cap) = w6
      rintro ⟨hq6, hc6⟩
      have d8 : w6.cell? ⟨b, 8, none⟩ = some (.pointer (some ⟨pb, 0, none⟩)) := hq6.blk.cell 8
      have HP6 : Hid (PeekP pb p1 w6) := Lib.hid (by obtain ⟨pb', e, _, hp⟩ := hq6.peek; cases e; exact hp)
      have H6 : Hid (WalkP (fun x => F x ∨ w1.heap.size ≤ x) b { s with peek := some p1, spots := s.spots ++ [(s.slot, p1.word)] } w6) := Lib.hid ⟨_, _, _, _, _, hq6⟩
      have HC6 := Lib.hid hc6
      clear hq6 hc6
      go_wp2_with (fail)
      with_reducible refine (wordPk_any pb p1 _ HP6.out).mono ?_
      rintro e w7 ⟨rfl, rfl⟩
      go_wp2_with (fail)
      with_reducible refine (meetW_any _ b _ _ p1.word H6.out (Nat.le_of_lt hll) HLV.out x0 x1).mono ?_
      rintro e w8 hp
      have HX := Lib.hid ((hp.grown HC6.out).out HM1.out O1.out HO.out)
      obtain ⟨rfl, _, _⟩ := hp
      go_wp2_with (fail)
      with_reducible refine (doneW_any _ _ _ _ HX.out.1).mono ?_
      rintro e w9 ⟨rfl, rfl⟩
      go_wp2_with (fail)
      go_ret
      unfold WSPost
      rw [hs.out, ha.out]
      exact ⟨rfl, HX.out⟩
  · have e3 : (p1.next == 3) = false := by simpa using h3
    have hs := Lib.hid (WS.step1 (R := rdC C) HN.out HPE.out (by rw [hp1e]; exact h3))
    rw [hp1e] at hs
    have HX : Hid (WalkP F b { s with peek := some p1 } w1) := Lib.hid ⟨_, _, _, _, _, HQ1.out⟩
    rw [e3]
    clear e3 hp1e
    go_wp2_with (fail)
    with_reducible refine (doneW_any _ _ _ _ HX.out).mono ?_
    rintro e w2 ⟨rfl, rfl⟩
    go_wp2_with (fail)
    go_ret
    unfold WSPost
    rw [hs.out, ha.out]
    exact ⟨rfl, HX.out.mono (fun _ => .inl), HM1.out, O1.out⟩
theorem stepW_any (hpl : s.pairs.length ≤ 1000000) : Calls Tryz.prog 61 #[.pointer (some ⟨b, 0, none⟩), .pointer (some ⟨bm, 0, none⟩)] w (WSPost F b bm s B v C size count odd ref w) := by
  rcases hI.st with ⟨e, _⟩ | ⟨e, _⟩ | e | e | e | ⟨e, _⟩ | e
  · exact stepW0_any F b bm s B v C size count odd ref w h hm hO hI hC hw hll e
  · exact stepW1_any F b bm s B v C size count odd ref w h hm hO hI hC hw hll hsl e
  · exact stepW2_any F b bm s B v C size count odd ref w h hm hO hI hC hw hll hpl e
  · exact stepW3_any F b bm s B v C size count odd ref w h hm hO hI hC hll hpl e
  · exact stepW4_any F b bm s B v C size count odd ref w h hm hO hI hC hw e
  · exact stepW5_any F b bm s B v C size count odd ref w h hm hO hI hC hll e
  · exact stepW6_any F b bm s B v C size count odd ref w h hm e
end
/- The walk of WalkKnown: lists alike; a walk alone. -/

theorem PairsAt.both {w : World} {B : Nat} {A : Option Addr} {L : List (Int × Int)} (h : PairsAt w B A L) (hl : 0 < L.length) : ∃ ad, A = some ad ∧ ad.block < B ∧ ∀ i, i < L.length → w.cell? (ad.add (i * 2)) = some (.int .i64 (pkey L i)) ∧ w.cell? (ad.add (i * 2 + 1)) = some (.int .i64 (pval L i)) := by
  obtain ⟨ad, e, hb, hc⟩ := h.2 hl
  exact ⟨ad, e, hb, fun i hi => ⟨hc _ _ (cellsP_key hi), hc _ _ (cellsP_val hi)⟩⟩
set_option maxHeartbeats 1000000 in
set_option maxRecDepth 100000 in
theorem pairsSame_any (A A2 : Option Addr) (c c2 N N2 B : Nat) (q : List (Int × Int)) (w : World) (hN : N = q.length) (hN2 : N2 = q.length) (h1 : PairsAt w B A q) (h2 : PairsAt w B A2 q) (hl : q.length ≤ 1000000) :
    Calls Tryz.prog 63 #[.slice A N c, .slice A2 N2 c2] w fun e w' => e = .returned (.bool true) ∧ Drawn w w' := by
  subst hN
  subst hN2
  have H1 := Lib.hid h1
  have H2 := Lib.hid h2
  clear h1 h2
  go_enter Tryz.func63, Tryz.ntmps63
  go_wp2_with (fail)
  go_loopw [5] (fun v wr => ∃ (i m : Nat), i ≤ q.length ∧ v = .int .i64 i ∧ wr = w.drewN m) (fun v _ => q.length - (intOf v).toNat)
  case atStart => exact ⟨0, 0, by omega, rfl, rfl⟩
  case round =>
    obtain ⟨i, m, i1, rfl, rfl⟩ := hrel
    by_cases hlt : i < q.length
    · obtain ⟨ad, rfl, _, hc⟩ := H1.out.both (by omega)
      obtain ⟨k1, v1⟩ := hc i hlt
      clear hc
      obtain ⟨ad2, rfl, _, hc⟩ := H2.out.both (by omega)
      obtain ⟨k2, v2⟩ := hc i hlt
      clear hc
      generalize pkey q i = x at k1 k2
      generalize pval q i = y at v1 v2
      have u1 : w.cell? { block := (ad.add (i * 2)).block, off := (ad.add (i * 2)).off + 1 } = some (.int .i64 y) := by rw [← Addr.add_add] at v1; exact v1
      have u2 : w.cell? { block := (ad2.add (i * 2)).block, off := (ad2.add (i * 2)).off + 1 } = some (.int .i64 y) := by rw [← Addr.add_add] at v2; exact v2
      go_wp2_with (fail)
      go_quiet (fail)
      go_wp2_with (fail)
      go_roundw
      case rel => exact ⟨i + 1, _, by omega, by go_num, rfl⟩
      case measure => simp [intOf]; omega
    · go_wp2_with (fail)
      go_ret
      exact ⟨rfl, Drawn.of _ _⟩
def WS.it (R : Int → Int) (s : WS) : Nat → WS
  | 0 => s
  | t + 1 => (WS.it R s t).step R
theorem WS.Inv.it {s : WS} (h : s.Inv) {R : Int → Int} (hR : ∀ a, -9223372036854775808 ≤ R a ∧ R a ≤ 9223372036854775807) : ∀ t, (WS.it R s t).Inv
  | 0 => h
  | t + 1 => (WS.Inv.it h hR t).step hR
/-- A memory whose row lies ahead of a place. -/
def MemL (b lo : Nat) (C : List Int) (size : Int) (w : World) : Prop := ∃ v count odd, MemP b b v C size count odd 0 w ∧ b < lo ∧ ∀ g, v.ownBlock = some g → g < lo
theorem MemL.c {b lo : Nat} {C : List Int} {size : Int} {w : World} (h : MemL b lo C size w) : MemC b C size w := by
  obtain ⟨v, c, o, h, _⟩ := h; exact ⟨v, c, o, h⟩
theorem MemC.l {b : Nat} {C : List Int} {size : Int} {w : World} (h : MemC b C size w) : MemL b w.heap.size C size w := by
  obtain ⟨v, c, o, h⟩ := h; exact ⟨v, c, o, h, h.blk.lt, fun g hg => own_lt h.own g hg⟩
theorem MemL.below {b lo : Nat} {C : List Int} {size : Int} {w w' : World} (h : MemL b lo C size w) (hb : Below w.heap.size w w') : MemL b lo C size w' := by
  obtain ⟨v, c, o, h, r⟩ := h; exact ⟨v, c, o, h.below hb, r⟩
def StepLPost (b fb lo : Nat) (C : List Int) (size : Int) (s : WS) (w : World) (e : Ending) (w' : World) : Prop := e = .returned (.bool ((s.step (rdC C)).next == 6)) ∧ WalkP (fun x => lo ≤ x) fb (s.step (rdC C)) w' ∧ MemL b lo C size w' ∧ Chg (fun x => x = b ∨ lo ≤ x) w w'
/-- Step, of a frame all of whose blocks lie above the memory's. -/
theorem stepL_any (b fb lo : Nat) (C : List Int) (size : Int) (s : WS) (w : World) (h : WalkP (fun x => lo ≤ x) fb s w) (hm : MemL b lo C size w) (hI : s.Inv) (hlw : lo ≤ w.heap.size) (hC : C.length ≤ 1000000) (hw : ∀ x ∈ C, -9223372036854775808 ≤ x ∧ x ≤ 9223372036854775807) (h1 : s.levels.length < 1000) (h2 : s.pairs.length < 1000) (h3 : s.spots.length < 1000) :
    Calls Tryz.prog 61 #[.pointer (some ⟨fb, 0, none⟩), .pointer (some ⟨b, 0, none⟩)] w (StepLPost b fb lo C size s w) := by
  obtain ⟨v, count, odd, hm, hb, hv⟩ := hm
  refine (stepW_any _ fb b s b v C size count odd 0 w h hm ⟨by omega, fun g hg => by have := hv g hg; omega⟩ hI hC (bd_of hw) (by omega) (by omega) (by omega)).mono ?_
  rintro e w' ⟨he, h1, h2, h3⟩
  exact ⟨he, h1.mono (fun x hx => hx.elim id (fun h => by omega)), ⟨v, _, _, h2, hb, hv⟩, h3.mono (fun x hx => hx.symm)⟩
/-- A run of a walk to its end. -/
structure Walked (R : Int → Int) (s : WS) (S : Nat) (st : Nat → WS) : Prop where
  zero : st 0 = s
  step : ∀ t, (st t).step R = st (t + 1)
  inv : ∀ t, (st t).Inv
  going : ∀ t, t < S → (st t).next ≠ 6
  done : (st S).next = 6
  few : S ≤ 1000
  pos : 0 < S
  l1 : ∀ t, t ≤ S → (st t).levels.length < 1000
  l2 : ∀ t, t ≤ S → (st t).pairs.length < 1000
  l3 : ∀ t, t ≤ S → (st t).spots.length < 1000
def AloneIn (b fb lo : Nat) (M : List Int) (size : Int) (S : Nat) (st : Nat → WS) (w0 : World) (nv : Value) (wr : World) : Prop := ∃ t : Nat, t < S ∧ nv = .int .i64 (t : Int) ∧ lo ≤ wr.heap.size ∧ WalkP (fun x => lo ≤ x) fb (st t) wr ∧ MemL b lo M size wr ∧ Chg (fun x => x = b) w0 wr
def AlonePost (b : Nat) (M : List Int) (size : Int) (s : WS) (w : World) (e : Ending) (w' : World) : Prop := e = .returned (.pointer (some ⟨w.heap.size, 0, none⟩)) ∧ WalkP (fun x => w.heap.size ≤ x) w.heap.size s w' ∧ MemC b M size w' ∧ Chg (fun x => x = b) w w'
set_option maxHeartbeats 1000000 in
set_option maxRecDepth 100000 in
theorem alone_any (b : Nat) (M : List Int) (size lo hi : Int) (back : Bool) (most : Int) (values : Bool) (S : Nat) (st : Nat → WS) (w : World) (hM : MemC b M size w) (hl : M.length ≤ 1000000) (hw : ∀ x ∈ M, -9223372036854775808 ≤ x ∧ x ≤ 9223372036854775807) (hst : Walked (rdC M) (WS.init lo hi back most values) S st) :
    Calls Tryz.prog 68 #[.pointer (some ⟨b, 0, none⟩), .int .i64 lo, .int .i64 hi, .bool back, .int .i64 most, .bool values] w (AlonePost b M size (st S) w) := by
  have hS6 := hst.pos
  have hS5 := hst.few
  have HM := Lib.hid hM
  have HW := Lib.hid hw
  have HST := Lib.hid hst
  clear hM hw hst
  go_enter Tryz.func68, Tryz.ntmps68
  go_wp2_with (fail)
  with_reducible refine (newW_any lo hi back most values _).mono ?_
  rintro e w1 ⟨rfl, hs, hb⟩
  have HS1 : Hid (WalkP (fun x => w.heap.size ≤ x) w.heap.size (st 0) w1) := Lib.hid (by rw [HST.out.zero]; exact hs)
  have HM1 := Lib.hid (HM.out.l.below hb)
  have HC1 : Hid (Chg (fun x => x = b) w w1) := Lib.hid (Chg.of_below hb)
  have hz1 := hb.size
  clear hs hb HM
  go_wp2_with (fail)
  go_loopw [14] (fun nv wr => AloneIn b w.heap.size w.heap.size M size S st w nv wr) (fun nv _ => 1000 - (intOf nv).toNat)
  case atStart => unfold AloneIn; exact ⟨0, hS6, rfl, hz1, HS1.out, HM1.out, HC1.out⟩
  case round =>
    obtain ⟨t, t1, rfl, hlw, hS, hC, hB⟩ := hrel
    clear HS1 HM1 HC1 hz1
    have HC := Lib.hid hC
    have HS := Lib.hid hS
    have HB := Lib.hid hB
    clear hC hS hB
    have ht60 : (t : Int) < 20000 := by omega
    go_wp2_with (fail)
    with_reducible refine (stepL_any b w.heap.size w.heap.size M size (st t) _ HS.out HC.out (HST.out.inv t) hlw hl HW.out (HST.out.l1 t (by omega)) (HST.out.l2 t (by omega)) (HST.out.l3 t (by omega))).mono ?_
    rintro e w4 ⟨rfl, hs, hc, hb⟩
    rw [HST.out.step t] at hs ⊢
    have HS4 := Lib.hid hs
    have HC4 := Lib.hid hc
    have HB4 := Lib.hid (HB.out.grow hb (fun x hx => hx))
    have hz4 : w.heap.size ≤ w4.heap.size := Nat.le_trans hlw hb.size
    clear hs hc hb HS HC HB hlw
    by_cases hlast : t + 1 < S
    · have e5 : ((st (t + 1)).next == 6) = false := by simpa using HST.out.going (t + 1) hlast
      rw [e5]
      clear e5
      go_wp2_with (fail)
      go_roundw
      case rel => unfold AloneIn; exact ⟨t + 1, hlast, by go_num, hz4, HS4.out, HC4.out, HB4.out⟩
      case measure => simp [intOf]; omega
    · have et : S = t + 1 := by omega
      subst et
      have e5 : ((st (t + 1)).next == 6) = true := by simpa using HST.out.done
      rw [e5]
      clear e5 hlast t1 hS5 hS6
      go_wp2_with (fail)
      go_ret
      exact ⟨rfl, HS4.out, HC4.out.c, HB4.out⟩
end Go.Proofs.YtblajeildolloaaGreat

namespace Go.Proofs.YtblajeildolloaaGreat
set_option linter.unusedVariables false
set_option linter.unusedSimpArgs false
open Go.RowKit
/- query's frame as a machine. No program's text. -/

structure Res where
  why : Int
  found : Bool
  key : Int
  val : Int
  n : Int
  list : List (Int × Int)
def Res.none : Res := ⟨0, false, 0, 0, 0, []⟩
def Res.err (e : Int) : Res := ⟨e, false, 0, 0, 0, []⟩
inductive QP
  | seek (s : SS)
  | walk (left : Int) (s : WS)
  | look (left : Int) (s : WS) (a : AS)
  | done (left : Int) (r : Res)
structure Op where
  kind : Int
  key : Int
  val : Int
def QP.next : QP → Int
  | .seek _ => 0
  | .walk _ _ => 1
  | .look _ _ _ => 2
  | .done _ _ => 3
def leastI : Int := -9223372036854775808
def mostI : Int := 9223372036854775807
/-- The walk of an operation. -/
def Op.way (o : Op) : WS :=
  if o.kind = 5 then WS.init leastI o.key true 1 true
  else if o.kind = 6 then WS.init o.key mostI false 1 true
  else if o.kind = 7 then WS.init leastI mostI false 1 true
  else if o.kind = 8 then WS.init leastI mostI true 1 true
  else if o.kind = 9 then WS.init o.key o.val false 0 true
  else WS.init o.key o.val false 0 false
def Op.answer (o : Op) (l : List (Int × Int)) : Res :=
  if o.kind = 9 then ⟨0, false, 0, 0, 0, l⟩
  else if o.kind = 10 then ⟨0, false, 0, 0, l.length, []⟩
  else match l with
    | [] => Res.none
    | x :: _ => ⟨0, true, x.1, x.2, 0, []⟩
def QP.init (o : Op) (budget : Int) : QP :=
  if o.kind < 4 ∨ 10 < o.kind then .done budget (Res.err 5)
  else if budget < 1 ∨ 64 < budget then .done budget (Res.err 2)
  else if o.kind = 4 then .seek (SS.init o.key)
  else .walk budget o.way
def QP.sought (o : Op) (left : Int) (s : SS) : QP := if s.there = true then .done left ⟨0, true, o.key, s.value, 0, []⟩ else .done left Res.none
def QP.looked (o : Op) (left : Int) (s : WS) (a : AS) : QP :=
  if a.same = true then .done (left - 1) (o.answer s.pairs)
  else if left - 1 = 0 then .done (left - 1) (Res.err 9)
  else .walk (left - 1) o.way
def QP.step (o : Op) (b0 : Int) (R : Int → Int) : QP → QP
  | .seek s => if (s.step R).next = 5 then QP.sought o b0 (s.step R) else .seek (s.step R)
  | .walk left s => if (s.step R).next = 6 then (if (AS.init (s.step R).spots).done = true then QP.looked o left (s.step R) (AS.init (s.step R).spots) else .look left (s.step R) (AS.init (s.step R).spots)) else .walk left (s.step R)
  | .look left s a => if (a.step R).done = true then QP.looked o left s (a.step R) else .look left s (a.step R)
  | .done left r => .done left r
section
variable {o : Op} {b0 left : Int} {R : Int → Int} {r : Res}
theorem QP.step_seek {s : SS} : (QP.seek s).step o b0 R = if (s.step R).next = 5 then QP.sought o b0 (s.step R) else .seek (s.step R) := rfl
theorem QP.step_walk {s : WS} : (QP.walk left s).step o b0 R = if (s.step R).next = 6 then (if (AS.init (s.step R).spots).done = true then QP.looked o left (s.step R) (AS.init (s.step R).spots) else .look left (s.step R) (AS.init (s.step R).spots)) else .walk left (s.step R) := rfl
theorem QP.step_look {s : WS} {a : AS} : (QP.look left s a).step o b0 R = if (a.step R).done = true then QP.looked o left s (a.step R) else .look left s (a.step R) := rfl
end
def QP.acc : QP → Option Int
  | .seek s => s.acc
  | .walk _ s => s.acc
  | .look _ _ a => a.acc
  | .done _ _ => none
def SpB (s : WS) : Prop := ∀ x ∈ s.spots, spotB x
theorem WS.slot_bd (s : WS) : -9223372036854775808 ≤ s.slot ∧ s.slot ≤ 9223372036854775807 := by
  have := childAtI_bd (n := s.top.1) (d := s.top.2.1) (i := s.top.2.2)
  unfold WS.slot; omega
theorem WS.spots_onward (s : WS) : s.onward.spots = s.spots := rfl
theorem WS.spots_meet (s : WS) (w : Int) : (s.meet w).spots = s.spots := by
  unfold WS.meet
  repeat' split
  all_goals rfl
theorem WS.spots_found (s : WS) (v : Int) : (s.found v).spots = s.spots := by
  unfold WS.found; split <;> rfl
theorem WS.spots_bound (s : WS) (q : Int) : (s.bound q).spots = s.spots := by
  unfold WS.bound
  repeat' split
  all_goals rfl
theorem SpB.step {s : WS} (h : SpB s) (hI : s.Inv) {R : Int → Int} (hR : ∀ a, -9223372036854775808 ≤ R a ∧ R a ≤ 9223372036854775807) : SpB (s.step R) := by
  unfold SpB
  rcases hI.st with ⟨h0, h6⟩ | ⟨h1, hlv, p, hp, hpI, h3⟩ | h2 | h3 | h4 | ⟨h5, l, ls, hl, hm⟩ | h6
  · by_cases e6 : (s.route.step R).next = 6
    · rw [WS.step0e h0 e6]; exact h
    · rw [WS.step0 h0 e6]; exact h
  · by_cases e3 : (p.step R).next = 3
    · rw [WS.step1e h1 hp e3, WS.spots_meet]
      intro x hx
      rcases List.mem_append.1 hx with hx | hx
      · exact h x hx
      · have hx : x = (s.slot, (p.step R).word) := by simpa using hx
        subst hx
        have b := s.slot_bd
        have c := hpI.step hR
        exact ⟨b.1, b.2, c.x0, c.x1⟩
    · rw [WS.step1 h1 hp e3]; exact h
  · rw [WS.step2 h2]
    split
    · exact h
    · split
      · exact h
      · rw [WS.spots_found]; exact h
  · rw [WS.step3 h3, WS.spots_found]; exact h
  · rw [WS.step4 h4]; exact h
  · rw [WS.step5 h5, WS.spots_bound]; exact h
  · rw [WS.step6 h6]; exact h
def Op.Bd (o : Op) : Prop := leastI ≤ o.key ∧ o.key ≤ mostI ∧ leastI ≤ o.val ∧ o.val ≤ mostI
def QP.Inv : QP → Prop
  | .seek s => s.Inv
  | .walk left s => s.Inv ∧ SpB s ∧ 1 ≤ left ∧ left ≤ 64
  | .look left s a => s.next = 6 ∧ a.Inv ∧ a.done = false ∧ 1 ≤ left ∧ left ≤ 64
  | .done _ _ => True
theorem Op.way_inv {o : Op} (h : o.Bd) : o.way.Inv ∧ SpB o.way := by
  obtain ⟨h1, h2, h3, h4⟩ := h
  unfold leastI at h1 h3
  unfold mostI at h2 h4
  unfold Op.way leastI mostI
  repeat' split
  all_goals exact ⟨WS.Inv.init (by omega) (by omega) (by omega) (by omega) (by omega) (by omega), fun x hx => by cases hx⟩
theorem QP.Inv.init {o : Op} (h : o.Bd) (b : Int) : (QP.init o b).Inv := by
  unfold QP.init
  split
  · exact trivial
  · split
    · exact trivial
    · split
      · exact SS.Inv.init h.1 h.2.1
      · have := Op.way_inv h
        exact ⟨this.1, this.2, by omega, by omega⟩
theorem QP.Inv.looked {o : Op} (h : o.Bd) {left : Int} (h1 : 1 ≤ left) (h2 : left ≤ 64) (s : WS) (a : AS) : (QP.looked o left s a).Inv := by
  unfold QP.looked
  split
  · exact trivial
  · split
    · exact trivial
    · have := Op.way_inv h
      exact ⟨this.1, this.2, by omega, by omega⟩
theorem QP.Inv.step {o : Op} (h : o.Bd) {b0 : Int} {R : Int → Int} (hR : ∀ a, -9223372036854775808 ≤ R a ∧ R a ≤ 9223372036854775807) : ∀ {q : QP}, q.Inv → (q.step o b0 R).Inv
  | .seek s, hq => by
    rw [QP.step_seek]
    split
    · unfold QP.sought; split <;> exact trivial
    · exact SS.Inv.step hq hR
  | .walk left s, ⟨hI, hS, h1, h2⟩ => by
    have hI2 := hI.step hR
    have hS2 := hS.step hI hR
    rw [QP.step_walk]
    split
    · rename_i e6
      split
      · exact QP.Inv.looked h h1 h2 _ _
      · rename_i hd
        exact ⟨e6, AS.Inv.init hS2, by simpa using hd, h1, h2⟩
    · exact ⟨hI2, hS2, h1, h2⟩
  | .look left s a, ⟨h6, hA, hd, h1, h2⟩ => by
    rw [QP.step_look]
    split
    · exact QP.Inv.looked h h1 h2 _ _
    · rename_i hd2
      exact ⟨h6, hA.step hR, by simpa using hd2, h1, h2⟩
  | .done _ _, _ => trivial
/- query's frame in memory; its small methods. -/

def queryC (o : Op) (next left : Int) (sv wv av : Value) (r : Res) (lv : Value) : Array Value := #[.int .i64 next, .int .i64 o.kind, .int .i64 o.key, .int .i64 o.val, .int .i64 left, sv, wv, av, .int .i64 r.why, .bool r.found, .int .i64 r.key, .int .i64 r.val, .int .i64 r.n, lv]
def IsPtr (v : Value) : Prop := ∃ a, v = .pointer a
def IsSl (v : Value) : Prop := ∃ A n c, v = .slice A n c
def PartQ (F : Nat → Prop) (b : Nat) (o : Op) (b0 : Int) (sv wv av : Value) (r : Res) (lv : Value) (w : World) : QP → Prop
  | .seek s => Blk w b 155 (queryC o 0 b0 sv wv av r lv) ∧ ∃ sb Fs, sv = .pointer (some ⟨sb, 0, none⟩) ∧ SeekP Fs sb s w ∧ ∀ x, Fs x → F x ∧ x ≠ b
  | .walk left s => Blk w b 155 (queryC o 1 left sv wv av r lv) ∧ ∃ wb Fw, wv = .pointer (some ⟨wb, 0, none⟩) ∧ WalkP Fw wb s w ∧ ∀ x, Fw x → F x ∧ x ≠ b
  | .look left s a => Blk w b 155 (queryC o 2 left sv wv av r lv) ∧ ∃ wb Fw ab Fa, wv = .pointer (some ⟨wb, 0, none⟩) ∧ WalkP Fw wb s w ∧ (∀ x, Fw x → F x ∧ x ≠ b ∧ ¬ Fa x) ∧ av = .pointer (some ⟨ab, 0, none⟩) ∧ AgainP Fa ab a w ∧ ∀ x, Fa x → F x ∧ x ≠ b
  | .done left r' => Blk w b 155 (queryC o 3 left sv wv av r' lv) ∧ PrP F 52 lv r'.list w
structure QueryQ (F : Nat → Prop) (b : Nat) (o : Op) (b0 : Int) (q : QP) (sv wv av : Value) (r : Res) (lv : Value) (w : World) : Prop where
  fb : F b
  ps : IsPtr sv
  pw : IsPtr wv
  pa : IsPtr av
  pl : IsSl lv
  part : PartQ F b o b0 sv wv av r lv w q
def QueryP (F : Nat → Prop) (b : Nat) (o : Op) (b0 : Int) (q : QP) (w : World) : Prop := ∃ sv wv av r lv, QueryQ F b o b0 q sv wv av r lv w
def QP.left (b0 : Int) : QP → Int
  | .seek _ => b0
  | .walk l _ => l
  | .look l _ _ => l
  | .done l _ => l
def QP.res (r : Res) : QP → Res
  | .done _ r' => r'
  | _ => r
section
variable {F G : Nat → Prop} {b : Nat} {o : Op} {b0 : Int} {q : QP} {sv wv av lv : Value} {r : Res} {w w' : World}
theorem QueryQ.blk (h : QueryQ F b o b0 q sv wv av r lv w) : Blk w b 155 (queryC o q.next (q.left b0) sv wv av (q.res r) lv) := by
  have := h.part
  cases q with
  | seek s => exact this.1
  | walk l s => exact this.1
  | look l s a => exact this.1
  | done l r' => exact this.1
theorem PartQ.mono (h : PartQ F b o b0 sv wv av r lv w q) (hs : ∀ x, F x → G x) : PartQ G b o b0 sv wv av r lv w q := by
  cases q with
  | seek s => obtain ⟨h1, sb, Fs, h2, h3, h4⟩ := h; exact ⟨h1, sb, Fs, h2, h3, fun x hx => ⟨hs x (h4 x hx).1, (h4 x hx).2⟩⟩
  | walk l s => obtain ⟨h1, sb, Fs, h2, h3, h4⟩ := h; exact ⟨h1, sb, Fs, h2, h3, fun x hx => ⟨hs x (h4 x hx).1, (h4 x hx).2⟩⟩
  | look l s a => obtain ⟨h1, wb, Fw, ab, Fa, h2, h3, h4, h5, h6, h7⟩ := h; exact ⟨h1, wb, Fw, ab, Fa, h2, h3, fun x hx => ⟨hs x (h4 x hx).1, (h4 x hx).2⟩, h5, h6, fun x hx => ⟨hs x (h7 x hx).1, (h7 x hx).2⟩⟩
  | done l r' => exact ⟨h.1, h.2.mono hs⟩
theorem QueryQ.mono (h : QueryQ F b o b0 q sv wv av r lv w) (hs : ∀ x, F x → G x) : QueryQ G b o b0 q sv wv av r lv w := ⟨hs _ h.fb, h.ps, h.pw, h.pa, h.pl, h.part.mono hs⟩
theorem QueryP.mono (h : QueryP F b o b0 q w) (hs : ∀ x, F x → G x) : QueryP G b o b0 q w := by
  obtain ⟨sv, wv, av, r, lv, h⟩ := h; exact ⟨sv, wv, av, r, lv, h.mono hs⟩
theorem QueryP.chg (h : QueryP F b o b0 q w) (m : Chg G w w') (hd : ∀ x, F x → G x → False) : QueryP F b o b0 q w' := by
  obtain ⟨sv, wv, av, r, lv, fb, p1, p2, p3, p4, h⟩ := h
  refine ⟨sv, wv, av, r, lv, fb, p1, p2, p3, p4, ?_⟩
  cases q with
  | seek s => obtain ⟨h1, sb, Fs, h2, h3, h4⟩ := h; exact ⟨m.blk h1 (hd _ fb), sb, Fs, h2, h3.chg m (fun x hx => hd x (h4 x hx).1), h4⟩
  | walk l s => obtain ⟨h1, sb, Fs, h2, h3, h4⟩ := h; exact ⟨m.blk h1 (hd _ fb), sb, Fs, h2, h3.chg m (fun x hx => hd x (h4 x hx).1), h4⟩
  | look l s a => obtain ⟨h1, wb, Fw, ab, Fa, h2, h3, h4, h5, h6, h7⟩ := h; exact ⟨m.blk h1 (hd _ fb), wb, Fw, ab, Fa, h2, h3.chg m (fun x hx => hd x (h4 x hx).1), h4, h5, h6.chg m (fun x hx => hd x (h7 x hx).1), h7⟩
  | done l r' => exact ⟨m.blk h.1 (hd _ fb), h.2.chg m hd⟩
theorem QueryP.below (h : QueryP F b o b0 q w) (hb : Below w.heap.size w w') : QueryP F b o b0 q w' := h.chg (G := fun _ => False) (Chg.of_below hb) (fun _ _ hg => hg)
theorem QP.next3 : (q.next == 3) = match q with | .done _ _ => true | _ => false := by cases q <;> rfl
end
section
variable (F : Nat → Prop) (b : Nat) (o : Op) (b0 : Int) (q : QP) (w : World)
set_option maxHeartbeats 400000 in
theorem doneQ_any (h : QueryP F b o b0 q w) : Calls Tryz.prog 45 #[.pointer (some ⟨b, 0, none⟩)] w fun e w' => e = .returned (.bool (q.next == 3)) ∧ w = w' := by
  obtain ⟨sv, wv, av, r, lv, h⟩ := h
  have c0 : w.cell? ⟨b, 0, none⟩ = some (.int .i64 q.next) := h.blk.cell 0
  clear h
  go_enter Tryz.func45, Tryz.ntmps45
  go_wp2_with (fail)
  go_ret
  exact ⟨rfl, rfl⟩
end
def resV (r : Res) (lv : Value) : Value := .agg #[.int .i64 r.why, .bool r.found, .int .i64 r.key, .int .i64 r.val, .int .i64 r.n, lv]
set_option maxHeartbeats 1000000 in
theorem endQ_any (b : Nat) (o : Op) (next left : Int) (sv wv av : Value) (r r' : Res) (lv lv' : Value) (w : World) (h : Blk w b 155 (queryC o next left sv wv av r lv)) (hl : IsSl lv) (hl' : IsSl lv') :
    Calls Tryz.prog 106 #[.pointer (some ⟨b, 0, none⟩), resV r' lv'] w fun e w' => e = .returned (.tuple #[]) ∧ Blk w' b 155 (queryC o 3 left sv wv av r' lv') ∧ Chg (fun x => x = b) w w' := by
  obtain ⟨A, n, c, rfl⟩ := hl
  obtain ⟨A', n', c', rfl⟩ := hl'
  have c0 : w.cell? ⟨b, 0, none⟩ = some (.int .i64 next) := h.cell 0
  have c8 : w.cell? ⟨b, 8, none⟩ = some (.int .i64 r.why) := h.cell 8
  have c9 : w.cell? ⟨b, 9, none⟩ = some (.bool r.found) := h.cell 9
  have c10 : w.cell? ⟨b, 10, none⟩ = some (.int .i64 r.key) := h.cell 10
  have c11 : w.cell? ⟨b, 11, none⟩ = some (.int .i64 r.val) := h.cell 11
  have c12 : w.cell? ⟨b, 12, none⟩ = some (.int .i64 r.n) := h.cell 12
  have c13 : w.cell? ⟨b, 13, none⟩ = some (.slice A n c) := h.cell 13
  have f0 := h.frozen 0
  have f8 := h.frozen 8
  have f9 := h.frozen 9
  have f10 := h.frozen 10
  have f11 := h.frozen 11
  have f12 := h.frozen 12
  have f13 := h.frozen 13
  have n1 := World.new_ne w ⟨b, 0, none⟩ c0
  have hbl := h.lt
  have H := Lib.hid h
  clear h
  unfold resV
  go_enter Tryz.func106, Tryz.ntmps106
  go_wp2_with (fail)
  go_end0
  refine ⟨rfl, (((((((H.out.set_ 8 _).set_ 9 _).set_ 10 _).set_ 11 _).set_ 12 _).set_ 13 _).set_ 0 _).alloc _, ?_⟩
  exact (Chg.of_mv (F := fun x => x = b) (((((((Mv.set1 w b 8 _).trans_ (Mv.set1 _ b 9 _)).trans_ (Mv.set1 _ b 10 _)).trans_ (Mv.set1 _ b 11 _)).trans_ (Mv.set1 _ b 12 _)).trans_ (Mv.set1 _ b 13 _)).trans_ (Mv.set1 _ b 0 _)) rfl).trans (Chg.of_below ((Below.refl _ _).alloc (Nat.le_refl _) _))
def WayPost (o : Op) (w : World) (e : Ending) (w' : World) : Prop := ∃ wb, e = .returned (.pointer (some ⟨wb, 0, none⟩)) ∧ WalkP (fun x => w.heap.size ≤ x) wb o.way w' ∧ Below w.heap.size w w'
set_option maxHeartbeats 2000000 in
theorem wayQ_any (b : Nat) (o : Op) (next left : Int) (sv wv av : Value) (r : Res) (lv : Value) (w : World) (h : Blk w b 155 (queryC o next left sv wv av r lv)) :
    Calls Tryz.prog 167 #[.pointer (some ⟨b, 0, none⟩)] w (WayPost o w) := by
  have c1 : w.cell? ⟨b, 1, none⟩ = some (.int .i64 o.kind) := h.cell 1
  have c2 : w.cell? ⟨b, 2, none⟩ = some (.int .i64 o.key) := h.cell 2
  have c3 : w.cell? ⟨b, 3, none⟩ = some (.int .i64 o.val) := h.cell 3
  have HH := Lib.hid h
  clear h
  by_cases k5 : o.kind = 5
  · have HW := Lib.hid (show WS.init leastI o.key true 1 true = o.way by unfold Op.way; rw [if_pos k5])
    rw [k5] at c1
    clear k5
    go_enter Tryz.func167, Tryz.ntmps167
    go_wp2_with (fail)
    with_reducible refine (newW_any (-9223372036854775808) o.key true 1 true _).mono ?_
    rintro e w1 ⟨rfl, hs, hb⟩
    have HS : Hid (WalkP (fun x => w.heap.size ≤ x) w.heap.size o.way w1) := Lib.hid (HW.out ▸ hs)
    have HB := Lib.hid hb
    clear hs hb
    go_wp2_with (fail)
    go_ret
    exact ⟨_, rfl, HS.out, HB.out⟩
  · have e5 : (o.kind == 5) = false := by simpa using k5
    by_cases k6 : o.kind = 6
    · have HW := Lib.hid (show WS.init o.key mostI false 1 true = o.way by unfold Op.way; rw [if_neg k5]; rw [if_pos k6])
      rw [k6] at c1
      clear k6 k5
      go_enter Tryz.func167, Tryz.ntmps167
      go_wp2_with (fail)
      with_reducible refine (newW_any o.key 9223372036854775807 false 1 true _).mono ?_
      rintro e w1 ⟨rfl, hs, hb⟩
      have HS : Hid (WalkP (fun x => w.heap.size ≤ x) w.heap.size o.way w1) := Lib.hid (HW.out ▸ hs)
      have HB := Lib.hid hb
      clear hs hb
      go_wp2_with (fail)
      go_ret
      exact ⟨_, rfl, HS.out, HB.out⟩
    · have e6 : (o.kind == 6) = false := by simpa using k6
      by_cases k7 : o.kind = 7
      · have HW := Lib.hid (show WS.init leastI mostI false 1 true = o.way by unfold Op.way; rw [if_neg k5]; rw [if_neg k6]; rw [if_pos k7])
        rw [k7] at c1
        clear k7 k5 k6
        go_enter Tryz.func167, Tryz.ntmps167
        go_wp2_with (fail)
        with_reducible refine (newW_any (-9223372036854775808) 9223372036854775807 false 1 true _).mono ?_
        rintro e w1 ⟨rfl, hs, hb⟩
        have HS : Hid (WalkP (fun x => w.heap.size ≤ x) w.heap.size o.way w1) := Lib.hid (HW.out ▸ hs)
        have HB := Lib.hid hb
        clear hs hb
        go_wp2_with (fail)
        go_ret
        exact ⟨_, rfl, HS.out, HB.out⟩
      · have e7 : (o.kind == 7) = false := by simpa using k7
        by_cases k8 : o.kind = 8
        · have HW := Lib.hid (show WS.init leastI mostI true 1 true = o.way by unfold Op.way; rw [if_neg k5]; rw [if_neg k6]; rw [if_neg k7]; rw [if_pos k8])
          rw [k8] at c1
          clear k8 k5 k6 k7
          go_enter Tryz.func167, Tryz.ntmps167
          go_wp2_with (fail)
          with_reducible refine (newW_any (-9223372036854775808) 9223372036854775807 true 1 true _).mono ?_
          rintro e w1 ⟨rfl, hs, hb⟩
          have HS : Hid (WalkP (fun x => w.heap.size ≤ x) w.heap.size o.way w1) := Lib.hid (HW.out ▸ hs)
          have HB := Lib.hid hb
          clear hs hb
          go_wp2_with (fail)
          go_ret
          exact ⟨_, rfl, HS.out, HB.out⟩
        · have e8 : (o.kind == 8) = false := by simpa using k8
          by_cases k9 : o.kind = 9
          · have HW := Lib.hid (show WS.init o.key o.val false 0 true = o.way by unfold Op.way; rw [if_neg k5]; rw [if_neg k6]; rw [if_neg k7]; rw [if_neg k8]; rw [if_pos k9])
            rw [k9] at c1
            clear k9 k5 k6 k7 k8
            go_enter Tryz.func167, Tryz.ntmps167
            go_wp2_with (fail)
            with_reducible refine (newW_any o.key o.val false 0 true _).mono ?_
            rintro e w1 ⟨rfl, hs, hb⟩
            have HS : Hid (WalkP (fun x => w.heap.size ≤ x) w.heap.size o.way w1) := Lib.hid (HW.out ▸ hs)
            have HB := Lib.hid hb
            clear hs hb
            go_wp2_with (fail)
            go_ret
            exact ⟨_, rfl, HS.out, HB.out⟩
          · have e9 : (o.kind == 9) = false := by simpa using k9
            have HW := Lib.hid (show WS.init o.key o.val false 0 false = o.way by unfold Op.way; rw [if_neg k5]; rw [if_neg k6]; rw [if_neg k7]; rw [if_neg k8]; rw [if_neg k9])
            clear k5 k6 k7 k8 k9
            go_enter Tryz.func167, Tryz.ntmps167
            go_wp2_with (fail)
            have hHd : Blk w.drew b 155 (queryC o next left sv wv av r lv) := HH.out.below (drawn_bl (Drawn.of w 1) _) HH.out.lt
            have HHd := Lib.hid hHd
            clear hHd
            go_region_held3 (fun w' => w'.cell? ⟨b, 2, none⟩ = some (.int .i64 o.key) ∧ w'.cell? ⟨b, 3, none⟩ = some (.int .i64 o.val)) (first | go_keep | exact ⟨HB1.out.cell 2, HB1.out.cell 3⟩) (first | (go_at_call 59; (with_reducible refine (newW_any o.key o.val false 0 false _).mono ?_); rintro e w1 ⟨rfl, hs, hb⟩; have HB1 := Lib.hid (HHd.out.below hb HHd.out.lt); have HSd := Lib.hid hs; have HBd := Lib.hid hb; clear hs hb))
            have HS : Hid (WalkP (fun x => w.heap.size ≤ x) w.heap.size o.way w1) := Lib.hid (HW.out ▸ HSd.out)
            have HB : Hid (Below w.heap.size w w1) := Lib.hid ((drawn_bl (Drawn.of w 1) _).trans HBd.out)
            go_wp2_with (fail)
            go_ret
            exact ⟨_, rfl, HS.out, HB.out⟩
def RoundPost (b : Nat) (o : Op) (left : Int) (sv av : Value) (r : Res) (lv : Value) (w : World) (e : Ending) (w' : World) : Prop := e = .returned (.tuple #[]) ∧ ∃ wb, Blk w' b 155 (queryC o 1 left sv (.pointer (some ⟨wb, 0, none⟩)) av r lv) ∧ WalkP (fun x => w.heap.size ≤ x) wb o.way w' ∧ Chg (fun x => x = b) w w'
set_option maxHeartbeats 1000000 in
theorem roundQ_any (b : Nat) (o : Op) (next left : Int) (sv wv av : Value) (r : Res) (lv : Value) (w : World) (h : Blk w b 155 (queryC o next left sv wv av r lv)) (hp : IsPtr wv) :
    Calls Tryz.prog 107 #[.pointer (some ⟨b, 0, none⟩)] w (RoundPost b o left sv av r lv w) := by
  obtain ⟨wa, rfl⟩ := hp
  have H := Lib.hid h
  clear h
  go_enter Tryz.func107, Tryz.ntmps107
  go_wp2_with (fail)
  with_reducible refine (wayQ_any b o next left sv (.pointer wa) av r lv _ H.out).mono ?_
  rintro e w1 ⟨wb, rfl, hs, hb⟩
  have h1 := H.out.below hb H.out.lt
  have c0 : w1.cell? ⟨b, 0, none⟩ = some (.int .i64 next) := h1.cell 0
  have c6 : w1.cell? ⟨b, 6, none⟩ = some (.pointer wa) := h1.cell 6
  have f0 := h1.frozen 0
  have f6 := h1.frozen 6
  have o3 : Chg (fun x => x = b) w1 ((w1.setCell ⟨b, 0, none⟩ (.int .i64 1)).setCell ⟨b, 6, none⟩ (.pointer (some ⟨wb, 0, none⟩))) := Chg.of_mv (F := fun x => x = b) ((Mv.set1 w1 b 0 _).trans_ (Mv.set1 _ b 6 _)) rfl
  have hlt := H.out.lt
  have HX : Hid (RoundPost b o left sv av r lv w (.returned (.tuple #[])) ((w1.setCell ⟨b, 0, none⟩ (.int .i64 1)).setCell ⟨b, 6, none⟩ (.pointer (some ⟨wb, 0, none⟩)))) := Lib.hid ⟨rfl, wb, (h1.set_ 0 _).set_ 6 _, hs.chg o3 (fun x hx e => by omega), (Chg.of_below hb).trans o3⟩
  clear hs hb h1 o3 hlt
  go_wp2_with (fail)
  go_end0
  exact HX.out
def AnsPost (o : Op) (L : List (Int × Int)) (lo : Nat) (w : World) (e : Ending) (w' : World) : Prop := ∃ lv, e = .returned (resV (o.answer L) lv) ∧ w'.ownsRow lo 52 2 lv (o.answer L).list.length (cellsP (o.answer L).list) ∧ Below w.heap.size w w'
set_option maxHeartbeats 2000000 in
theorem answerQ_any (b : Nat) (o : Op) (next left : Int) (sv wv av : Value) (r : Res) (lv : Value) (L : List (Int × Int)) (v : Value) (lo : Nat) (w : World) (h : Blk w b 155 (queryC o next left sv wv av r lv)) (hO : w.ownsRow lo 52 2 v L.length (cellsP L)) (hl : L.length ≤ 1000000) :
    Calls Tryz.prog 189 #[.pointer (some ⟨b, 0, none⟩), v] w (AnsPost o L lo w) := by
  obtain ⟨A, c, rfl⟩ := own_shape hO
  have c1 : w.cell? ⟨b, 1, none⟩ = some (.int .i64 o.kind) := h.cell 1
  have HO := Lib.hid hO
  have n1 := World.new_ne w ⟨b, 1, none⟩ c1
  have hbl := h.lt
  clear h
  by_cases k9 : o.kind = 9
  · have HA := Lib.hid (show o.answer L = ⟨0, false, 0, 0, 0, L⟩ from if_pos k9)
    rw [k9] at c1
    clear k9 hO
    go_enter Tryz.func189, Tryz.ntmps189
    go_wp2_with (fail)
    refine bodyPost_ret (v := resV ⟨0, false, 0, 0, 0, L⟩ (.slice A L.length c)) (by simp [results, Tryz.results189, go_sem, resV]) rfl ?_
    unfold AnsPost
    rw [HA.out]
    exact ⟨_, rfl, own_below HO.out ((Below.refl _ _).alloc (Nat.le_refl _) _), (Below.refl _ _).alloc (Nat.le_refl _) _⟩
  · have e9 : (o.kind == 9) = false := by simpa using k9
    by_cases k10 : o.kind = 10
    · have HA := Lib.hid (show o.answer L = ⟨0, false, 0, 0, L.length, []⟩ by unfold Op.answer; rw [if_neg k9, if_pos k10])
      rw [k10] at c1
      clear k9 k10 e9 hO
      go_enter Tryz.func189, Tryz.ntmps189
      go_wp2_with (fail)
      refine bodyPost_ret (v := resV ⟨0, false, 0, 0, L.length, []⟩ (.slice none 0 0)) (by simp [results, Tryz.results189, go_sem, resV]) rfl ?_
      unfold AnsPost
      rw [HA.out]
      exact ⟨_, rfl, World.ownsRow_nil _ _ _ _, (Below.refl _ _).alloc (Nat.le_refl _) _⟩
    · have e10 : (o.kind == 10) = false := by simpa using k10
      cases L with
      | nil =>
        have HA := Lib.hid (show o.answer [] = Res.none by unfold Op.answer; rw [if_neg k9, if_neg k10])
        clear k9 k10 hO
        go_enter Tryz.func189, Tryz.ntmps189
        go_wp2_with (fail)
        refine bodyPost_ret (v := resV Res.none (.slice none 0 0)) (by simp [results, Tryz.results189, go_sem, resV, Res.none]) rfl ?_
        unfold AnsPost
        rw [HA.out]
        exact ⟨_, rfl, World.ownsRow_nil _ _ _ _, (Below.refl _ _).alloc (Nat.le_refl _) _⟩
      | cons x L =>
        have HA := Lib.hid (show o.answer (x :: L) = ⟨0, true, x.1, x.2, 0, []⟩ by unfold Op.answer; rw [if_neg k9, if_neg k10])
        obtain ⟨g, c', he, _, hlt⟩ := hO.form (by simp)
        injection he with h1 h2 h3
        subst h1
        subst h3
        have d0 : w.cell? ⟨g, 0, none⟩ = some (.int .i64 x.1) := hO.cellAt 0 (by simp)
        have d1 : w.cell? ⟨g, 1, none⟩ = some (.int .i64 x.2) := hO.cellAt 1 (by simp; omega)
        have n2 := World.new_ne w _ d0
        have e0 : ((L.length : Int) + 1 == 0) = false := by rw [beq_eq_false_iff_ne]; omega
        have e3 : (0 : Int) < (L.length : Int) + 1 := by omega
        have hl2 : L.length ≤ 1000000 := by simp at hl; omega
        clear k9 k10 hO h2 hl
        go_enter Tryz.func189, Tryz.ntmps189
        go_wp2_with (fail)
        refine bodyPost_ret (v := resV ⟨0, true, x.1, x.2, 0, []⟩ (.slice none 0 0)) (by simp [results, Tryz.results189, go_sem, resV]) rfl ?_
        unfold AnsPost
        rw [HA.out]
        exact ⟨_, rfl, World.ownsRow_nil _ _ _ _, (Below.refl _ _).alloc (Nat.le_refl _) _⟩
/- query's frame: sought, looked, New. -/

theorem own_low {w : World} {base : Nat} {e : TypeId} {size : Nat} {v : Value} {n : Nat} {xs : List Value} (h : w.ownsRow base e size v n xs) : w.ownsRow 0 e size v n xs :=
  ⟨h.1, h.2.imp id (fun ⟨g, cap, cur, a, b, c⟩ => ⟨g, cap, cur, a, Nat.zero_le _, c⟩)⟩
theorem IsPtr.mk (a : Option Addr) : IsPtr (.pointer a) := ⟨_, rfl⟩
theorem IsSl.nil : IsSl (.slice none 0 0) := ⟨_, _, _, rfl⟩
theorem PrP.nil' {F : Nat → Prop} {T : TypeId} {w : World} : PrP F T (.slice none 0 0) [] w := ⟨World.ownsRow_nil _ _ _ _, fun g hg => by simp [Value.ownBlock] at hg⟩
def QPost (F : Nat → Prop) (b : Nat) (o : Op) (b0 : Int) (q : QP) (w : World) (e : Ending) (w' : World) : Prop := e = .returned (.tuple #[]) ∧ QueryP (fun x => F x ∨ w.heap.size ≤ x) b o b0 q w' ∧ Chg (fun x => x = b) w w'
/-- The end with an answer that holds no list. -/
theorem done_nil {F : Nat → Prop} {b : Nat} {o : Op} {b0 left : Int} {sv wv av : Value} {r : Res} {w : World} (fb : F b) (p1 : IsPtr sv) (p2 : IsPtr wv) (p3 : IsPtr av) (hr : r.list = []) (h : Blk w b 155 (queryC o 3 left sv wv av r (.slice none 0 0))) : QueryP F b o b0 (.done left r) w :=
  ⟨sv, wv, av, r, _, fb, p1, p2, p3, IsSl.nil, h, hr ▸ PrP.nil'⟩
theorem endE_any (b : Nat) (o : Op) (next left : Int) (sv wv av : Value) (r : Res) (lv : Value) (why key val n : Int) (found : Bool) (list : List (Int × Int)) (lv' : Value) (w : World) (h : Blk w b 155 (queryC o next left sv wv av r lv)) (hl : IsSl lv) (hl' : IsSl lv') :
    Calls Tryz.prog 106 #[.pointer (some ⟨b, 0, none⟩), .agg #[.int .i64 why, .bool found, .int .i64 key, .int .i64 val, .int .i64 n, lv']] w fun e w' => e = .returned (.tuple #[]) ∧ Blk w' b 155 (queryC o 3 left sv wv av ⟨why, found, key, val, n, list⟩ lv') ∧ Chg (fun x => x = b) w w' :=
  endQ_any b o next left sv wv av r ⟨why, found, key, val, n, list⟩ lv lv' w h hl hl'
section
variable (F : Nat → Prop) (b : Nat) (o : Op) (b0 left : Int)
set_option maxHeartbeats 1000000 in
theorem soughtQ_any (sb : Nat) (Fs : Nat → Prop) (s : SS) (wv av : Value) (r : Res) (lv : Value) (w : World) (fb : F b) (p2 : IsPtr wv) (p3 : IsPtr av) (p4 : IsSl lv) (h : Blk w b 155 (queryC o 0 left (.pointer (some ⟨sb, 0, none⟩)) wv av r lv)) (hs : SeekP Fs sb s w) :
    Calls Tryz.prog 145 #[.pointer (some ⟨b, 0, none⟩)] w (QPost F b o b0 (QP.sought o left s) w) := by
  have c5 : w.cell? ⟨b, 5, none⟩ = some (.pointer (some ⟨sb, 0, none⟩)) := h.cell 5
  have H := Lib.hid h
  have HS := Lib.hid hs
  have P2 := Lib.hid p2
  have P3 := Lib.hid p3
  have P4 := Lib.hid p4
  have FB := Lib.hid fb
  clear h hs p2 p3 p4 fb
  cases ht : s.there with
  | true =>
    have HR := Lib.hid (show QP.sought o left s = .done left ⟨0, true, o.key, s.value, 0, []⟩ from if_pos ht)
    go_enter Tryz.func145, Tryz.ntmps145
    go_wp2_with (fail)
    with_reducible refine (valueS_any _ _ _ _ HS.out).mono ?_
    rintro e w1 ⟨rfl, hd⟩
    have hB1 := H.out.below (drawn_bl hd _) H.out.lt
    have HD := Lib.hid hd
    have c2 : w1.cell? ⟨b, 2, none⟩ = some (.int .i64 o.key) := hB1.cell 2
    have HB1 := Lib.hid hB1
    clear hB1
    rw [ht]
    clear hd c5 ht
    go_wp2_with (fail)
    with_reducible refine (endE_any b o 0 left (.pointer (some ⟨sb, 0, none⟩)) wv av r lv 0 o.key s.value 0 true [] _ _ HB1.out P4.out IsSl.nil).mono ?_
    rintro e w2 ⟨rfl, hb, hc⟩
    have HX : Hid (QPost F b o b0 (QP.sought o left s) w (.returned (.tuple #[])) w2) := Lib.hid (by
      rw [HR.out]
      exact ⟨rfl, (done_nil FB.out ⟨_, rfl⟩ P2.out P3.out rfl hb).mono (fun _ => .inl), (Chg.of_below (drawn_bl HD.out _)).trans hc⟩)
    clear hb hc
    go_wp2_with (fail)
    go_end0
    exact HX.out
  | false =>
    have HR := Lib.hid (show QP.sought o left s = .done left Res.none from if_neg (by rw [ht]; exact Bool.false_ne_true))
    go_enter Tryz.func145, Tryz.ntmps145
    go_wp2_with (fail)
    with_reducible refine (valueS_any _ _ _ _ HS.out).mono ?_
    rintro e w1 ⟨rfl, hd⟩
    have HB1 := Lib.hid (H.out.below (drawn_bl hd _) H.out.lt)
    have HD := Lib.hid hd
    rw [ht]
    clear hd c5 ht
    go_wp2_with (fail)
    with_reducible refine (endE_any b o 0 left (.pointer (some ⟨sb, 0, none⟩)) wv av r lv 0 0 0 0 false [] _ _ HB1.out P4.out IsSl.nil).mono ?_
    rintro e w2 ⟨rfl, hb, hc⟩
    have HX : Hid (QPost F b o b0 (QP.sought o left s) w (.returned (.tuple #[])) w2) := Lib.hid (by
      rw [HR.out]
      exact ⟨rfl, (done_nil FB.out ⟨_, rfl⟩ P2.out P3.out rfl hb).mono (fun _ => .inl), (Chg.of_below (drawn_bl HD.out _)).trans hc⟩)
    clear hb hc
    go_wp2_with (fail)
    refine bodyPost_ret (results_none rfl _ _ _) rfl ?_
    exact HX.out
set_option maxHeartbeats 2000000 in
theorem lookedQ_any (wb ab : Nat) (Fw Fa : Nat → Prop) (s : WS) (a : AS) (next : Int) (sv : Value) (r : Res) (lv : Value) (w : World) (fb : F b) (p1 : IsPtr sv) (p4 : IsSl lv) (h : Blk w b 155 (queryC o next left sv (.pointer (some ⟨wb, 0, none⟩)) (.pointer (some ⟨ab, 0, none⟩)) r lv)) (hw : WalkP Fw wb s w) (hfw : ∀ x, Fw x → x ≠ b) (ha : AgainP Fa ab a w) (hfa : ∀ x, Fa x → x ≠ b) (hn : s.next = 6) (hl : s.pairs.length ≤ 1000000) (l1 : 1 ≤ left) (l2 : left ≤ 64) :
    Calls Tryz.prog 146 #[.pointer (some ⟨b, 0, none⟩)] w (QPost F b o b0 (QP.looked o left s a) w) := by
  have c4 : w.cell? ⟨b, 4, none⟩ = some (.int .i64 left) := h.cell 4
  have f4 := h.frozen 4
  have d6 : w.cell? ⟨b, 6, none⟩ = some (.pointer (some ⟨wb, 0, none⟩)) := h.cell 6
  have d7 : w.cell? ⟨b, 7, none⟩ = some (.pointer (some ⟨ab, 0, none⟩)) := h.cell 7
  have ew : IntKind.i64.wrap (left - 1) = left - 1 := IntWalk.i64_in _ ⟨by omega, by omega⟩
  have o1 : Chg (fun x => x = b) w (w.setCell ⟨b, 4, none⟩ (.int .i64 (left - 1))) := Chg.of_mv (F := fun x => x = b) (Mv.set1 w b 4 _) rfl
  have HB1 : Hid (Blk (w.setCell ⟨b, 4, none⟩ (.int .i64 (left - 1))) b 155 (queryC o next (left - 1) sv (.pointer (some ⟨wb, 0, none⟩)) (.pointer (some ⟨ab, 0, none⟩)) r lv)) := Lib.hid (h.set_ 4 _)
  have HW1 := Lib.hid (hw.chg o1 (fun x hx e => hfw x hx e))
  have HA1 := Lib.hid (ha.chg o1 (fun x hx e => hfa x hx e))
  have hz1 : (w.setCell ⟨b, 4, none⟩ (.int .i64 (left - 1))).heap.size = w.heap.size := by simp
  have hbw : b ≠ wb := fun e => by
    obtain ⟨rv, pv, lv, prv, sv, hq⟩ := hw
    exact hfw _ hq.fb e.symm
  have O1 := Lib.hid o1
  have P1 := Lib.hid p1
  have P4 := Lib.hid p4
  have FB := Lib.hid fb
  have HN := Lib.hid hn
  have HZ := Lib.hid hz1
  clear o1 p1 p4 fb hn hz1
  clear h hw ha hfw hfa
  cases hs : a.same with
  | true =>
    have HR := Lib.hid (show QP.looked o left s a = .done (left - 1) (o.answer s.pairs) from if_pos hs)
    go_enter Tryz.func146, Tryz.ntmps146
    go_wp2_with (fail)
    generalize w.setCell ⟨b, 4, none⟩ (.int .i64 (left - 1)) = w1 at HB1 HW1 HA1 O1 HZ ⊢
    have c6 : w1.cell? ⟨b, 6, none⟩ = some (.pointer (some ⟨wb, 0, none⟩)) := HB1.out.cell 6
    have c7 : w1.cell? ⟨b, 7, none⟩ = some (.pointer (some ⟨ab, 0, none⟩)) := HB1.out.cell 7
    clear c4 f4 ew d6 d7
    with_reducible refine (sameA_any _ _ _ _ HA1.out).mono ?_
    rintro e w2 ⟨rfl, rfl⟩
    rw [hs]
    clear hs
    go_wp2_with (fail)
    with_reducible refine (pairsW_any _ _ _ _ HW1.out HN.out hl).mono ?_
    rintro e w2 ⟨v2, rfl, hO, hb⟩
    have HB2 := Lib.hid (HB1.out.below hb HB1.out.lt)
    have HO2 := Lib.hid hO
    have HU2 := Lib.hid hb
    clear hO hb c6 c7
    go_wp2_with (fail)
    with_reducible refine (answerQ_any b o next (left - 1) sv _ _ r lv s.pairs v2 w1.heap.size _ HB2.out HO2.out hl).mono ?_
    rintro e w3 ⟨lv3, rfl, hO, hb⟩
    have HB3 := Lib.hid (HB2.out.below hb HB2.out.lt)
    have hsl : IsSl lv3 := by obtain ⟨A, c, rfl⟩ := own_shape hO; exact ⟨_, _, _, rfl⟩
    have HO3 := Lib.hid hO
    have HSL := Lib.hid hsl
    have HU3 := Lib.hid hb
    clear hO hb hsl
    go_wp2_with (fail)
    with_reducible refine (endQ_any b o next (left - 1) sv _ _ r (o.answer s.pairs) lv lv3 _ HB3.out P4.out HSL.out).mono ?_
    rintro e w4 ⟨rfl, hb, hc⟩
    have HX : Hid (QPost F b o b0 (QP.looked o left s a) w (.returned (.tuple #[])) w4) := Lib.hid (by
      rw [HR.out]
      refine ⟨rfl, ⟨sv, _, _, Res.none, lv3, .inl FB.out, P1.out, ⟨_, rfl⟩, ⟨_, rfl⟩, HSL.out, hb, own_low (hc.own HO3.out (fun g hg e => own_blk_ne HO3.out HB3.out (by decide) (by rw [hg, e]))), fun g hg => .inr ?_⟩, (O1.out.trans (Chg.of_below (HU2.out.trans (HU3.out.mono HU2.out.size)))).trans hc⟩
      have := (HO3.out.lt g hg).1
      have := HZ.out
      omega)
    clear hb hc
    go_wp2_with (fail)
    go_end0
    exact HX.out
  | false =>
    by_cases hl0 : left - 1 = 0
    · have HR := Lib.hid (show QP.looked o left s a = .done (left - 1) (Res.err 9) by unfold QP.looked; rw [if_neg (by rw [hs]; exact Bool.false_ne_true), if_pos hl0])
      have HL0 := Lib.hid hl0
      clear hl0
      go_enter Tryz.func146, Tryz.ntmps146
      go_wp2_with (fail)
      generalize w.setCell ⟨b, 4, none⟩ (.int .i64 (left - 1)) = w1 at HB1 HW1 HA1 O1 HZ ⊢
      have c7 : w1.cell? ⟨b, 7, none⟩ = some (.pointer (some ⟨ab, 0, none⟩)) := HB1.out.cell 7
      clear c4
      have c4 : w1.cell? ⟨b, 4, none⟩ = some (.int .i64 (left - 1)) := HB1.out.cell 4
      clear f4 ew d6 d7
      with_reducible refine (sameA_any _ _ _ _ HA1.out).mono ?_
      rintro e w2 ⟨rfl, rfl⟩
      rw [hs]
      clear hs
      have e0 : (left - 1 == 0) = true := by simpa using HL0.out
      go_wp2_with (fail)
      with_reducible refine (endE_any b o next (left - 1) sv _ _ r lv 9 0 0 0 false [] _ _ HB1.out P4.out IsSl.nil).mono ?_
      rintro e w4 ⟨rfl, hb, hc⟩
      have HX : Hid (QPost F b o b0 (QP.looked o left s a) w (.returned (.tuple #[])) w4) := Lib.hid (by
        rw [HR.out]
        exact ⟨rfl, (done_nil FB.out P1.out ⟨_, rfl⟩ ⟨_, rfl⟩ rfl hb).mono (fun _ => .inl), O1.out.trans hc⟩)
      clear hb hc
      go_wp2_with (fail)
      go_end0
      exact HX.out
    · have HR := Lib.hid (show QP.looked o left s a = .walk (left - 1) o.way by unfold QP.looked; rw [if_neg (by rw [hs]; exact Bool.false_ne_true), if_neg hl0])
      have HL0 := Lib.hid hl0
      clear hl0
      go_enter Tryz.func146, Tryz.ntmps146
      go_wp2_with (fail)
      generalize w.setCell ⟨b, 4, none⟩ (.int .i64 (left - 1)) = w1 at HB1 HW1 HA1 O1 HZ ⊢
      have c7 : w1.cell? ⟨b, 7, none⟩ = some (.pointer (some ⟨ab, 0, none⟩)) := HB1.out.cell 7
      clear c4
      have c4 : w1.cell? ⟨b, 4, none⟩ = some (.int .i64 (left - 1)) := HB1.out.cell 4
      clear f4 ew d6 d7
      with_reducible refine (sameA_any _ _ _ _ HA1.out).mono ?_
      rintro e w2 ⟨rfl, rfl⟩
      rw [hs]
      clear hs
      have e0 : (left - 1 == 0) = false := by simpa using HL0.out
      go_wp2_with (fail)
      with_reducible refine (roundQ_any b o next (left - 1) sv _ _ r lv _ HB1.out (IsPtr.mk _)).mono ?_
      rintro e w4 ⟨rfl, wb2, hb, hw, hc⟩
      have HX : Hid (QPost F b o b0 (QP.looked o left s a) w (.returned (.tuple #[])) w4) := Lib.hid (by
        rw [HR.out]
        have hbl := HB1.out.lt
        have hz := HZ.out
        exact ⟨rfl, ⟨sv, _, _, r, lv, .inl FB.out, P1.out, ⟨_, rfl⟩, ⟨_, rfl⟩, P4.out, hb, wb2, _, rfl, hw, fun x hx => ⟨.inr (by omega), by omega⟩⟩, O1.out.trans hc⟩)
      clear hb hw hc
      go_wp2_with (fail)
      go_end0
      exact HX.out
end
/- query's frame: New. -/

def NewQPost (o : Op) (budget : Int) (w : World) (e : Ending) (w' : World) : Prop := ∃ b, e = .returned (.pointer (some ⟨b, 0, none⟩)) ∧ QueryP (fun x => w.heap.size ≤ x) b o budget (QP.init o budget) w' ∧ Below w.heap.size w w'
set_option maxRecDepth 100000 in
set_option maxHeartbeats 4000000 in
theorem newQ_any (o : Op) (budget : Int) (w : World) :
    Calls Tryz.prog 44 #[.agg #[.int .i64 o.kind, .int .i64 o.key, .int .i64 o.val], .int .i64 budget] w (NewQPost o budget w) := by
  have hz1 : (w.alloc (.cells #[.int .i64 o.kind, .int .i64 o.key, .int .i64 o.val] 48)).heap.size = w.heap.size + 1 := by simp
  have HB2 : Hid (Blk ((w.alloc (.cells #[.int .i64 o.kind, .int .i64 o.key, .int .i64 o.val] 48)).alloc (.cells #[.int .i64 0, .int .i64 o.kind, .int .i64 o.key, .int .i64 o.val, .int .i64 budget, .pointer none, .pointer none, .pointer none, .int .i64 0, .bool false, .int .i64 0, .int .i64 0, .int .i64 0, .slice none 0 0] 155)) (w.heap.size + 1) 155 (queryC o 0 budget (.pointer none) (.pointer none) (.pointer none) Res.none (.slice none 0 0))) := Lib.hid (by
    have := Blk.new (w.alloc (.cells #[.int .i64 o.kind, .int .i64 o.key, .int .i64 o.val] 48)) 155 (queryC o 0 budget (.pointer none) (.pointer none) (.pointer none) Res.none (.slice none 0 0))
    rw [hz1] at this
    exact this)
  have HU2 : Hid (Below w.heap.size w ((w.alloc (.cells #[.int .i64 o.kind, .int .i64 o.key, .int .i64 o.val] 48)).alloc (.cells #[.int .i64 0, .int .i64 o.kind, .int .i64 o.key, .int .i64 o.val, .int .i64 budget, .pointer none, .pointer none, .pointer none, .int .i64 0, .bool false, .int .i64 0, .int .i64 0, .int .i64 0, .slice none 0 0] 155))) := Lib.hid (((Below.refl w.heap.size w).alloc (Nat.le_refl _) _).alloc (by rw [hz1]; omega) _)
  have HZ2 : Hid (((w.alloc (.cells #[.int .i64 o.kind, .int .i64 o.key, .int .i64 o.val] 48)).alloc (.cells #[.int .i64 0, .int .i64 o.kind, .int .i64 o.key, .int .i64 o.val, .int .i64 budget, .pointer none, .pointer none, .pointer none, .int .i64 0, .bool false, .int .i64 0, .int .i64 0, .int .i64 0, .slice none 0 0] 155)).heap.size = w.heap.size + 2) := Lib.hid (by simp)
  clear hz1
  by_cases k4 : o.kind < 4
  · have HR := Lib.hid (show QP.init o budget = .done budget (Res.err 5) by unfold QP.init; rw [if_pos (.inl k4)])
    go_enter Tryz.func44, Tryz.ntmps44
    go_wp2_with (fail)
    generalize (w.alloc (.cells #[.int .i64 o.kind, .int .i64 o.key, .int .i64 o.val] 48)).alloc (.cells #[.int .i64 0, .int .i64 o.kind, .int .i64 o.key, .int .i64 o.val, .int .i64 budget, .pointer none, .pointer none, .pointer none, .int .i64 0, .bool false, .int .i64 0, .int .i64 0, .int .i64 0, .slice none 0 0] 155) = w2 at HB2 HU2 HZ2 ⊢
    with_reducible refine (endE_any (w.heap.size + 1) o 0 budget _ _ _ Res.none _ 5 0 0 0 false [] _ _ HB2.out IsSl.nil IsSl.nil).mono ?_
    rintro e w3 ⟨rfl, hb, hc⟩
    have HX : Hid (NewQPost o budget w (.returned (.pointer (some ⟨w.heap.size + 1, 0, none⟩))) w3) := Lib.hid (by
      refine ⟨_, rfl, ?_, HU2.out.trans (hc.below (B := w.heap.size) (fun x hx => by omega) (by have := HZ2.out; omega))⟩
      rw [HR.out]
      exact done_nil (by omega) (IsPtr.mk _) (IsPtr.mk _) (IsPtr.mk _) rfl hb)
    clear hb hc
    go_wp2_with (fail)
    go_ret
    exact HX.out
  · have e4 : decide (o.kind < 4) = false := decide_eq_false k4
    by_cases k10 : 10 < o.kind
    · have HR := Lib.hid (show QP.init o budget = .done budget (Res.err 5) by unfold QP.init; rw [if_pos (.inr k10)])
      clear k4
      go_enter Tryz.func44, Tryz.ntmps44
      go_wp2_with (fail)
      generalize (w.alloc (.cells #[.int .i64 o.kind, .int .i64 o.key, .int .i64 o.val] 48)).alloc (.cells #[.int .i64 0, .int .i64 o.kind, .int .i64 o.key, .int .i64 o.val, .int .i64 budget, .pointer none, .pointer none, .pointer none, .int .i64 0, .bool false, .int .i64 0, .int .i64 0, .int .i64 0, .slice none 0 0] 155) = w2 at HB2 HU2 HZ2 ⊢
      with_reducible refine (endE_any (w.heap.size + 1) o 0 budget _ _ _ Res.none _ 5 0 0 0 false [] _ _ HB2.out IsSl.nil IsSl.nil).mono ?_
      rintro e w3 ⟨rfl, hb, hc⟩
      have HX : Hid (NewQPost o budget w (.returned (.pointer (some ⟨w.heap.size + 1, 0, none⟩))) w3) := Lib.hid (by
        refine ⟨_, rfl, ?_, HU2.out.trans (hc.below (B := w.heap.size) (fun x hx => by omega) (by have := HZ2.out; omega))⟩
        rw [HR.out]
        exact done_nil (by omega) (IsPtr.mk _) (IsPtr.mk _) (IsPtr.mk _) rfl hb)
      clear hb hc
      go_wp2_with (fail)
      go_ret
      exact HX.out
    · have e10 : decide (10 < o.kind) = false := decide_eq_false k10
      by_cases b1 : budget < 1
      · have HR := Lib.hid (show QP.init o budget = .done budget (Res.err 2) by unfold QP.init; rw [if_neg (by omega), if_pos (.inl b1)])
        clear k4 k10
        go_enter Tryz.func44, Tryz.ntmps44
        go_wp2_with (fail)
        generalize (w.alloc (.cells #[.int .i64 o.kind, .int .i64 o.key, .int .i64 o.val] 48)).alloc (.cells #[.int .i64 0, .int .i64 o.kind, .int .i64 o.key, .int .i64 o.val, .int .i64 budget, .pointer none, .pointer none, .pointer none, .int .i64 0, .bool false, .int .i64 0, .int .i64 0, .int .i64 0, .slice none 0 0] 155) = w2 at HB2 HU2 HZ2 ⊢
        with_reducible refine (endE_any (w.heap.size + 1) o 0 budget _ _ _ Res.none _ 2 0 0 0 false [] _ _ HB2.out IsSl.nil IsSl.nil).mono ?_
        rintro e w3 ⟨rfl, hb, hc⟩
        have HX : Hid (NewQPost o budget w (.returned (.pointer (some ⟨w.heap.size + 1, 0, none⟩))) w3) := Lib.hid (by
          refine ⟨_, rfl, ?_, HU2.out.trans (hc.below (B := w.heap.size) (fun x hx => by omega) (by have := HZ2.out; omega))⟩
          rw [HR.out]
          exact done_nil (by omega) (IsPtr.mk _) (IsPtr.mk _) (IsPtr.mk _) rfl hb)
        clear hb hc
        go_wp2_with (fail)
        go_ret
        exact HX.out
      · have f1 : decide (budget < 1) = false := decide_eq_false b1
        by_cases b64 : 64 < budget
        · have HR := Lib.hid (show QP.init o budget = .done budget (Res.err 2) by unfold QP.init; rw [if_neg (by omega), if_pos (.inr b64)])
          clear k4 k10 b1
          go_enter Tryz.func44, Tryz.ntmps44
          go_wp2_with (fail)
          generalize (w.alloc (.cells #[.int .i64 o.kind, .int .i64 o.key, .int .i64 o.val] 48)).alloc (.cells #[.int .i64 0, .int .i64 o.kind, .int .i64 o.key, .int .i64 o.val, .int .i64 budget, .pointer none, .pointer none, .pointer none, .int .i64 0, .bool false, .int .i64 0, .int .i64 0, .int .i64 0, .slice none 0 0] 155) = w2 at HB2 HU2 HZ2 ⊢
          with_reducible refine (endE_any (w.heap.size + 1) o 0 budget _ _ _ Res.none _ 2 0 0 0 false [] _ _ HB2.out IsSl.nil IsSl.nil).mono ?_
          rintro e w3 ⟨rfl, hb, hc⟩
          have HX : Hid (NewQPost o budget w (.returned (.pointer (some ⟨w.heap.size + 1, 0, none⟩))) w3) := Lib.hid (by
            refine ⟨_, rfl, ?_, HU2.out.trans (hc.below (B := w.heap.size) (fun x hx => by omega) (by have := HZ2.out; omega))⟩
            rw [HR.out]
            exact done_nil (by omega) (IsPtr.mk _) (IsPtr.mk _) (IsPtr.mk _) rfl hb)
          clear hb hc
          go_wp2_with (fail)
          go_ret
          exact HX.out
        · have f64 : decide (64 < budget) = false := decide_eq_false b64
          by_cases k : o.kind = 4
          · have HR := Lib.hid (show QP.init o budget = .seek (SS.init o.key) by unfold QP.init; rw [if_neg (by omega), if_neg (by omega), if_pos k])
            have e : (o.kind == 4) = true := by simpa using k
            clear k4 k10 b1 b64 k
            go_enter Tryz.func44, Tryz.ntmps44
            go_wp2_with (fail)
            generalize (w.alloc (.cells #[.int .i64 o.kind, .int .i64 o.key, .int .i64 o.val] 48)).alloc (.cells #[.int .i64 0, .int .i64 o.kind, .int .i64 o.key, .int .i64 o.val, .int .i64 budget, .pointer none, .pointer none, .pointer none, .int .i64 0, .bool false, .int .i64 0, .int .i64 0, .int .i64 0, .slice none 0 0] 155) = w2 at HB2 HU2 HZ2 ⊢
            with_reducible refine (newS_any o.key _).mono ?_
            rintro e w3 ⟨rfl, hs, hb⟩
            have hlt : w.heap.size + 1 < w2.heap.size := by have := HZ2.out; omega
            have HB3 := Lib.hid (HB2.out.below hb hlt)
            have c5 : w3.cell? ⟨w.heap.size + 1, 5, none⟩ = some (.pointer none) := HB3.out.cell 5
            have f5 := HB3.out.frozen 5
            have o3 : Chg (fun x => x = w.heap.size + 1) w3 (w3.setCell ⟨w.heap.size + 1, 5, none⟩ (.pointer (some ⟨w2.heap.size, 0, none⟩))) := Chg.of_mv (F := fun x => x = w.heap.size + 1) (Mv.set1 w3 (w.heap.size + 1) 5 _) rfl
            have HX : Hid (NewQPost o budget w (.returned (.pointer (some ⟨w.heap.size + 1, 0, none⟩))) (w3.setCell ⟨w.heap.size + 1, 5, none⟩ (.pointer (some ⟨w2.heap.size, 0, none⟩)))) := Lib.hid (by
              have hz3 := hb.size
              refine ⟨_, rfl, ?_, (HU2.out.trans (hb.mono (by omega))).trans (o3.below (B := w.heap.size) (fun x hx => by omega) (by omega))⟩
              rw [HR.out]
              exact ⟨_, _, _, Res.none, _, by omega, IsPtr.mk _, IsPtr.mk _, IsPtr.mk _, IsSl.nil, HB3.out.set_ 5 _, w2.heap.size, _, rfl, hs.chg o3 (fun x hx e => by omega), fun x hx => ⟨by omega, by omega⟩⟩)
            clear hs hb o3 hlt
            go_wp2_with (fail)
            go_ret
            exact HX.out
          · have HR := Lib.hid (show QP.init o budget = .walk budget o.way by unfold QP.init; rw [if_neg (by omega), if_neg (by omega), if_neg k])
            have e : (o.kind == 4) = false := by simpa using k
            clear k4 k10 b1 b64 k
            go_enter Tryz.func44, Tryz.ntmps44
            go_wp2_with (fail)
            generalize (w.alloc (.cells #[.int .i64 o.kind, .int .i64 o.key, .int .i64 o.val] 48)).alloc (.cells #[.int .i64 0, .int .i64 o.kind, .int .i64 o.key, .int .i64 o.val, .int .i64 budget, .pointer none, .pointer none, .pointer none, .int .i64 0, .bool false, .int .i64 0, .int .i64 0, .int .i64 0, .slice none 0 0] 155) = w2 at HB2 HU2 HZ2 ⊢
            with_reducible refine (roundQ_any (w.heap.size + 1) o 0 budget _ _ _ Res.none _ _ HB2.out (IsPtr.mk _)).mono ?_
            rintro e w3 ⟨rfl, wb, hb, hw, hc⟩
            have HX : Hid (NewQPost o budget w (.returned (.pointer (some ⟨w.heap.size + 1, 0, none⟩))) w3) := Lib.hid (by
              have hz := HZ2.out
              refine ⟨_, rfl, ?_, HU2.out.trans (hc.below (B := w.heap.size) (fun x hx => by omega) (by omega))⟩
              rw [HR.out]
              exact ⟨_, _, _, Res.none, _, by omega, IsPtr.mk _, IsPtr.mk _, IsPtr.mk _, IsSl.nil, hb, wb, _, rfl, hw, fun x hx => ⟨by omega, by omega⟩⟩)
            clear hb hw hc
            go_wp2_with (fail)
            go_ret
            exact HX.out
/- query's frame: Step, Result. -/

def QP.Few (R : Int → Int) : QP → Prop
  | .walk _ s => s.levels.length < 1000000 ∧ s.pairs.length ≤ 1000000 ∧ s.spots.length ≤ 1000000 ∧ (s.step R).pairs.length ≤ 1000000 ∧ (s.step R).spots.length ≤ 1000000
  | .look _ s _ => s.pairs.length ≤ 1000000
  | _ => True
def QSPost (F : Nat → Prop) (b bm : Nat) (o : Op) (b0 : Int) (q : QP) (B : Nat) (v : Value) (C : List Int) (size count odd ref : Int) (w : World) (e : Ending) (w' : World) : Prop :=
  e = .returned (.bool ((q.step o b0 (rdC C)).next == 3)) ∧ QueryP (fun x => F x ∨ w.heap.size ≤ x) b o b0 (q.step o b0 (rdC C)) w' ∧ MemP B bm v C size (cntO q.acc count) (oddO C q.acc odd) ref w' ∧ Chg (fun x => F x ∨ x = bm) w w'
theorem QPost.out {F : Nat → Prop} {b bm : Nat} {o : Op} {b0 : Int} {q : QP} {B : Nat} {v : Value} {C : List Int} {size count odd ref : Int} {w w1 : World} {e : Ending} {w' : World} (hm : MemP B bm v C size count odd ref w1) (oc : Chg (fun x => F x ∨ x = bm) w w1) (hO : Off F bm v) (fb : F b) (h : QPost F b o b0 q w1 e w') : QueryP (fun x => F x ∨ w.heap.size ≤ x) b o b0 q w' ∧ MemP B bm v C size count odd ref w' ∧ Chg (fun x => F x ∨ x = bm) w w' :=
  ⟨h.2.1.mono (fun x hx => hx.imp id (fun y => Nat.le_trans oc.size y)), hm.chg h.2.2 (fun e => hO.1 (e ▸ fb)) (fun g hg e => hO.2 g hg (e ▸ fb)), oc.trans (h.2.2.mono (fun x hx => .inl (hx ▸ fb)))⟩
theorem QPost.grown {F : Nat → Prop} {b : Nat} {o : Op} {b0 : Int} {q : QP} {w w1 : World} {e : Ending} {w' : World} (hz : w.heap.size ≤ w1.heap.size) (h : QPost (fun x => F x ∨ w.heap.size ≤ x) b o b0 q w1 e w') : QueryP (fun x => F x ∨ w.heap.size ≤ x) b o b0 q w' := h.2.1.mono (fun x hx => hx.elim id (fun y => .inr (Nat.le_trans hz y)))
def ResPost (r : Res) (w : World) (e : Ending) (w' : World) : Prop := ∃ lv, e = .returned (resV r lv) ∧ w'.ownsRow w.heap.size 52 2 lv r.list.length (cellsP r.list) ∧ Below w.heap.size w w'
theorem own_mono {w : World} {base base' : Nat} {e : TypeId} {size : Nat} {v : Value} {n : Nat} {xs : List Value} (h : w.ownsRow base e size v n xs) (hb : base' ≤ base) : w.ownsRow base' e size v n xs :=
  ⟨h.1, h.2.imp id (fun ⟨g, cap, cur, a, b, c⟩ => ⟨g, cap, cur, a, Nat.le_trans hb b, c⟩)⟩
section
variable (F : Nat → Prop) (b bm : Nat) (o : Op) (b0 : Int)
set_option maxRecDepth 100000 in
set_option maxHeartbeats 1000000 in
theorem resultQ_any (left : Int) (r : Res) (w : World) (h : QueryP F b o b0 (.done left r) w) (hl : r.list.length ≤ 1000000) : Calls Tryz.prog 46 #[.pointer (some ⟨b, 0, none⟩)] w (ResPost r w) := by
  obtain ⟨sv, wv, av, r0, lv, _, _, _, _, _, hb, hp⟩ := h
  obtain ⟨A, c, rfl⟩ := own_shape hp.1
  have c8 : w.cell? ⟨b, 8, none⟩ = some (.int .i64 r.why) := hb.cell 8
  have c9 : w.cell? ⟨b, 9, none⟩ = some (.bool r.found) := hb.cell 9
  have c10 : w.cell? ⟨b, 10, none⟩ = some (.int .i64 r.key) := hb.cell 10
  have c11 : w.cell? ⟨b, 11, none⟩ = some (.int .i64 r.val) := hb.cell 11
  have c12 : w.cell? ⟨b, 12, none⟩ = some (.int .i64 r.n) := hb.cell 12
  have c13 : w.cell? ⟨b, 13, none⟩ = some (.slice A r.list.length c) := hb.cell 13
  have n1 := World.new_ne w ⟨b, 8, none⟩ c8
  have hbl := hb.lt
  have hP := hp.1
  have HP := Lib.hid hP
  clear hP
  have hz1 : (w.alloc (.cells #[.int .i64 0, .bool false, .int .i64 0, .int .i64 0, .int .i64 0, .slice none 0 0] 54)).heap.size = w.heap.size + 1 := by simp
  have HA2 : Hid (Blk ((w.alloc (.cells #[.int .i64 0, .bool false, .int .i64 0, .int .i64 0, .int .i64 0, .slice none 0 0] 54)).alloc (.cells #[.int .i64 r.why, .bool r.found, .int .i64 r.key, .int .i64 r.val, .int .i64 r.n, .slice A r.list.length c] 54)) w.heap.size 54 #[.int .i64 0, .bool false, .int .i64 0, .int .i64 0, .int .i64 0, .slice none 0 0]) := Lib.hid ((Blk.new w 54 _).alloc _)
  have HB2 : Hid (Blk ((w.alloc (.cells #[.int .i64 0, .bool false, .int .i64 0, .int .i64 0, .int .i64 0, .slice none 0 0] 54)).alloc (.cells #[.int .i64 r.why, .bool r.found, .int .i64 r.key, .int .i64 r.val, .int .i64 r.n, .slice A r.list.length c] 54)) (w.heap.size + 1) 54 #[.int .i64 r.why, .bool r.found, .int .i64 r.key, .int .i64 r.val, .int .i64 r.n, .slice A r.list.length c]) := Lib.hid (by
    have := Blk.new (w.alloc (.cells #[.int .i64 0, .bool false, .int .i64 0, .int .i64 0, .int .i64 0, .slice none 0 0] 54)) 54 #[.int .i64 r.why, .bool r.found, .int .i64 r.key, .int .i64 r.val, .int .i64 r.n, .slice A r.list.length c]
    rw [hz1] at this
    exact this)
  have HU2 : Hid (Below w.heap.size w ((w.alloc (.cells #[.int .i64 0, .bool false, .int .i64 0, .int .i64 0, .int .i64 0, .slice none 0 0] 54)).alloc (.cells #[.int .i64 r.why, .bool r.found, .int .i64 r.key, .int .i64 r.val, .int .i64 r.n, .slice A r.list.length c] 54))) := Lib.hid (((Below.refl w.heap.size w).alloc (Nat.le_refl _) _).alloc (by rw [hz1]; omega) _)
  clear hz1 hp hb
  go_enter Tryz.func46, Tryz.ntmps46
  go_wp2_with (fail)
  generalize (w.alloc (.cells #[.int .i64 0, .bool false, .int .i64 0, .int .i64 0, .int .i64 0, .slice none 0 0] 54)).alloc (.cells #[.int .i64 r.why, .bool r.found, .int .i64 r.key, .int .i64 r.val, .int .i64 r.n, .slice A r.list.length c] 54) = w2 at HA2 HB2 HU2 ⊢
  have HR2 : Hid (PairsAt w2 w2.heap.size A r.list) := Lib.hid (Reads.of_own (own_below HP.out HU2.out))
  clear c8 c9 c10 c11 c12 c13
  with_reducible refine (cloneP_any A c _ r.list _ rfl HR2.out hl).mono ?_
  rintro e w3 ⟨v3, rfl, hO, hb3⟩
  obtain ⟨A3, c3, rfl⟩ := own_shape hO
  have ha3 := HA2.out.below hb3 HA2.out.lt
  have hb3' := HB2.out.below hb3 HB2.out.lt
  have hU3 := HU2.out.trans (hb3.mono HU2.out.size)
  have x0 : w3.cell? ⟨w.heap.size, 0, none⟩ = some (.int .i64 0) := ha3.cell 0
  have x1 : w3.cell? ⟨w.heap.size, 1, none⟩ = some (.bool false) := ha3.cell 1
  have x2 : w3.cell? ⟨w.heap.size, 2, none⟩ = some (.int .i64 0) := ha3.cell 2
  have x3 : w3.cell? ⟨w.heap.size, 3, none⟩ = some (.int .i64 0) := ha3.cell 3
  have x4 : w3.cell? ⟨w.heap.size, 4, none⟩ = some (.int .i64 0) := ha3.cell 4
  have x5 : w3.cell? ⟨w.heap.size, 5, none⟩ = some (.slice none 0 0) := ha3.cell 5
  have f0 := ha3.frozen 0
  have f1 := ha3.frozen 1
  have f2 := ha3.frozen 2
  have f3 := ha3.frozen 3
  have f4 := ha3.frozen 4
  have f5 := ha3.frozen 5
  have y0 : w3.cell? ⟨w.heap.size + 1, 0, none⟩ = some (.int .i64 r.why) := hb3'.cell 0
  have y1 : w3.cell? ⟨w.heap.size + 1, 1, none⟩ = some (.bool r.found) := hb3'.cell 1
  have y2 : w3.cell? ⟨w.heap.size + 1, 2, none⟩ = some (.int .i64 r.key) := hb3'.cell 2
  have y3 : w3.cell? ⟨w.heap.size + 1, 3, none⟩ = some (.int .i64 r.val) := hb3'.cell 3
  have y4 : w3.cell? ⟨w.heap.size + 1, 4, none⟩ = some (.int .i64 r.n) := hb3'.cell 4
  have y5 : w3.cell? ⟨w.heap.size + 1, 5, none⟩ = some (.slice A r.list.length c) := hb3'.cell 5
  have g5 := hb3'.frozen 5
  have HO := Lib.hid hO
  have HU3 := Lib.hid hU3
  have HS2 : Hid (w.heap.size + 2 ≤ w2.heap.size) := Lib.hid HB2.out.lt
  clear ha3 hb3 hb3' hU3 hO HA2 HB2 HR2 HU2
  go_wp2_with (fail)
  refine bodyPost_ret (v := resV r (.slice A3 r.list.length c3)) (by simp [results, Tryz.results46, go_sem, resV, x0, x1, x2, x3, x4, x5]) rfl ?_
  have hc : Chg (fun x => x = w.heap.size ∨ x = w.heap.size + 1) w3 _ := (Chg.of_mv (Mv.set1 w3 (w.heap.size + 1) 5 (.slice A3 r.list.length c3)) (.inr rfl)).trans (Chg.of_mv ((((((Mv.set1 _ w.heap.size 0 (.int .i64 r.why)).trans_ (Mv.set1 _ w.heap.size 1 (.bool r.found))).trans_ (Mv.set1 _ w.heap.size 2 (.int .i64 r.key))).trans_ (Mv.set1 _ w.heap.size 3 (.int .i64 r.val))).trans_ (Mv.set1 _ w.heap.size 4 (.int .i64 r.n))).trans_ (Mv.set1 _ w.heap.size 5 (.slice A3 r.list.length c3))) (.inl rfl))
  have h2 := HS2.out
  have h3 := HU3.out.size
  refine ⟨_, rfl, own_mono (hc.own HO.out (fun g hg e => by have := (HO.out.lt g hg).1; omega)) (by omega), HU3.out.trans (hc.below (B := w.heap.size) (fun x hx => by omega) h3)⟩
variable (B : Nat) (v : Value) (C : List Int) (size count odd ref : Int) (w : World) (hm : MemP B bm v C size count odd ref w) (hO : Off F bm v) (hC : C.length ≤ 1000000) (hw : ∀ i, i < C.length → -9223372036854775808 ≤ keyAt C i ∧ keyAt C i ≤ 9223372036854775807)
include hm hO hC hw
set_option maxRecDepth 100000 in
set_option maxHeartbeats 2000000 in
theorem stepQ0_any (s : SS) (h : QueryP F b o b0 (.seek s) w) (hI : s.Inv) : Calls Tryz.prog 84 #[.pointer (some ⟨b, 0, none⟩), .pointer (some ⟨bm, 0, none⟩)] w (QSPost F b bm o b0 (.seek s) B v C size count odd ref w) := by
  obtain ⟨sv, wv, av, r, lv, fb, p1, p2, p3, p4, hb, sb, Fs, rfl, hs, hF⟩ := h
  have c0 : w.cell? ⟨b, 0, none⟩ = some (.int .i64 0) := hb.cell 0
  have c5 : w.cell? ⟨b, 5, none⟩ = some (.pointer (some ⟨sb, 0, none⟩)) := hb.cell 5
  have HNS := Lib.hid (show QP.step o b0 (rdC C) (.seek s) = if (s.step (rdC C)).next = 5 then QP.sought o b0 (s.step (rdC C)) else .seek (s.step (rdC C)) from rfl)
  have hbm : b ≠ bm := fun e => hO.1 (e ▸ fb)
  have HM := Lib.hid hm
  have HO := Lib.hid hO
  have HB := Lib.hid hb
  have HS := Lib.hid hs
  have HF := Lib.hid hF
  have HI := Lib.hid hI
  have P2 := Lib.hid p2
  have P3 := Lib.hid p3
  have P4 := Lib.hid p4
  have FB := Lib.hid fb
  clear hm hO hb hs hF hI p2 p3 p4 fb
  go_enter Tryz.func84, Tryz.ntmps84
  go_wp2_with (fail)
  with_reducible refine (stepS_any Fs sb bm s B v C size count odd ref _ HS.out HM.out HI.out hC hw).mono ?_
  rintro e w1 ⟨rfl, hs1, hm1, hc1⟩
  have hB1 := hc1.blk HB.out (fun e => by
    rcases e with e | e
    · exact (HF.out b e).2 rfl
    · exact hbm e)
  have HC1 : Hid (Chg (fun x => F x ∨ x = bm) w w1) := Lib.hid (hc1.mono (fun x hx => hx.imp (fun e => (HF.out x e).1) id))
  have hbl := HB.out.lt
  have HM1 := Lib.hid hm1
  have HB1 := Lib.hid hB1
  have HS1 := Lib.hid hs1
  clear hs1 hm1 hc1 hB1 c0 c5
  obtain ⟨s1, hs1⟩ : ∃ s1, s.step (rdC C) = s1 := ⟨_, rfl⟩
  rw [hs1] at HNS HS1 ⊢
  clear hs1
  by_cases h5 : s1.next = 5
  · have e5 : (s1.next == 5) = true := by simpa using h5
    have HR := Lib.hid (HNS.out.trans (if_pos h5))
    rw [e5]
    clear e5 h5
    go_wp2_with (fail)
    with_reducible refine (soughtQ_any F b o b0 b0 sb _ s1 wv av r lv _ FB.out P2.out P3.out P4.out HB1.out HS1.out).mono ?_
    rintro e w2 hp
    have HX := Lib.hid (hp.out HM1.out HC1.out HO.out FB.out)
    obtain ⟨rfl, _, _⟩ := hp
    go_wp2_with (fail)
    with_reducible refine (doneQ_any _ _ _ _ _ _ HX.out.1).mono ?_
    rintro e w3 ⟨rfl, rfl⟩
    go_wp2_with (fail)
    go_ret
    unfold QSPost
    rw [HR.out]
    exact ⟨rfl, HX.out⟩
  · have e5 : (s1.next == 5) = false := by simpa using h5
    have HR := Lib.hid (HNS.out.trans (if_neg h5))
    have HX : Hid (QueryP (fun x => F x ∨ w.heap.size ≤ x) b o b0 (.seek s1) w1) := Lib.hid ⟨_, wv, av, r, lv, .inl FB.out, IsPtr.mk _, P2.out, P3.out, P4.out, HB1.out, sb, _, rfl, HS1.out, fun x hx => hx.elim (fun e => ⟨.inl (HF.out x e).1, (HF.out x e).2⟩) (fun e => ⟨.inr e, by omega⟩)⟩
    rw [e5]
    clear e5 h5
    go_wp2_with (fail)
    with_reducible refine (doneQ_any _ _ _ _ _ _ HX.out).mono ?_
    rintro e w3 ⟨rfl, rfl⟩
    go_wp2_with (fail)
    go_ret
    unfold QSPost
    rw [HR.out]
    exact ⟨rfl, HX.out, HM1.out, HC1.out⟩
end
/- query's frame: Step where it walks and looks. -/

section
variable (F : Nat → Prop) (b bm : Nat) (o : Op) (b0 : Int)
variable (B : Nat) (v : Value) (C : List Int) (size count odd ref : Int) (w : World) (hm : MemP B bm v C size count odd ref w)
include hm
set_option maxRecDepth 100000 in
set_option maxHeartbeats 1000000 in
theorem stepQ3_any (left : Int) (r' : Res) (h : QueryP F b o b0 (.done left r') w) : Calls Tryz.prog 84 #[.pointer (some ⟨b, 0, none⟩), .pointer (some ⟨bm, 0, none⟩)] w (QSPost F b bm o b0 (.done left r') B v C size count odd ref w) := by
  have HH := Lib.hid h
  obtain ⟨sv, wv, av, r, lv, fb, p1, p2, p3, p4, hb, hp⟩ := h
  have c0 : w.cell? ⟨b, 0, none⟩ = some (.int .i64 3) := hb.cell 0
  have HM := Lib.hid hm
  clear hm
  clear hb hp
  go_enter Tryz.func84, Tryz.ntmps84
  go_wp2_with (fail)
  with_reducible refine (doneQ_any _ _ _ _ _ _ HH.out).mono ?_
  rintro e w3 ⟨rfl, rfl⟩
  go_wp2_with (fail)
  go_ret
  exact ⟨rfl, HH.out.mono (fun _ => .inl), HM.out, Chg.refl _ _⟩
variable (hO : Off F bm v) (hC : C.length ≤ 1000000) (hw : ∀ i, i < C.length → -9223372036854775808 ≤ keyAt C i ∧ keyAt C i ≤ 9223372036854775807)
include hO hC hw
set_option maxRecDepth 100000 in
set_option maxHeartbeats 2000000 in
theorem stepQ2_any (left : Int) (s : WS) (a : AS) (h : QueryP F b o b0 (.look left s a) w) (hI : (QP.look left s a).Inv) (hf : s.pairs.length ≤ 1000000) : Calls Tryz.prog 84 #[.pointer (some ⟨b, 0, none⟩), .pointer (some ⟨bm, 0, none⟩)] w (QSPost F b bm o b0 (.look left s a) B v C size count odd ref w) := by
  obtain ⟨sv, wv, av, r, lv, fb, p1, p2, p3, p4, hb, wb, Fw, ab, Fa, rfl, hW, hFw, rfl, hA, hFa⟩ := h
  obtain ⟨h6, hAI, hd, l1, l2⟩ := hI
  have c0 : w.cell? ⟨b, 0, none⟩ = some (.int .i64 2) := hb.cell 0
  have c7 : w.cell? ⟨b, 7, none⟩ = some (.pointer (some ⟨ab, 0, none⟩)) := hb.cell 7
  have HNS := Lib.hid (show QP.step o b0 (rdC C) (.look left s a) = if (a.step (rdC C)).done = true then QP.looked o left s (a.step (rdC C)) else .look left s (a.step (rdC C)) from rfl)
  have hbm : b ≠ bm := fun e => hO.1 (e ▸ fb)
  have HM := Lib.hid hm
  have HO := Lib.hid hO
  have HB := Lib.hid hb
  have HW := Lib.hid hW
  have HA := Lib.hid hA
  have HFw := Lib.hid hFw
  have HFa := Lib.hid hFa
  have HI := Lib.hid hAI
  have P1 := Lib.hid p1
  have P4 := Lib.hid p4
  have FB := Lib.hid fb
  have H6 := Lib.hid h6
  clear hm hO hb hW hA hFw hFa hAI p1 p4 fb h6
  go_enter Tryz.func84, Tryz.ntmps84
  go_wp2_with (fail)
  with_reducible refine (stepA_any Fa ab bm a B v C size count odd ref _ HA.out HM.out HI.out hC hw).mono ?_
  rintro e w1 ⟨rfl, hs1, hm1, hc1⟩
  have hB1 := hc1.blk HB.out (fun e => by
    rcases e with e | e
    · exact (HFa.out b e).2 rfl
    · exact hbm e)
  have HC1 : Hid (Chg (fun x => F x ∨ x = bm) w w1) := Lib.hid (hc1.mono (fun x hx => hx.imp (fun e => (HFa.out x e).1) id))
  have HW1 := Lib.hid (HW.out.within.chg hc1 (fun x hx e => by
    rcases e with e | e
    · exact (HFw.out x hx.1).2.2 e
    · exact HO.out.1 (e ▸ (HFw.out x hx.1).1)))
  have hbl := HB.out.lt
  have HM1 := Lib.hid hm1
  have HB1 := Lib.hid hB1
  have HA1 := Lib.hid hs1
  clear hs1 hm1 hc1 hB1 c0 c7 HW HA
  obtain ⟨a1, ha1⟩ : ∃ a1, a.step (rdC C) = a1 := ⟨_, rfl⟩
  rw [ha1] at HNS HA1 ⊢
  clear ha1
  cases hd1 : a1.done with
  | true =>
    have HR := Lib.hid (HNS.out.trans (if_pos hd1))
    clear hd1
    go_wp2_with (fail)
    with_reducible refine (lookedQ_any F b o b0 left wb ab _ _ s a1 2 sv r lv _ FB.out P1.out P4.out HB1.out HW1.out (fun x hx => (HFw.out x hx.1).2.1) HA1.out (fun x hx => hx.elim (fun e => (HFa.out x e).2) (fun e => by omega)) H6.out hf l1 l2).mono ?_
    rintro e w2 hp
    have HX := Lib.hid (hp.out HM1.out HC1.out HO.out FB.out)
    obtain ⟨rfl, _, _⟩ := hp
    go_wp2_with (fail)
    with_reducible refine (doneQ_any _ _ _ _ _ _ HX.out.1).mono ?_
    rintro e w3 ⟨rfl, rfl⟩
    go_wp2_with (fail)
    go_ret
    unfold QSPost
    rw [HR.out]
    exact ⟨rfl, HX.out⟩
  | false =>
    have HR := Lib.hid (HNS.out.trans (if_neg (by rw [hd1]; exact Bool.false_ne_true)))
    clear hd1
    have HX : Hid (QueryP (fun x => F x ∨ w.heap.size ≤ x) b o b0 (.look left s a1) w1) := Lib.hid ⟨sv, _, _, r, lv, .inl FB.out, P1.out, IsPtr.mk _, IsPtr.mk _, P4.out, HB1.out, wb, _, ab, _, rfl, HW1.out, fun x hx => ⟨.inl (HFw.out x hx.1).1, (HFw.out x hx.1).2.1, fun e => by
      have h2 := hx.2
      rcases e with e | e
      · exact (HFw.out x hx.1).2.2 e
      · omega⟩, rfl, HA1.out, fun x hx => hx.elim (fun e => ⟨.inl (HFa.out x e).1, (HFa.out x e).2⟩) (fun e => ⟨.inr e, by omega⟩)⟩
    go_wp2_with (fail)
    with_reducible refine (doneQ_any _ _ _ _ _ _ HX.out).mono ?_
    rintro e w3 ⟨rfl, rfl⟩
    go_wp2_with (fail)
    go_ret
    unfold QSPost
    rw [HR.out]
    exact ⟨rfl, HX.out, HM1.out, HC1.out⟩
set_option maxRecDepth 100000 in
set_option maxHeartbeats 2000000 in
theorem stepQ1_any (left : Int) (s : WS) (h : QueryP F b o b0 (.walk left s) w) (hI : (QP.walk left s).Inv) (hf : (QP.walk left s).Few (rdC C)) : Calls Tryz.prog 84 #[.pointer (some ⟨b, 0, none⟩), .pointer (some ⟨bm, 0, none⟩)] w (QSPost F b bm o b0 (.walk left s) B v C size count odd ref w) := by
  obtain ⟨sv, wv, av, r, lv, fb, p1, p2, p3, p4, hb, wb, Fw, rfl, hW, hFw⟩ := h
  obtain ⟨hI, hSp, l1, l2⟩ := hI
  obtain ⟨q1, q2, q3, q4, q5⟩ := hf
  obtain ⟨aa, rfl⟩ := p3
  have c0 : w.cell? ⟨b, 0, none⟩ = some (.int .i64 1) := hb.cell 0
  have c6 : w.cell? ⟨b, 6, none⟩ = some (.pointer (some ⟨wb, 0, none⟩)) := hb.cell 6
  have HNS := Lib.hid (show QP.step o b0 (rdC C) (.walk left s) = if (s.step (rdC C)).next = 6 then (if (AS.init (s.step (rdC C)).spots).done = true then QP.looked o left (s.step (rdC C)) (AS.init (s.step (rdC C)).spots) else .look left (s.step (rdC C)) (AS.init (s.step (rdC C)).spots)) else .walk left (s.step (rdC C)) from rfl)
  have hbm : b ≠ bm := fun e => hO.1 (e ▸ fb)
  have hOw : Off Fw bm v := ⟨fun e => hO.1 (hFw _ e).1, fun g hg e => hO.2 g hg (hFw _ e).1⟩
  have HM := Lib.hid hm
  have HO := Lib.hid hO
  have HB := Lib.hid hb
  have HW := Lib.hid hW
  have HFw := Lib.hid hFw
  have HI := Lib.hid hI
  have P1 := Lib.hid p1
  have P4 := Lib.hid p4
  have FB := Lib.hid fb
  have HOw := Lib.hid hOw
  clear hm hO hb hW hFw hI p1 p4 fb hOw
  go_enter Tryz.func84, Tryz.ntmps84
  go_wp2_with (fail)
  with_reducible refine (stepW_any Fw wb bm s B v C size count odd ref _ HW.out HM.out HOw.out HI.out hC hw q1 q3 q2).mono ?_
  rintro e w1 ⟨rfl, hs1, hm1, hc1⟩
  have hB1 := hc1.blk HB.out (fun e => by
    rcases e with e | e
    · exact (HFw.out b e).2 rfl
    · exact hbm e)
  have HC1 : Hid (Chg (fun x => F x ∨ x = bm) w w1) := Lib.hid (hc1.mono (fun x hx => hx.imp (fun e => (HFw.out x e).1) id))
  have hbl := HB.out.lt
  have hz1 := hc1.size
  have HM1 := Lib.hid hm1
  have HB1 := Lib.hid hB1
  have HW1 := Lib.hid hs1
  have HF1 : Hid (∀ x, (Fw x ∨ w.heap.size ≤ x) → (F x ∨ w.heap.size ≤ x) ∧ x ≠ b) := Lib.hid (fun x hx => hx.elim (fun e => ⟨.inl (HFw.out x e).1, (HFw.out x e).2⟩) (fun e => ⟨.inr e, by omega⟩))
  clear hs1 hm1 hc1 hB1 c0 c6 HW HFw hSp
  obtain ⟨s1, hs1⟩ : ∃ s1, s.step (rdC C) = s1 := ⟨_, rfl⟩
  rw [hs1] at HNS HW1 q4 q5 ⊢
  clear hs1
  by_cases h6 : s1.next = 6
  · have e6 : (s1.next == 6) = true := by simpa using h6
    have HNS2 := Lib.hid (HNS.out.trans (if_pos h6))
    rw [e6]
    have H6 := Lib.hid h6
    clear h6
    clear e6
    have c6 : w1.cell? ⟨b, 6, none⟩ = some (.pointer (some ⟨wb, 0, none⟩)) := HB1.out.cell 6
    go_wp2_with (fail)
    with_reducible refine (spotsW_any _ _ _ _ HW1.out H6.out q5).mono ?_
    rintro e w2 ⟨v2, rfl, hO2, hb2⟩
    obtain ⟨A2, c2, rfl⟩ := own_shape hO2
    have HP2 : Hid (PairsAt w2 w2.heap.size A2 s1.spots) := Lib.hid (Reads.of_own hO2)
    have HU2 := Lib.hid hb2
    clear hO2 hb2 c6
    go_wp2_with (fail)
    with_reducible refine (newA_any A2 c2 _ s1.spots _ rfl HP2.out q5).mono ?_
    rintro e w3 ⟨ab, rfl, hA3, hb3⟩
    have hU3 := HU2.out.trans (hb3.mono HU2.out.size)
    have hB3 := HB1.out.below hU3 HB1.out.lt
    have hW3 := HW1.out.below hU3
    have hz2 := HU2.out.size
    have c0 : w3.cell? ⟨b, 0, none⟩ = some (.int .i64 1) := hB3.cell 0
    have c7 : w3.cell? ⟨b, 7, none⟩ = some (.pointer aa) := hB3.cell 7
    have f0 := hB3.frozen 0
    have f7 := hB3.frozen 7
    have o4 : Chg (fun x => x = b) w3 ((w3.setCell ⟨b, 0, none⟩ (.int .i64 2)).setCell ⟨b, 7, none⟩ (.pointer (some ⟨ab, 0, none⟩))) := Chg.of_mv (F := fun x => x = b) ((Mv.set1 w3 b 0 _).trans_ (Mv.set1 _ b 7 _)) rfl
    have HB4 : Hid (Blk ((w3.setCell ⟨b, 0, none⟩ (.int .i64 2)).setCell ⟨b, 7, none⟩ (.pointer (some ⟨ab, 0, none⟩))) b 155 (queryC o 2 left sv (.pointer (some ⟨wb, 0, none⟩)) (.pointer (some ⟨ab, 0, none⟩)) r lv)) := Lib.hid ((hB3.set_ 0 _).set_ 7 _)
    have hWw : WalkP (fun x => (Fw x ∨ w.heap.size ≤ x) ∧ x < w1.heap.size) wb s1 w3 := HW1.out.within.below hU3
    have HW4 := Lib.hid (hWw.chg o4 (fun x hx e => (HF1.out x hx.1).2 e))
    have HA4 := Lib.hid (hA3.chg o4 (fun x hx e => by omega))
    have HM4 := Lib.hid ((HM1.out.below hU3).chg o4 (fun e => hbm e.symm) (fun g hg e => HO.out.2 g hg (e ▸ FB.out)))
    have HC4 : Hid (Chg (fun x => F x ∨ x = bm) w ((w3.setCell ⟨b, 0, none⟩ (.int .i64 2)).setCell ⟨b, 7, none⟩ (.pointer (some ⟨ab, 0, none⟩)))) := Lib.hid ((HC1.out.trans (Chg.of_below hU3)).trans (o4.mono (fun x hx => .inl (hx ▸ FB.out))))
    have d7 : ((w3.setCell ⟨b, 0, none⟩ (.int .i64 2)).setCell ⟨b, 7, none⟩ (.pointer (some ⟨ab, 0, none⟩))).cell? ⟨b, 7, none⟩ = some (.pointer (some ⟨ab, 0, none⟩)) := HB4.out.cell 7
    clear hA3 hb3 hU3 hB3 hW3 hWw o4 HM1 HC1 HP2 HU2 HB1 HW1
    go_wp2_with (fail)
    generalize (w3.setCell ⟨b, 0, none⟩ (.int .i64 2)).setCell ⟨b, 7, none⟩ (.pointer (some ⟨ab, 0, none⟩)) = w4 at HB4 HW4 HA4 HM4 HC4 d7 ⊢
    clear c0 c7 f0 f7
    obtain ⟨a1, ha1⟩ : ∃ a1, AS.init s1.spots = a1 := ⟨_, rfl⟩
    rw [ha1] at HNS2 HA4
    clear ha1
    cases hd : a1.done with
    | true =>
      have HR := Lib.hid (HNS2.out.trans (if_pos hd))
      with_reducible refine (doneA_any _ _ _ _ HA4.out).mono ?_
      rintro e w5 ⟨rfl, rfl⟩
      rw [hd]
      clear hd
      go_wp2_with (fail)
      with_reducible refine (lookedQ_any F b o b0 left wb ab _ _ s1 a1 2 sv r lv _ FB.out P1.out P4.out HB4.out HW4.out (fun x hx => (HF1.out x hx.1).2) HA4.out (fun x hx => by omega) H6.out q4 l1 l2).mono ?_
      rintro e w6 hp
      have HX := Lib.hid (hp.out HM4.out HC4.out HO.out FB.out)
      obtain ⟨rfl, _, _⟩ := hp
      go_wp2_with (fail)
      with_reducible refine (doneQ_any _ _ _ _ _ _ HX.out.1).mono ?_
      rintro e w7 ⟨rfl, rfl⟩
      go_wp2_with (fail)
      go_ret
      unfold QSPost
      rw [HR.out]
      exact ⟨rfl, HX.out⟩
    | false =>
      have HR := Lib.hid (HNS2.out.trans (if_neg (by rw [hd]; exact Bool.false_ne_true)))
      with_reducible refine (doneA_any _ _ _ _ HA4.out).mono ?_
      rintro e w5 ⟨rfl, rfl⟩
      rw [hd]
      clear hd
      have HX : Hid (QueryP (fun x => F x ∨ w.heap.size ≤ x) b o b0 (.look left s1 a1) w4) := Lib.hid ⟨sv, _, _, r, lv, .inl FB.out, P1.out, IsPtr.mk _, IsPtr.mk _, P4.out, HB4.out, wb, _, ab, _, rfl, HW4.out, fun x hx => ⟨(HF1.out x hx.1).1, (HF1.out x hx.1).2, fun e => by have := hx.2; omega⟩, rfl, HA4.out, fun x hx => ⟨.inr (by omega), by omega⟩⟩
      go_wp2_with (fail)
      with_reducible refine (doneQ_any _ _ _ _ _ _ HX.out).mono ?_
      rintro e w7 ⟨rfl, rfl⟩
      go_wp2_with (fail)
      go_ret
      unfold QSPost
      rw [HR.out]
      exact ⟨rfl, HX.out, HM4.out, HC4.out⟩
  · have e6 : (s1.next == 6) = false := by simpa using h6
    have HR := Lib.hid (HNS.out.trans (if_neg h6))
    have HX : Hid (QueryP (fun x => F x ∨ w.heap.size ≤ x) b o b0 (.walk left s1) w1) := Lib.hid ⟨sv, _, _, r, lv, .inl FB.out, P1.out, IsPtr.mk _, IsPtr.mk _, P4.out, HB1.out, wb, _, rfl, HW1.out, HF1.out⟩
    rw [e6]
    clear e6 h6
    go_wp2_with (fail)
    with_reducible refine (doneQ_any _ _ _ _ _ _ HX.out).mono ?_
    rintro e w3 ⟨rfl, rfl⟩
    go_wp2_with (fail)
    go_ret
    unfold QSPost
    rw [HR.out]
    exact ⟨rfl, HX.out, HM1.out, HC1.out⟩
theorem stepQ_any : ∀ (q : QP) (h : QueryP F b o b0 q w) (hI : q.Inv) (hf : q.Few (rdC C)), Calls Tryz.prog 84 #[.pointer (some ⟨b, 0, none⟩), .pointer (some ⟨bm, 0, none⟩)] w (QSPost F b bm o b0 q B v C size count odd ref w)
  | .seek s, h, hI, _ => stepQ0_any F b bm o b0 B v C size count odd ref w hm hO hC hw s h hI
  | .walk l s, h, hI, hf => stepQ1_any F b bm o b0 B v C size count odd ref w hm hO hC hw l s h hI hf
  | .look l s a, h, hI, hf => stepQ2_any F b bm o b0 B v C size count odd ref w hm hO hC hw l s a h hI hf
  | .done l r, h, _, _ => stepQ3_any F b bm o b0 B v C size count odd ref w hm l r h
end
/- The laws of query: results alike; a question alone; chapter 25's examples. -/

set_option maxHeartbeats 2000000 in
set_option maxRecDepth 100000 in
theorem resultsSame_any (why key val n : Int) (found : Bool) (L : List (Int × Int)) (A A2 : Option Addr) (c c2 N N2 : Nat) (w : World) (hN : N = L.length) (hN2 : N2 = L.length) (h1 : PairsAt w w.heap.size A L) (h2 : PairsAt w w.heap.size A2 L) (hl : L.length ≤ 1000000) :
    Calls Tryz.prog 42 #[.agg #[.int .i64 why, .bool found, .int .i64 key, .int .i64 val, .int .i64 n, .slice A N c], .agg #[.int .i64 why, .bool found, .int .i64 key, .int .i64 val, .int .i64 n, .slice A2 N2 c2]] w fun e w' => e = .returned (.bool true) ∧ Below w.heap.size w w' := by
  subst hN
  subst hN2
  have H1 := Lib.hid h1
  have H2 := Lib.hid h2
  have hb : Below w.heap.size w ((w.alloc (.cells #[.int .i64 why, .bool found, .int .i64 key, .int .i64 val, .int .i64 n, .slice A L.length c] 54)).alloc (.cells #[.int .i64 why, .bool found, .int .i64 key, .int .i64 val, .int .i64 n, .slice A2 L.length c2] 54)) := ((Below.refl w.heap.size w).alloc (Nat.le_refl _) _).alloc (by simp) _
  have HQ1 : Hid (PairsAt ((w.alloc (.cells #[.int .i64 why, .bool found, .int .i64 key, .int .i64 val, .int .i64 n, .slice A L.length c] 54)).alloc (.cells #[.int .i64 why, .bool found, .int .i64 key, .int .i64 val, .int .i64 n, .slice A2 L.length c2] 54)) ((w.alloc (.cells #[.int .i64 why, .bool found, .int .i64 key, .int .i64 val, .int .i64 n, .slice A L.length c] 54)).alloc (.cells #[.int .i64 why, .bool found, .int .i64 key, .int .i64 val, .int .i64 n, .slice A2 L.length c2] 54)).heap.size A L) := Lib.hid ((H1.out.below hb).more hb.size)
  have HQ2 : Hid (PairsAt ((w.alloc (.cells #[.int .i64 why, .bool found, .int .i64 key, .int .i64 val, .int .i64 n, .slice A L.length c] 54)).alloc (.cells #[.int .i64 why, .bool found, .int .i64 key, .int .i64 val, .int .i64 n, .slice A2 L.length c2] 54)) ((w.alloc (.cells #[.int .i64 why, .bool found, .int .i64 key, .int .i64 val, .int .i64 n, .slice A L.length c] 54)).alloc (.cells #[.int .i64 why, .bool found, .int .i64 key, .int .i64 val, .int .i64 n, .slice A2 L.length c2] 54)).heap.size A2 L) := Lib.hid ((H2.out.below hb).more hb.size)
  have HB := Lib.hid hb
  clear h1 h2 hb
  go_enter Tryz.func42, Tryz.ntmps42
  go_wp2_with (fail)
  generalize (w.alloc (.cells #[.int .i64 why, .bool found, .int .i64 key, .int .i64 val, .int .i64 n, .slice A L.length c] 54)).alloc (.cells #[.int .i64 why, .bool found, .int .i64 key, .int .i64 val, .int .i64 n, .slice A2 L.length c2] 54) = w2 at HQ1 HQ2 HB ⊢
  with_reducible refine (pairsSame_any A A2 c c2 _ _ _ L _ rfl rfl HQ1.out HQ2.out hl).mono ?_
  rintro e w3 ⟨rfl, hd⟩
  have HB3 := Lib.hid (HB.out.trans (drawn_bl hd _))
  clear hd HB HQ1 HQ2
  go_wp2_with (fail)
  go_ret
  exact ⟨rfl, HB3.out⟩
structure AskedQ (R : Int → Int) (o : Op) (b0 : Int) (S : Nat) (st : Nat → QP) (left : Int) (r : Res) : Prop where
  zero : st 0 = QP.init o b0
  step : ∀ t, (st t).step o b0 R = st (t + 1)
  inv : ∀ t, (st t).Inv
  fewq : ∀ t, t < S → (st t).Few R
  going : ∀ t, t < S → (st t).next ≠ 3
  done : st S = .done left r
  few : S ≤ 1000
  list : r.list.length ≤ 1000000
def RunIn (b lo lm : Nat) (M : List Int) (size : Int) (o : Op) (b0 : Int) (fb S : Nat) (st : Nat → QP) (w0 : World) (nv : Value) (wr : World) : Prop := ∃ t : Nat, t ≤ S ∧ nv = .int .i64 (t : Int) ∧ lo ≤ wr.heap.size ∧ QueryP (fun x => lo ≤ x) fb o b0 (st t) wr ∧ MemL b lm M size wr ∧ Chg (fun x => x = b) w0 wr
def RunPost (b : Nat) (M : List Int) (size : Int) (S : Nat) (r : Res) (w : World) (e : Ending) (w' : World) : Prop := ∃ A c, e = .returned (.tuple #[.agg #[.int .i64 r.why, .bool r.found, .int .i64 r.key, .int .i64 r.val, .int .i64 r.n, .slice A r.list.length c], .int .i64 (S : Int)]) ∧ w'.ownsRow w.heap.size 52 2 (.slice A r.list.length c) r.list.length (cellsP r.list) ∧ MemC b M size w' ∧ Chg (fun x => x = b) w w'
set_option maxHeartbeats 2000000 in
set_option maxRecDepth 100000 in
theorem runQ_any (b : Nat) (M : List Int) (size : Int) (o : Op) (b0 : Int) (S : Nat) (st : Nat → QP) (left : Int) (r : Res) (w : World) (hM : MemC b M size w) (hl : M.length ≤ 1000000) (hw : ∀ x ∈ M, -9223372036854775808 ≤ x ∧ x ≤ 9223372036854775807) (hst : AskedQ (rdC M) o b0 S st left r) :
    Calls Tryz.prog 41 #[.pointer (some ⟨b, 0, none⟩), .agg #[.int .i64 o.kind, .int .i64 o.key, .int .i64 o.val], .int .i64 b0] w (RunPost b M size S r w) := by
  have hS5 := hst.few
  have HM := Lib.hid hM
  have HW := Lib.hid hw
  have HST := Lib.hid hst
  clear hM hw hst
  have hz1 : (w.alloc (.cells #[.int .i64 o.kind, .int .i64 o.key, .int .i64 o.val] 48)).heap.size = w.heap.size + 1 := by simp
  have HRb : Hid (Blk ((w.alloc (.cells #[.int .i64 o.kind, .int .i64 o.key, .int .i64 o.val] 48)).alloc (.cells #[.int .i64 0, .bool false, .int .i64 0, .int .i64 0, .int .i64 0, .slice none 0 0] 54)) (w.heap.size + 1) 54 #[.int .i64 0, .bool false, .int .i64 0, .int .i64 0, .int .i64 0, .slice none 0 0]) := Lib.hid (by
    have := Blk.new (w.alloc (.cells #[.int .i64 o.kind, .int .i64 o.key, .int .i64 o.val] 48)) 54 #[.int .i64 0, .bool false, .int .i64 0, .int .i64 0, .int .i64 0, .slice none 0 0]
    rw [hz1] at this
    exact this)
  have HU2 : Hid (Below w.heap.size w ((w.alloc (.cells #[.int .i64 o.kind, .int .i64 o.key, .int .i64 o.val] 48)).alloc (.cells #[.int .i64 0, .bool false, .int .i64 0, .int .i64 0, .int .i64 0, .slice none 0 0] 54))) := Lib.hid (((Below.refl w.heap.size w).alloc (Nat.le_refl _) _).alloc (by rw [hz1]; omega) _)
  clear hz1
  go_enter Tryz.func41, Tryz.ntmps41
  go_wp2_with (fail)
  generalize (w.alloc (.cells #[.int .i64 o.kind, .int .i64 o.key, .int .i64 o.val] 48)).alloc (.cells #[.int .i64 0, .bool false, .int .i64 0, .int .i64 0, .int .i64 0, .slice none 0 0] 54) = w2 at HRb HU2 ⊢
  with_reducible refine (newQ_any o b0 _).mono ?_
  rintro e w3 ⟨fb, rfl, hq, hb3⟩
  have hbl := HM.out.lt
  have HQ3 : Hid (QueryP (fun x => w2.heap.size ≤ x) fb o b0 (st 0) w3) := Lib.hid (by rw [HST.out.zero]; exact hq)
  have HM3 := Lib.hid ((HM.out.l.below HU2.out).below hb3)
  have hz2 := HU2.out.size
  have HC3 : Hid (Chg (fun x => x = b) w2 w3) := Lib.hid (Chg.of_below hb3)
  have hz3 := hb3.size
  clear hq hb3
  go_wp2_with (fail)
  go_loopw [9] (fun nv wr => RunIn b w2.heap.size w.heap.size M size o b0 fb S st w2 nv wr) (fun nv _ => 2000 - (intOf nv).toNat)
  case atStart => unfold RunIn; exact ⟨0, by omega, rfl, hz3, HQ3.out, HM3.out, HC3.out⟩
  case round =>
    obtain ⟨t, t1, rfl, hlw, hQ, hC, hB⟩ := hrel
    clear HQ3 HM3 HC3 hz3
    have HC := Lib.hid hC
    have HQ := Lib.hid hQ
    have HB := Lib.hid hB
    clear hC hQ hB
    have ht60 : (t : Int) < 100000 := by omega
    by_cases hlt : t < S
    · have e3 : ((st t).next == 3) = false := by simpa using HST.out.going t hlt
      have HI := Lib.hid (HST.out.inv t)
      have HFw := Lib.hid (HST.out.fewq t hlt)
      go_wp2_with (fail)
      with_reducible refine (doneQ_any _ _ _ _ _ _ HQ.out).mono ?_
      rintro e w4 ⟨rfl, rfl⟩
      rw [e3]
      clear e3
      obtain ⟨v, count, odd, hm, hb, hv⟩ := HC.out
      have HMm := Lib.hid hm
      have hO : Off (fun x => w2.heap.size ≤ x) b v := ⟨by omega, fun g hg => by have := hv g hg; omega⟩
      have HO := Lib.hid hO
      have HV := Lib.hid hv
      clear hm hv hO
      go_wp2_with (fail)
      with_reducible refine (stepQ_any _ fb b o b0 b v M size count odd 0 _ HMm.out HO.out hl (bd_of HW.out) (st t) HQ.out HI.out HFw.out).mono ?_
      rintro e w5 ⟨rfl, hq5, hm5, hc5⟩
      rw [HST.out.step t] at hq5
      have HQ5 : Hid (QueryP (fun x => w2.heap.size ≤ x) fb o b0 (st (t + 1)) w5) := Lib.hid (hq5.mono (fun x hx => hx.elim id (fun h => by omega)))
      have HM5 : Hid (MemL b w.heap.size M size w5) := Lib.hid ⟨v, _, _, hm5, hb, HV.out⟩
      have HC5 := Lib.hid (HB.out.grow (hc5.mono (fun x hx => hx.symm)) (fun x hx => hx))
      have hz5 : w2.heap.size ≤ w5.heap.size := Nat.le_trans hlw hc5.size
      clear hq5 hm5 hc5 HQ HC HB HMm hlw hb
      go_wp2_with (fail)
      go_roundw
      case rel => unfold RunIn; exact ⟨t + 1, by omega, by go_num, hz5, HQ5.out, HM5.out, HC5.out⟩
      case measure => simp [intOf]; omega
    · have et : t = S := by omega
      subst et
      have hd := HST.out.done
      have HQd : Hid (QueryP (fun x => w2.heap.size ≤ x) fb o b0 (.done left r) wr) := Lib.hid (hd ▸ HQ.out)
      clear hd HQ
      go_wp2_with (fail)
      with_reducible refine (doneQ_any _ _ _ _ _ _ HQd.out).mono ?_
      rintro e w4 ⟨rfl, rfl⟩
      rw [show ((QP.done left r).next == 3) = true from rfl]
      go_wp2_with (fail)
      with_reducible refine (resultQ_any _ fb o b0 left r _ HQd.out HST.out.list).mono ?_
      rintro e w5 ⟨lv, rfl, hO, hb5⟩
      obtain ⟨A5, c5, rfl⟩ := own_shape hO
      have hR5 := (HB.out.blk HRb.out (fun e => by omega)).below hb5 (HB.out.blk HRb.out (fun e => by omega)).lt
      have x0 : w5.cell? ⟨w.heap.size + 1, 0, none⟩ = some (.int .i64 0) := hR5.cell 0
      have x1 : w5.cell? ⟨w.heap.size + 1, 1, none⟩ = some (.bool false) := hR5.cell 1
      have x2 : w5.cell? ⟨w.heap.size + 1, 2, none⟩ = some (.int .i64 0) := hR5.cell 2
      have x3 : w5.cell? ⟨w.heap.size + 1, 3, none⟩ = some (.int .i64 0) := hR5.cell 3
      have x4 : w5.cell? ⟨w.heap.size + 1, 4, none⟩ = some (.int .i64 0) := hR5.cell 4
      have x5 : w5.cell? ⟨w.heap.size + 1, 5, none⟩ = some (.slice none 0 0) := hR5.cell 5
      have f0 := hR5.frozen 0
      have f1 := hR5.frozen 1
      have f2 := hR5.frozen 2
      have f3 := hR5.frozen 3
      have f4 := hR5.frozen 4
      have f5 := hR5.frozen 5
      have HO5 := Lib.hid hO
      have HM5 := Lib.hid (HC.out.below hb5)
      have HC5 := Lib.hid (((Chg.of_below (F := fun x => x = b) HU2.out).trans HB.out).trans (Chg.of_below hb5))
      have HR5 := Lib.hid hR5
      have HS5 : Hid (w.heap.size + 2 ≤ w2.heap.size) := Lib.hid HRb.out.lt
      clear hO hb5 hR5 HQd HB HC HRb HU2
      unfold resV
      go_wp2_with (fail)
      refine bodyPost_ret (v := .tuple #[.agg #[.int .i64 r.why, .bool r.found, .int .i64 r.key, .int .i64 r.val, .int .i64 r.n, .slice A5 r.list.length c5], .int .i64 (t : Int)]) (by simp [results, Tryz.results41, go_sem, x0, x1, x2, x3, x4, x5]) rfl ?_
      have hc : Chg (fun x => x = w.heap.size + 1) w5 _ := Chg.of_mv (F := fun x => x = w.heap.size + 1) ((((((Mv.set1 w5 (w.heap.size + 1) 0 (.int .i64 r.why)).trans_ (Mv.set1 _ (w.heap.size + 1) 1 (.bool r.found))).trans_ (Mv.set1 _ (w.heap.size + 1) 2 (.int .i64 r.key))).trans_ (Mv.set1 _ (w.heap.size + 1) 3 (.int .i64 r.val))).trans_ (Mv.set1 _ (w.heap.size + 1) 4 (.int .i64 r.n))).trans_ (Mv.set1 _ (w.heap.size + 1) 5 (.slice A5 r.list.length c5))) rfl
      have h5 := HS5.out
      obtain ⟨v, cc, oo, hm, hb, hv⟩ := HM5.out
      exact ⟨A5, c5, rfl, own_mono (hc.own HO5.out (fun g hg e => by have := (HO5.out.lt g hg).1; omega)) (by omega), ⟨v, cc, oo, hm.chg hc (by omega) (fun g hg e => by have := hv g hg; omega)⟩, HC5.out.grow hc (fun x hx => .inr (by omega))⟩
end Go.Proofs.YtblajeildolloaaGreat

/- The document's procedures as trees of accesses. No program's text. -/
namespace Go.Proofs.YtblajeildolloaaGreat
set_option linter.unusedVariables false
set_option linter.unusedSimpArgs false
open Go.RowKit

/-- An access: 1 Read of a, 2 Write x to a, 3 Cas of a from x to y, 4 Add x to a, 5 Make of ws; tag: 1, if it is the Dcss by which write lays. -/
structure Ask where
  kind : Int
  a : Int
  x : Int
  y : Int
  ws : List Int
  tag : Int
/-- A procedure: its end; an access, and how it goes on; whether the tape has come to its end; cut off (what follows is never reached). -/
inductive Prog (α : Type) where
  | ret (a : α)
  | ask (q : Ask) (k : Int → Prog α)
  | chk (k : Bool → Prog α)
  | stuck (p : Prog α)
def Prog.bind {α β : Type} : Prog α → (α → Prog β) → Prog β
  | .ret a, f => f a
  | .ask q k, f => .ask q fun v => (k v).bind f
  | .chk k, f => .chk fun o => (k o).bind f
  | .stuck p, f => .stuck (p.bind f)
def readP (a : Int) : Prog Int := .ask ⟨1, a, 0, 0, [], 0⟩ .ret
def writeP (a x : Int) : Prog Unit := .ask ⟨2, a, x, 0, [], 0⟩ fun _ => .ret ()
def casP (a old x : Int) : Prog Bool := .ask ⟨3, a, old, x, [], 0⟩ fun v => .ret (v == 1)
def addP (a d : Int) : Prog Int := .ask ⟨4, a, d, 0, [], 0⟩ .ret
def makeP (ws : List Int) (tag : Int) : Prog Int := .ask ⟨5, 0, 0, 0, ws, tag⟩ .ret
def peekP (slot : Int) : Prog Int := (readP slot).bind fun w => if wKind w = 5 then (readP (wAt w + 4)).bind fun o => if o = 1 then readP (wAt w + 3) else readP (wAt w + 2) else .ret w
def helpP (at_ : Int) : Prog Unit :=
  (readP at_).bind fun p => (readP p).bind fun g => (casP (at_ + 4) 0 (if g = 0 then 1 else 2)).bind fun _ =>
  (readP (at_ + 4)).bind fun o => (readP (at_ + 1)).bind fun s => (if o = 1 then readP (at_ + 3) else readP (at_ + 2)).bind fun v =>
  (casP s (wOf 5 at_) v).bind fun _ => .ret ()
def slotGo (slot : Int) : Nat → Int → Prog Int
  | 0, w => .stuck (.ret w)
  | n + 1, w => .chk fun off => if off = false ∧ wKind w = 5 then (helpP (wAt w)).bind fun _ => (readP slot).bind (slotGo slot n) else .ret w
def slotP (fuel : Nat) (slot : Int) : Prog Int := (readP slot).bind (slotGo slot fuel)
def dcssW (guard place old x : Int) : List Int := [guard, place, old, x, 0]
def rebuildW (target gate slot : Int) : List Int := [target, gate, slot, 0, 0]
/-- 0 not, 1 done, 2 shut, 3 room. -/
def dcssP (tag guard place old x : Int) : Prog Int :=
  (makeP (dcssW guard place old x) tag).bind fun a => if a ≤ 0 then .ret 3 else
  (casP place old (wOf 5 a)).bind fun b => if b = false then .ret 0 else
  (readP guard).bind fun g => (casP (wrap64 (a + 4)) 0 (if g = 0 then 1 else 2)).bind fun _ =>
  (readP (wrap64 (a + 4))).bind fun o => if o = 1 then (casP place (wOf 5 a) x).bind fun _ => .ret 1 else (casP place (wOf 5 a) old).bind fun _ => .ret 2
def downGo (n k d : Int) : Nat → Int → Prog (Int × Int)
  | 0, _ => .ret (d, 1)
  | f + 1, i => .chk fun off => if 1 < i ∧ off = false then (readP (keyAtI n i)).bind fun q => if q ≤ k then .ret (d, i) else downGo n k d f (i - 1) else .ret (d, 1)
def upGo (n k d m : Int) : Nat → Int → Prog (Int × Int)
  | 0, _ => .ret (d, m - 1)
  | f + 1, i => .chk fun off => if i < m ∧ off = false then (readP (keyAtI n i)).bind fun q => if k < q then .ret (d, i - 1) else upGo n k d m f (i + 1) else .ret (d, m - 1)
def guessP (n k d m first last : Int) : Prog (Int × Int) :=
  .chk fun off => if off = true ∨ guessI first last k m < 1 then .ret (d, 0) else
  if 1 < guessI first last k m then (readP (keyAtI n (guessI first last k m))).bind fun q => if k < q then downGo n k d (guessI first last k m).toNat (guessI first last k m - 1) else upGo n k d m (m - guessI first last k m).toNat (guessI first last k m + 1)
  else upGo n k d m (m - guessI first last k m).toNat (guessI first last k m + 1)
/-- The degree and the child. -/
def routeP (n k : Int) : Prog (Int × Int) :=
  (readP n).bind fun d => if wrap64 (d - 1) < 1 then .ret (d, 0) else
  (readP (keyAtI n 1)).bind fun first => if k < first then .ret (d, 0) else if wrap64 (d - 1) = 1 then .ret (d, 1) else
  (readP (keyAtI n (wrap64 (d - 1)))).bind fun last => if last ≤ k then .ret (d, wrap64 (d - 1)) else guessP n k d (wrap64 (d - 1)) first last
def childP (n k : Int) : Prog Int := (routeP n k).bind fun r => .ret (childAtI n r.1 r.2)
def seekP (k : Int) : Nat → Int → Prog (Int × Bool)
  | 0, _ => .stuck (.ret (0, false))
  | f + 1, n => .chk fun off => if off = true then .ret (0, false) else
    (childP n k).bind fun s => (peekP s).bind fun w =>
    if wKind w = 2 then (readP (wAt w)).bind fun q => if q = k then (readP (wAt w + 1)).bind fun v => .ret (v, true) else .ret (0, false)
    else if wKind w = 3 then seekP k f (wAt w)
    else if wKind w = 4 then (readP (wAt w)).bind fun t => seekP k f (wAt t)
    else .ret (0, false)
structure WQ where
  lo : Int
  hi : Int
  back : Bool
  most : Int
  values : Bool
/-- What a walk found and noted. -/
structure WAcc where
  pairs : List (Int × Int)
  spots : List (Int × Int)
instance : Inhabited WAcc := ⟨⟨[], []⟩⟩
def meetsP (x : WQ) (a : Int) (st : WAcc) : Prog (WAcc × Bool) :=
  (readP a).bind fun q => if q < x.lo ∨ x.hi < q then .ret (st, false) else
  (if x.values = true then readP (a + 1) else .ret 0).bind fun v =>
  .ret (⟨st.pairs ++ [(q, v)], st.spots⟩, decide (0 < x.most ∧ x.most ≤ ((st.pairs ++ [(q, v)]).length : Int)))
def walkGo (x : WQ) (thr : Int → WAcc → Prog (WAcc × Bool)) : Nat → Int → Int → Int → WAcc → Prog (WAcc × Bool)
  | 0, _, _, _, st => .stuck (.ret (st, true))
  | f + 1, n, d, i, st => .chk fun off => if off = true then .ret (st, true) else
    (peekP (childAtI n d i)).bind fun w => .chk fun off2 => if off2 = true then .ret (st, true) else
    (if wKind w = 2 then meetsP x (wAt w) ⟨st.pairs, st.spots ++ [(childAtI n d i, w)]⟩
     else if wKind w = 3 then thr (wAt w) ⟨st.pairs, st.spots ++ [(childAtI n d i, w)]⟩
     else if wKind w = 4 then (readP (wAt w)).bind fun t => thr (wAt t) ⟨st.pairs, st.spots ++ [(childAtI n d i, w)]⟩
     else .ret (⟨st.pairs, st.spots ++ [(childAtI n d i, w)]⟩, false)).bind fun r =>
    if r.2 = true then .ret (r.1, true) else
    if x.back = true then (if i = 0 then .ret (r.1, false) else (readP (keyAtI n i)).bind fun q => if q ≤ x.lo then .ret (r.1, false) else walkGo x thr f n d (wrap64 (i - 1)) r.1)
    else if wrap64 (i + 1) = d then .ret (r.1, false) else (readP (keyAtI n (wrap64 (i + 1)))).bind fun q => if x.hi < q then .ret (r.1, false) else walkGo x thr f n d (wrap64 (i + 1)) r.1
def throughP (x : WQ) : Nat → Int → WAcc → Prog (WAcc × Bool)
  | 0, _, st => .stuck (.ret (st, true))
  | f + 1, n, st => (routeP n (if x.back = true then x.hi else x.lo)).bind fun r => walkGo x (throughP x f) (f + 1) n r.1 r.2 st
def againP : List (Int × Int) → Prog Bool
  | [] => .ret true
  | p :: l => .chk fun off => if off = true then .ret true else (peekP p.1).bind fun w => if w = p.2 then againP l else .ret false
def markGo (sf : Nat) (mk : Int → Prog Int) : Nat → Int → Int → Int → Int → Prog Int
  | 0, _, _, _, all => .stuck (.ret all)
  | f + 1, n, d, i, all => .chk fun off => if i < d ∧ off = false then
      (slotP sf (childAtI n d i)).bind fun w =>
      (if wKind w = 2 then .ret (wrap64 (all + 1))
       else if wKind w = 3 then (mk (wAt w)).bind fun m => .ret (wrap64 (all + m))
       else if wKind w = 4 then (readP (wAt w)).bind fun t => (mk (wAt t)).bind fun m => .ret (wrap64 (all + m))
       else .ret all).bind fun all' => markGo sf mk f n d (i + 1) all'
    else .ret all
def markP : Nat → Int → Prog Int
  | 0, _ => .stuck (.ret 0)
  | f + 1, n => (readP (n + 4)).bind fun s => if s = 0 then
      (writeP (n + 2) 1).bind fun _ => (readP n).bind fun d => (markGo (f + 1) (markP f) (f + 1) n d 0 0).bind fun all => (writeP (n + 4) (wrap64 (all + 1))).bind fun _ => .ret all
    else .ret (wrap64 (s - 1))
def gatherGo (gt : Int → Int → Int → List (Int × Int) → Prog (List (Int × Int))) : Nat → Int → Int → Int → Int → Int → Int → List (Int × Int) → Prog (List (Int × Int))
  | 0, _, _, _, _, _, _, out => .stuck (.ret out)
  | f + 1, n, d, from_, to, i, rank, out => .chk fun off => if (i < d ∧ rank < to) ∧ off = false then
      (peekP (childAtI n d i)).bind fun w =>
      if wKind w = 2 then
        (if from_ ≤ rank then (readP (wAt w)).bind fun k => (readP (wAt w + 1)).bind fun v => .ret (out ++ [(k, v)]) else .ret out).bind fun out' => gatherGo gt f n d from_ to (i + 1) (wrap64 (rank + 1)) out'
      else if wKind w = 3 ∨ wKind w = 4 then
        (if wKind w = 4 then (readP (wAt w)).bind fun t => .ret (wAt t) else .ret (wAt w)).bind fun a =>
        (readP (a + 4)).bind fun s =>
        (if from_ < wrap64 (rank + wrap64 (s - 1)) then gt a (wrap64 (from_ - rank)) (wrap64 (to - rank)) out else .ret out).bind fun out' => gatherGo gt f n d from_ to (i + 1) (wrap64 (rank + wrap64 (s - 1))) out'
      else gatherGo gt f n d from_ to (i + 1) rank out
    else .ret out
def gatherP : Nat → Int → Int → Int → List (Int × Int) → Prog (List (Int × Int))
  | 0, _, _, _, out => .stuck (.ret out)
  | f + 1, n, from_, to, out => (readP n).bind fun d => gatherGo (gatherP f) (f + 1) n d from_ to 0 0 out
def subL (l : List (Int × Int)) (at_ n : Int) : List (Int × Int) := (l.drop at_.toNat).take n.toNat
/-- The words of an Inner; none, if the children are not one more than the keys. -/
def innerWs (n : Int) (q c : List Int) : List Int := if c.length = q.length + 1 then innerW n q c else []
def growGo (gr : List (Int × Int) → Prog (Int × Bool)) (l : List (Int × Int)) : Nat → Int → List Int → List Int → Prog (Int × Bool)
  | 0, _, q, c => (makeP (innerWs l.length q c) 0).bind fun a => .ret (wOf 3 a, decide (0 < a))
  | m + 1, i, q, c => (gr (subL l (fromI l.length i) (sizeI l.length i))).bind fun r => if r.2 = false then .ret (0, false) else
    growGo gr l m (i + 1) (if 0 < i then q ++ [pkey l (fromI l.length i).toNat] else q) (c ++ [r.1])
def growP : Nat → List (Int × Int) → Prog (Int × Bool)
  | 0, _ => .stuck (.ret (0, false))
  | f + 1, l => if l.length = 0 then (makeP [0] 0).bind fun a => .ret (wOf 1 a, decide (0 < a))
    else if l.length = 1 then (makeP [pkey l 0, pval l 0] 0).bind fun a => .ret (wOf 2 a, decide (0 < a))
    else growGo (growP f) l (degreeI l.length).toNat 0 [] []
def growT (l : List (Int × Int)) : Prog (Int × Bool) := growP (l.length + 1) l
def topP (f : Nat) (t n : Int) : Prog (Int × Bool) :=
  if 2 ≤ n then (makeP (innerWs n (List.replicate (maxI (degreeI n) 1 - 1).toNat 0) (List.replicate (maxI (degreeI n) 1).toNat 0)) 0).bind fun a => .ret (wOf 3 a, decide (0 < a))
  else (if n = 1 then gatherP f t 0 1 [] else .ret []).bind fun p => .chk fun off => if off = true then .ret (0, false) else growT p
def partP (f : Nat) (t n x d i : Int) : Prog Bool :=
  (gatherP f t (fromI n i) (fromI n i + sizeI n i) []).bind fun p => .chk fun off => if off = true then .ret true else
  (growT p).bind fun r => if r.2 = false then .ret false else
  (if 0 < i ∧ p ≠ [] then writeP (keyAtI x i) (pkey p 0) else .ret ()).bind fun _ => (casP (childAtI x d i) 0 r.1).bind fun _ => .ret true
def claimGo (at_ t n x d : Int) : Nat → Prog Bool
  | 0 => .stuck (.ret true)
  | f + 1 => .chk fun off => if off = true then .ret true else (addP (wrap64 (at_ + 4)) 1).bind fun i => if d ≤ i then .ret true else
    .chk fun off2 => if off2 = true then .ret true else (partP f t n x d i).bind fun ok => if ok = false then .ret false else claimGo at_ t n x d f
def restGo (f : Nat) (t n x d : Int) : Nat → Int → Prog Bool
  | 0, _ => .ret true
  | m + 1, j => .chk fun off => if off = true then .ret true else (readP (childAtI x d j)).bind fun c => .chk fun off2 =>
    if c ≠ 0 ∨ off2 = true then restGo f t n x d m (j + 1) else (partP f t n x d j).bind fun ok => if ok = false then .ret false else restGo f t n x d m (j + 1)
def partsP (f : Nat) (at_ t n x : Int) : Prog Bool :=
  (claimGo at_ t n x (degreeI n) f).bind fun ok => if ok = false then .ret false else restGo f t n x (degreeI n) (degreeI n).toNat 0
def renewP (f : Nat) (at_ : Int) : Prog Bool :=
  (readP at_).bind fun t0 => (markP f (wAt t0)).bind fun n => (readP (wrap64 (at_ + 3))).bind fun w => .chk fun off => if off = true then .ret true else
  (if w = 0 then (topP f (wAt t0) n).bind fun r => if r.2 = false then .ret (0, false) else (casP (wrap64 (at_ + 3)) 0 r.1).bind fun _ => (readP (wrap64 (at_ + 3))).bind fun w' => .ret (w', true)
   else .ret (w, true)).bind fun r => if r.2 = false then .ret false else
  (if 2 ≤ n then partsP f at_ (wAt t0) n (wAt r.1) else .ret true).bind fun ok => if ok = false then .ret false else
  (readP (wrap64 (at_ + 1))).bind fun g => (readP (wrap64 (at_ + 2))).bind fun s => (dcssP 0 g s (wOf 4 at_) r.1).bind fun o => .ret (o != 3)
structure Entry where
  node : Int
  slot : Int
  word : Int
def startP (f : Nat) (e : Entry) : Prog Bool :=
  (makeP (rebuildW e.word (wrap64 (e.node + 2)) e.slot) 0).bind fun a => if a ≤ 0 then .ret false else
  (dcssP 0 (wrap64 (e.node + 2)) e.slot e.word (wOf 4 a)).bind fun o => if o = 1 then renewP f a else if o = 3 then .ret false else .ret true
def tallyGo (f : Nat) : List Entry → Option Entry → Prog Unit
  | [], first => .chk fun off => if off = true then .ret () else (match first with
    | some e => (startP f e).bind fun _ => .ret ()
    | none => .ret ())
  | e :: l, first => .chk fun off => if off = true then .ret () else
    (addP (wAt e.word + 3) 1).bind fun c => (readP (wAt e.word + 1)).bind fun s => tallyGo f l (if first.isNone = true ∧ limitI s ≤ wrap64 (c + 1) then some e else first)
def freshP (o : Op) (w q : Int) (leaf there : Bool) : Prog (Int × Bool) :=
  if o.kind = 3 then (makeP [0] 0).bind fun a => .ret (wOf 1 a, decide (0 < a)) else
  (makeP [o.key, o.val] 0).bind fun a => if ¬ 0 < a ∨ leaf = false ∨ there = true then .ret (wOf 2 a, decide (0 < a)) else
  (makeP (innerWs 2 [if q < o.key then o.key else q] (if o.key < q then [wOf 2 a, w] else [w, wOf 2 a])) 0).bind fun b => .ret (wOf 3 b, decide (0 < b))
instance : Inhabited Res := ⟨Res.none⟩
def layP (f : Nat) (o : Op) (n s w : Int) (path : List Entry) : Prog (Res × Bool) :=
  (if wKind w = 2 then (readP (wAt w)).bind fun q => if q = o.key then (readP (wAt w + 1)).bind fun v => .ret (q, Res.mk 0 true q v 0 []) else .ret (q, Res.none) else .ret (0, Res.none)).bind fun r =>
  .chk fun off => if off = true ∨ (o.kind = 1 ∧ r.2.found = true) ∨ (o.kind = 3 ∧ r.2.found = false) then .ret (r.2, true) else
  (freshP o w r.1 (decide (wKind w = 2)) r.2.found).bind fun x => if x.2 = false then .ret (Res.err 8, true) else
  (dcssP 1 (wrap64 (n + 2)) s w x.1).bind fun d => if d = 3 then .ret (Res.err 8, true) else
  (if d = 1 ∧ (o.kind ≠ 2 ∨ r.2.found = false) then tallyGo f path none else .ret ()).bind fun _ => .ret (r.2, decide (d = 1))
def attemptGo (f : Nat) (o : Op) : Nat → Int → List Entry → Prog (Res × Bool)
  | 0, _, _ => .stuck (.ret (Res.none, true))
  | m + 1, n, path => .chk fun off => if off = true then .ret (Res.none, true) else
    (childP n o.key).bind fun s => (slotP m s).bind fun w =>
    if wKind w = 4 then (renewP f (wAt w)).bind fun ok => if ok = false then .ret (Res.err 8, true) else .ret (Res.none, false)
    else if wKind w = 3 then attemptGo f o m (wAt w) (path ++ [⟨n, s, w⟩])
    else layP f o n s w path
def changeP (o : Op) : Nat → Prog Res
  | 0 => .stuck (.ret Res.none)
  | f + 1 => .chk fun off => if off = true then .ret Res.none else (attemptGo f o f 1 []).bind fun r => if r.2 = true then .ret r.1 else changeP o f
def askedW (o : Op) : WQ :=
  if o.kind = 5 then ⟨leastI, o.key, true, 1, true⟩
  else if o.kind = 6 then ⟨o.key, mostI, false, 1, true⟩
  else if o.kind = 8 then ⟨leastI, mostI, true, 1, true⟩
  else if o.kind = 9 ∨ o.kind = 10 then ⟨o.key, o.val, false, 0, decide (o.kind = 9)⟩
  else ⟨leastI, mostI, false, 1, true⟩
def roundsGo (f : Nat) (o : Op) : Nat → Prog Res
  | 0 => .ret (Res.err 9)
  | b + 1 => .chk fun off => if off = true then .ret (Res.err 9) else
    (throughP (askedW o) f 1 ⟨[], []⟩).bind fun r => .chk fun off2 => if off2 = true then .ret (Res.err 9) else
    (againP r.1.spots).bind fun same => if same = true then .ret (o.answer r.1.pairs) else roundsGo f o b
def queryP (f : Nat) (o : Op) (budget : Int) : Prog Res :=
  if o.kind = 4 then (seekP o.key f 1).bind fun r => if r.2 = true then .ret ⟨0, true, o.key, r.1, 0, []⟩ else .ret Res.none
  else roundsGo f o budget.toNat
end Go.Proofs.YtblajeildolloaaGreat

/- What a tape makes of a procedure. No program's text. -/
namespace Go.Proofs.YtblajeildolloaaGreat
set_option linter.unusedVariables false
set_option linter.unusedSimpArgs false
open Go.RowKit

structure RunS where
  tape : List Int
  at_ : Nat
  off : Bool
  next : Ask
def askS (q : Ask) (s : RunS) : Int × RunS :=
  if s.off = true then (0, s) else if s.at_ < s.tape.length then (keyAt s.tape s.at_, { s with at_ := s.at_ + 1 }) else (0, { s with off := true, next := q })
/-- As the text goes on, also behind the tape's end, with noughts. -/
def Prog.go {α : Type} : Prog α → RunS → α × RunS
  | .ret a, s => (a, s)
  | .ask q k, s => (k (askS q s).1).go (askS q s).2
  | .chk k, s => (k s.off).go s
  | .stuck p, s => p.go s
section
variable {α β : Type}
theorem go_ret (a : α) (s : RunS) : (Prog.ret a).go s = (a, s) := rfl
theorem go_ask (q : Ask) (k : Int → Prog α) (s : RunS) : (Prog.ask q k).go s = (k (askS q s).1).go (askS q s).2 := rfl
theorem go_chk (k : Bool → Prog α) (s : RunS) : (Prog.chk k).go s = (k s.off).go s := rfl
theorem go_stuck (p : Prog α) (s : RunS) : (Prog.stuck p).go s = p.go s := rfl
theorem go_bind : ∀ (p : Prog α) (f : α → Prog β) (s : RunS), (p.bind f).go s = (f (p.go s).1).go (p.go s).2
  | .ret a, f, s => rfl
  | .ask q k, f, s => go_bind (k (askS q s).1) f (askS q s).2
  | .chk k, f, s => go_bind (k s.off) f s
  | .stuck p, f, s => go_bind p f s
def RunS.left (s : RunS) : Nat := if s.off = true then 0 else s.tape.length - s.at_ + 1
theorem askS_tape (q : Ask) (s : RunS) : (askS q s).2.tape = s.tape := by
  unfold askS
  by_cases h : s.off = true
  · rw [if_pos h]
  · rw [if_neg h]
    by_cases h2 : s.at_ < s.tape.length
    · rw [if_pos h2]
    · rw [if_neg h2]
theorem askS_off {q : Ask} {s : RunS} (h : s.off = true) : askS q s = (0, s) := if_pos h
/-- What a tape makes of it: how it goes on behind the tape. -/
def Prog.rest {α : Type} : Prog α → List Int → Prog α
  | .ret a, _ => .ret a
  | .ask q k, [] => .ask q k
  | .ask _ k, v :: t => (k v).rest t
  | .chk k, t => (k false).rest t
  | .stuck p, t => .stuck (p.rest t)
theorem go_off_fix (q : Ask) (s : RunS) (h : s.off = true) : (askS q s).2 = s := by rw [askS_off h]
theorem go_off : ∀ (p : Prog α) (s : RunS), s.off = true → (p.go s).2 = s
  | .ret a, s, h => rfl
  | .ask q k, s, h => by rw [go_ask, askS_off h]; exact go_off _ s h
  | .chk k, s, h => go_off (k s.off) s h
  | .stuck p, s, h => go_off p s h
/-- Done, or the access ahead of which it stands. -/
def Prog.next {α : Type} : Prog α → Option Ask
  | .ret _ => none
  | .ask q _ => some q
  | .chk k => (k false).next
  | .stuck p => p.next
def Prog.val {α : Type} [Inhabited α] : Prog α → α
  | .ret a => a
  | .ask _ _ => default
  | .chk k => (k false).val
  | .stuck p => p.val
/-- The end of a run over a whole tape. -/
theorem go_rest [Inhabited α] : ∀ (p : Prog α) (s : RunS), s.off = false → s.at_ ≤ s.tape.length →
    match (p.rest (s.tape.drop s.at_)).next with
    | none => (p.go s).1 = (p.rest (s.tape.drop s.at_)).val ∧ (p.go s).2.off = false
    | some q => (p.go s).2.off = true ∧ (p.go s).2.next = q
  | .ret a, s, h, _ => ⟨rfl, h⟩
  | .chk k, s, h, hl => by
    have := go_rest (k false) s h hl
    rw [go_chk, h]
    exact this
  | .stuck p, s, h, hl => go_rest p s h hl
  | .ask q k, s, h, hl => by
    by_cases hlt : s.at_ < s.tape.length
    · have e : askS q s = (keyAt s.tape s.at_, { s with at_ := s.at_ + 1 }) := by unfold askS; rw [if_neg (by rw [h]; decide), if_pos hlt]
      have ed : s.tape.drop s.at_ = keyAt s.tape s.at_ :: s.tape.drop (s.at_ + 1) := by
        rw [List.drop_eq_getElem_cons hlt]
        unfold keyAt
        rw [List.getD_eq_getElem?_getD, List.getElem?_eq_getElem hlt]; rfl
      have := go_rest (k (keyAt s.tape s.at_)) { s with at_ := s.at_ + 1 } h hlt
      rw [go_ask, e, ed]
      exact this
    · have e : askS q s = (0, { s with off := true, next := q }) := by unfold askS; rw [if_neg (by rw [h]; decide), if_neg hlt]
      have ed : s.tape.drop s.at_ = [] := by rw [List.drop_eq_nil_iff]; omega
      rw [go_ask, e, ed]
      have hf := go_off (k 0) { s with off := true, next := q } rfl
      show ((k 0).go { s with off := true, next := q }).2.off = true ∧ ((k 0).go { s with off := true, next := q }).2.next = q
      rw [hf]
      exact ⟨rfl, rfl⟩
end
end Go.Proofs.YtblajeildolloaaGreat

/- The document's procedures: what they ask and tell lies within int64. No program's text. -/
namespace Go.Proofs.YtblajeildolloaaGreat
set_option linter.unusedVariables false
set_option linter.unusedSimpArgs false
open Go.RowKit

def i64B (x : Int) : Prop := -9223372036854775808 ≤ x ∧ x ≤ 9223372036854775807
theorem i64B.lo {x : Int} (h : i64B x) : -9223372036854775808 ≤ x := h.1
theorem i64B.hi {x : Int} (h : i64B x) : x ≤ 9223372036854775807 := h.2
structure Ask.Ok (q : Ask) : Prop where
  k0 : 1 ≤ q.kind
  k1 : q.kind ≤ 5
  a : i64B q.a
  x : i64B q.x
  y : i64B q.y
  ws : ∀ v ∈ q.ws, i64B v
  len : q.ws.length ≤ 1000000
def Prog.Ok {α : Type} (P : α → Prop) : Prog α → Prop
  | .ret a => P a
  | .ask q k => q.Ok ∧ ∀ v, i64B v → (k v).Ok P
  | .chk k => ∀ b, (k b).Ok P
  | .stuck p => p.Ok P
structure RunS.Bd (s : RunS) : Prop where
  vals : ∀ x ∈ s.tape, i64B x
  len : s.tape.length ≤ 1000000000
  at_ : s.at_ ≤ s.tape.length
theorem wrap_bd (x : Int) : i64B (wrap64 x) := by unfold wrap64 i64B; omega
theorem i64B_zero : i64B 0 := by unfold i64B; omega
theorem i64B.of {x : Int} (h0 : -9223372036854775808 ≤ x) (h1 : x ≤ 9223372036854775807) : i64B x := ⟨h0, h1⟩
theorem wAt_i64 (w : Int) {d : Int} (h0 : 0 ≤ d) (h1 : d ≤ 100) : i64B (wAt w + d) := by have := wAt_bd w; unfold i64B; omega
theorem wAt_i64' (w : Int) : i64B (wAt w) := by have := wAt_bd w; unfold i64B; omega
theorem wOf_i64 (k a : Int) : i64B (wOf k a) := by have := wOf_bd k a; unfold i64B; omega
theorem keyAt_i64 (n i : Int) : i64B (keyAtI n i) := by
  unfold keyAtI i64B
  split
  · rename_i h; have h1 := nearB_yes h.1; have h2 := nearB_yes h.2; omega
  · omega
theorem childAt_i64 (n d i : Int) : i64B (childAtI n d i) := by have := childAtI_bd (n := n) (d := d) (i := i); unfold i64B; omega
theorem askS_bd {s : RunS} (h : s.Bd) (q : Ask) : i64B (askS q s).1 ∧ (askS q s).2.Bd := by
  unfold askS
  by_cases h1 : s.off = true
  · rw [if_pos h1]; exact ⟨i64B_zero, h⟩
  · rw [if_neg h1]
    by_cases h2 : s.at_ < s.tape.length
    · rw [if_pos h2]
      exact ⟨h.vals _ (by unfold keyAt; rw [List.getD_eq_getElem?_getD, List.getElem?_eq_getElem h2]; exact List.getElem_mem _), h.vals, h.len, h2⟩
    · rw [if_neg h2]
      exact ⟨i64B_zero, h.vals, h.len, h.at_⟩
section
variable {α β : Type} {P P' : α → Prop} {Q : β → Prop}
theorem ok_mono (h : ∀ a, P a → P' a) : ∀ {p : Prog α}, p.Ok P → p.Ok P'
  | .ret a, hp => h a hp
  | .ask q k, hp => ⟨hp.1, fun v hv => ok_mono h (hp.2 v hv)⟩
  | .chk k, hp => fun b => ok_mono h (hp b)
  | .stuck p, hp => ok_mono h (p := p) hp
theorem ok_bind : ∀ {p : Prog α} {f : α → Prog β}, p.Ok P → (∀ a, P a → (f a).Ok Q) → (p.bind f).Ok Q
  | .ret a, f, hp, hf => hf a hp
  | .ask q k, f, hp, hf => ⟨hp.1, fun v hv => ok_bind (hp.2 v hv) hf⟩
  | .chk k, f, hp, hf => fun b => ok_bind (hp b) hf
  | .stuck p, f, hp, hf => ok_bind (p := p) hp hf
theorem ok_ite {c : Prop} [Decidable c] {p q : Prog α} (h1 : c → p.Ok P) (h2 : ¬c → q.Ok P) : (if c then p else q).Ok P := by
  split
  · exact h1 (by assumption)
  · exact h2 (by assumption)
theorem go_ok : ∀ (p : Prog α) (s : RunS), p.Ok P → s.Bd → P (p.go s).1 ∧ (p.go s).2.Bd
  | .ret a, s, hp, hs => ⟨hp, hs⟩
  | .ask q k, s, hp, hs => go_ok (k (askS q s).1) (askS q s).2 (hp.2 _ (askS_bd hs q).1) (askS_bd hs q).2
  | .chk k, s, hp, hs => go_ok (k s.off) s (hp s.off) hs
  | .stuck p, s, hp, hs => go_ok p s hp hs
theorem go_at : ∀ (p : Prog α) (s : RunS), s.at_ ≤ (p.go s).2.at_
  | .ret a, s => Nat.le_refl _
  | .ask q k, s => by
    rw [go_ask]
    refine Nat.le_trans ?_ (go_at _ _)
    unfold askS
    by_cases h1 : s.off = true
    · rw [if_pos h1]; exact Nat.le_refl _
    · rw [if_neg h1]
      by_cases h2 : s.at_ < s.tape.length
      · rw [if_pos h2]; exact Nat.le_succ _
      · rw [if_neg h2]; exact Nat.le_refl _
  | .chk k, s => go_at (k s.off) s
  | .stuck p, s => go_at p s
theorem go_tape : ∀ (p : Prog α) (s : RunS), (p.go s).2.tape = s.tape
  | .ret a, s => rfl
  | .ask q k, s => by rw [go_ask, go_tape, askS_tape]
  | .chk k, s => go_tape (k s.off) s
  | .stuck p, s => go_tape p s
theorem go_ex (p : Prog α) (s : RunS) : ∃ v s', p.go s = (v, s') := ⟨_, _, rfl⟩
theorem go_okE {p : Prog α} {s s' : RunS} {v : α} (hg : p.go s = (v, s')) (hp : p.Ok P) (hs : s.Bd) : P v ∧ s'.Bd := by
  have := go_ok p s hp hs; rw [hg] at this; exact this
end
theorem askOk {k a x y t : Int} {ws : List Int} (k0 : 1 ≤ k) (k1 : k ≤ 5) (ha : i64B a) (hx : i64B x) (hy : i64B y) (h : ∀ v ∈ ws, i64B v) (hl : ws.length ≤ 1000000) : Ask.Ok ⟨k, a, x, y, ws, t⟩ := ⟨k0, k1, ha, hx, hy, h, hl⟩
theorem nilOk : ∀ v ∈ ([] : List Int), i64B v := fun v hv => by cases hv
theorem readP_ok {a : Int} (h : i64B a) : (readP a).Ok i64B := ⟨askOk (by decide) (by decide) h i64B_zero i64B_zero nilOk (by decide), fun v hv => hv⟩
theorem writeP_ok {a x : Int} (h : i64B a) (hx : i64B x) : (writeP a x).Ok (fun _ => True) := ⟨askOk (by decide) (by decide) h hx i64B_zero nilOk (by decide), fun v hv => trivial⟩
theorem casP_ok {a x y : Int} (h : i64B a) (hx : i64B x) (hy : i64B y) : (casP a x y).Ok (fun _ => True) := ⟨askOk (by decide) (by decide) h hx hy nilOk (by decide), fun v hv => trivial⟩
theorem addP_ok {a x : Int} (h : i64B a) (hx : i64B x) : (addP a x).Ok i64B := ⟨askOk (by decide) (by decide) h hx i64B_zero nilOk (by decide), fun v hv => hv⟩
theorem makeP_ok {ws : List Int} {t : Int} (h : ∀ v ∈ ws, i64B v) (hl : ws.length ≤ 1000000) : (makeP ws t).Ok i64B := ⟨askOk (by decide) (by decide) i64B_zero i64B_zero i64B_zero h hl, fun v hv => hv⟩
theorem peekP_ok {slot : Int} (h : i64B slot) : (peekP slot).Ok i64B :=
  ok_bind (readP_ok h) fun w hw => ok_ite (fun _ => ok_bind (readP_ok (wAt_i64 w (by decide) (by decide))) fun o _ => ok_ite (fun _ => readP_ok (wAt_i64 w (by decide) (by decide))) fun _ => readP_ok (wAt_i64 w (by decide) (by decide))) fun _ => hw
theorem helpP_ok {a : Int} (h0 : 0 ≤ a) (h1 : a ≤ 65536) : (helpP a).Ok (fun _ => True) := by
  have b : ∀ d, 0 ≤ d → d ≤ 100 → i64B (a + d) := fun d _ _ => by unfold i64B; omega
  refine ok_bind (readP_ok (by have := b 0 (by decide) (by decide); simpa using this)) fun p hp => ok_bind (readP_ok hp) fun g _ => ok_bind (casP_ok (b 4 (by decide) (by decide)) i64B_zero (by split <;> unfold i64B <;> omega)) fun _ _ => ?_
  refine ok_bind (readP_ok (b 4 (by decide) (by decide))) fun o _ => ok_bind (readP_ok (b 1 (by decide) (by decide))) fun s hs => ok_bind (P := i64B) (ok_ite (fun _ => readP_ok (b 3 (by decide) (by decide))) fun _ => readP_ok (b 2 (by decide) (by decide))) fun v hv => ?_
  exact ok_bind (casP_ok hs (wOf_i64 _ _) hv) fun _ _ => trivial
theorem slotGo_ok {slot : Int} (h : i64B slot) : ∀ (f : Nat) {w : Int}, i64B w → (slotGo slot f w).Ok i64B
  | 0, w, hw => hw
  | f + 1, w, hw => fun b => ok_ite (fun _ => ok_bind (helpP_ok (wAt_bd w).1 (wAt_bd w).2) fun _ _ => ok_bind (readP_ok h) fun w' hw' => slotGo_ok h f hw') fun _ => hw
theorem slotP_ok {slot : Int} (h : i64B slot) (f : Nat) : (slotP f slot).Ok i64B := ok_bind (readP_ok h) fun _ hw => slotGo_ok h f hw
theorem cond_i64 {c : Prop} [Decidable c] {a b : Int} (h1 : i64B a) (h2 : i64B b) : i64B (if c then a else b) := by split <;> assumption
theorem one_i64 : i64B 1 := by unfold i64B; omega
theorem two_i64 : i64B 2 := by unfold i64B; omega
theorem dcssP_ok {tag guard place old x : Int} (hg : i64B guard) (hp : i64B place) (ho : i64B old) (hx : i64B x) : (dcssP tag guard place old x).Ok (fun r => 0 ≤ r ∧ r ≤ 3) := by
  refine ok_bind (P := i64B) (makeP_ok (fun v hv => ?_) (by simp [dcssW])) fun a ha => ok_ite (fun _ => by show (0 : Int) ≤ 3 ∧ (3 : Int) ≤ 3; omega) fun hn => ?_
  · simp [dcssW] at hv; rcases hv with rfl | rfl | rfl | rfl | rfl <;> first | assumption | exact i64B_zero
  · refine ok_bind (casP_ok hp ho (wOf_i64 _ _)) fun b _ => ok_ite (fun _ => by show (0 : Int) ≤ 0 ∧ (0 : Int) ≤ 3; omega) fun _ => ok_bind (readP_ok hg) fun g _ => ?_
    refine ok_bind (casP_ok (wrap_bd _) i64B_zero (cond_i64 one_i64 two_i64)) fun _ _ => ok_bind (readP_ok (wrap_bd _)) fun o _ => ok_ite (fun _ => ?_) fun _ => ?_
    · exact ok_bind (casP_ok hp (wOf_i64 _ _) hx) fun _ _ => by show (0 : Int) ≤ 1 ∧ (1 : Int) ≤ 3; omega
    · exact ok_bind (casP_ok hp (wOf_i64 _ _) ho) fun _ _ => by show (0 : Int) ≤ 2 ∧ (2 : Int) ≤ 3; omega
def two64 (r : Int × Int) : Prop := i64B r.1 ∧ i64B r.2
theorem downGo_ok {n k d : Int} (hd : i64B d) : ∀ (f : Nat) {i : Int}, i64B i → (downGo n k d f i).Ok two64
  | 0, i, hi => ⟨hd, one_i64⟩
  | f + 1, i, hi => fun b => ok_ite (fun h => ok_bind (readP_ok (keyAt_i64 n i)) fun q _ => ok_ite (fun _ => ⟨hd, hi⟩) fun _ => downGo_ok hd f ⟨by have := h.1; omega, by have := hi.hi; omega⟩) fun _ => ⟨hd, one_i64⟩
theorem upGo_ok {n k d m : Int} (hd : i64B d) (hm : i64B m) (m1 : 1 ≤ m) : ∀ (f : Nat) {i : Int}, 1 ≤ i → i64B i → (upGo n k d m f i).Ok two64
  | 0, i, _, hi => ⟨hd, ⟨by show _ ≤ m - 1; omega, by show m - 1 ≤ _; have := hm.hi; omega⟩⟩
  | f + 1, i, i1, hi => fun b => ok_ite (fun h => ok_bind (readP_ok (keyAt_i64 n i)) fun q _ => ok_ite (fun _ => ⟨hd, ⟨by show _ ≤ i - 1; omega, by show i - 1 ≤ _; have := hi.hi; omega⟩⟩) fun _ => upGo_ok hd hm m1 f (by omega) ⟨by omega, by have := h.1; have := hm.hi; omega⟩) fun _ => ⟨hd, ⟨by show _ ≤ m - 1; omega, by show m - 1 ≤ _; have := hm.hi; omega⟩⟩
theorem routeP_ok {n k : Int} (hn : i64B n) : (routeP n k).Ok two64 := by
  refine ok_bind (readP_ok hn) fun d hd => ok_ite (fun _ => ⟨hd, i64B_zero⟩) fun h1 => ok_bind (readP_ok (keyAt_i64 _ _)) fun first _ => ok_ite (fun _ => ⟨hd, i64B_zero⟩) fun _ => ok_ite (fun _ => ⟨hd, one_i64⟩) fun h2 => ?_
  refine ok_bind (readP_ok (keyAt_i64 _ _)) fun last _ => ok_ite (fun _ => ⟨hd, wrap_bd _⟩) fun h3 b => ok_ite (fun _ => ⟨hd, i64B_zero⟩) fun h4 => ?_
  have hm := wrap_bd (d - 1)
  have hm2 := hm.hi
  generalize wrap64 (d - 1) = m at *
  have hj := guessI_le first last k m (by omega)
  generalize guessI first last k m = j at *
  have h5 : ¬ j < 1 := fun h => h4 (.inr h)
  have up : (upGo n k d m (m - j).toNat (j + 1)).Ok two64 := upGo_ok hd hm (by omega) _ (by omega) ⟨by omega, by
    by_cases hj1 : 1 < j
    · have := hj.2 hj1; omega
    · omega⟩
  exact ok_ite (fun h6 => ok_bind (readP_ok (keyAt_i64 _ _)) fun q _ => ok_ite (fun _ => downGo_ok hd _ ⟨by omega, by have := hj.2 h6; omega⟩) fun _ => up) fun _ => up
theorem childP_ok {n k : Int} (hn : i64B n) : (childP n k).Ok i64B := ok_bind (routeP_ok hn) fun r _ => childAt_i64 _ _ _
theorem seekP_ok {k : Int} : ∀ (f : Nat) {n : Int}, i64B n → (seekP k f n).Ok (fun r => i64B r.1)
  | 0, n, hn => i64B_zero
  | f + 1, n, hn => fun b => ok_ite (fun _ => i64B_zero) fun _ => ok_bind (childP_ok hn) fun s hs => ok_bind (peekP_ok hs) fun w _ =>
    ok_ite (fun _ => ok_bind (readP_ok (wAt_i64' w)) fun q _ => ok_ite (fun _ => ok_bind (readP_ok (wAt_i64 w (by decide) (by decide))) fun v hv => hv) fun _ => i64B_zero) fun _ =>
    ok_ite (fun _ => seekP_ok f (wAt_i64' w)) fun _ => ok_ite (fun _ => ok_bind (readP_ok (wAt_i64' w)) fun t _ => seekP_ok f (wAt_i64' t)) fun _ => i64B_zero
end Go.Proofs.YtblajeildolloaaGreat

/- The document's Run: ask, read, write, cas, add, make. -/
namespace Go.Proofs.YtblajeildolloaaGreat
set_option linter.unusedVariables false
set_option linter.unusedSimpArgs false
open Go.RowKit

structure RunQ (F : Nat → Prop) (rb : Nat) (s : RunS) (tv wv : Value) (rec laid : Int) (w : World) : Prop where
  fb : F rb
  blk : Blk w rb 145 #[tv, .int .i64 s.at_, .bool s.off, .int .i64 s.next.kind, .int .i64 s.next.a, .int .i64 s.next.x, .int .i64 s.next.y, wv, .int .i64 rec, .int .i64 laid]
  tape : w.ownsRow 0 2 1 tv s.tape.length (s.tape.map (Value.int .i64))
  ws : w.ownsRow 0 2 1 wv s.next.ws.length (s.next.ws.map (Value.int .i64))
  ft : ∀ g, tv.ownBlock = some g → F g
  fw : ∀ g, wv.ownBlock = some g → F g
def RunP (F : Nat → Prop) (rb : Nat) (s : RunS) (w : World) : Prop := ∃ tv wv rec laid, RunQ F rb s tv wv rec laid w
/-- The run stands at s; since w0 nothing but its block has been turned. -/
def RAt (F : Nat → Prop) (rb : Nat) (w0 : World) (s : RunS) (w : World) : Prop := RunP (fun x => F x ∨ w0.heap.size ≤ x) rb s w ∧ Chg (fun x => x = rb) w0 w
section
variable {F G : Nat → Prop} {rb : Nat} {s s' : RunS} {tv wv : Value} {rec laid : Int} {w0 w w' : World}
theorem RunQ.mono (h : RunQ F rb s tv wv rec laid w) (hs : ∀ x, F x → G x) : RunQ G rb s tv wv rec laid w := ⟨hs _ h.fb, h.blk, h.tape, h.ws, fun g hg => hs _ (h.ft g hg), fun g hg => hs _ (h.fw g hg)⟩
theorem RunP.mono (h : RunP F rb s w) (hs : ∀ x, F x → G x) : RunP G rb s w := by
  obtain ⟨tv, wv, rec, laid, h⟩ := h; exact ⟨tv, wv, rec, laid, h.mono hs⟩
theorem RunQ.chg (h : RunQ F rb s tv wv rec laid w) (m : Chg G w w') (hd : ∀ x, F x → G x → False) : RunQ F rb s tv wv rec laid w' :=
  ⟨h.fb, m.blk h.blk (fun e => hd _ h.fb e), m.own h.tape (fun g hg e => hd _ (h.ft g hg) e), m.own h.ws (fun g hg e => hd _ (h.fw g hg) e), h.ft, h.fw⟩
theorem RunP.chg (h : RunP F rb s w) (m : Chg G w w') (hd : ∀ x, F x → G x → False) : RunP F rb s w' := by
  obtain ⟨tv, wv, rec, laid, h⟩ := h; exact ⟨tv, wv, rec, laid, h.chg m hd⟩
theorem RunP.below (h : RunP F rb s w) (hb : Below w.heap.size w w') : RunP F rb s w' := h.chg (G := fun _ => False) (Chg.of_below hb) (fun _ _ hg => hg)
theorem RunP.lt (h : RunP F rb s w) : rb < w.heap.size := by obtain ⟨tv, wv, rec, laid, h⟩ := h; exact h.blk.lt
theorem RAt.refl (h : RunP F rb s w) : RAt F rb w s w := ⟨h.mono (fun _ => .inl), Chg.refl _ _⟩
theorem RAt.below (h : RAt F rb w0 s w) (hb : Below w.heap.size w w') : RAt F rb w0 s w' := ⟨h.1.below hb, h.2.trans (Chg.of_below hb)⟩
theorem RAt.lt (h : RAt F rb w0 s w) : rb < w.heap.size := h.1.lt
theorem RAt.drew (h : RAt F rb w0 s w) : RAt F rb w0 s w.drew := h.below (drawn_bl (Drawn.of w 1) _)
theorem RAt.off (h : RAt F rb w0 s w) : w.cell? ⟨rb, 2, none⟩ = some (.bool s.off) := by
  obtain ⟨tv, wv, rec, laid, h⟩ := h.1; exact h.blk.cell 2
end
section
variable (F : Nat → Prop) (rb : Nat) (w0 : World)
set_option maxRecDepth 100000 in
set_option maxHeartbeats 2000000 in
theorem askR_any (s : RunS) (q : Ask) (qv : Value) (w : World) (h : RAt F rb w0 s w) (hs : s.Bd) (hq : w.ownsRow 0 2 1 qv q.ws.length (q.ws.map (Value.int .i64))) (hn : ∀ g, qv.ownBlock = some g → w0.heap.size ≤ g) :
    Calls Tryz.prog 259 #[.pointer (some ⟨rb, 0, none⟩), .agg #[.int .i64 q.kind, .int .i64 q.a, .int .i64 q.x, .int .i64 q.y, qv]] w fun e w' => e = .returned (.int .i64 (askS q s).1) ∧ RAt F rb w0 (askS q s).2 w' := by
  obtain ⟨qA, qc, rfl⟩ := own_shape hq
  have hb1 := (Below.refl w.heap.size w).alloc (Nat.le_refl _) (.cells #[.int .i64 q.kind, .int .i64 q.a, .int .i64 q.x, .int .i64 q.y, (.slice qA q.ws.length qc)] 143)
  have hQ1 := Blk.new w 143 #[.int .i64 q.kind, .int .i64 q.a, .int .i64 q.x, .int .i64 q.y, (.slice qA q.ws.length qc)]
  have hP1 := h.below hb1
  have hq1 := own_below hq hb1
  have hqlt := own_lt hq
  have hblt := h.lt
  have HQ := Lib.hid hQ1
  have HO := Lib.hid hq1
  have HN := Lib.hid hn
  clear hQ1 hq1 hn
  clear hb1 hq h
  by_cases h1 : s.off = true
  · have HA := Lib.hid (askS_off (q := q) h1)
    have c2 := hP1.off
    rw [h1] at c2
    have HP := Lib.hid hP1
    clear hP1
    clear h1
    go_enter Tryz.func259, Tryz.ntmps259
    go_wp2_with (fail)
    go_ret
    rw [HA.out]
    exact ⟨rfl, HP.out⟩
  · have h1' : s.off = false := by simpa using h1
    have hl := hs.len
    have ha := hs.at_
    have HS : Hid (RAt F rb w0 s _) := Lib.hid hP1
    clear hP1
    by_cases h2 : s.at_ < s.tape.length
    · have HA := Lib.hid (show askS q s = (keyAt s.tape s.at_, { s with at_ := s.at_ + 1 }) by unfold askS; rw [if_neg h1, if_pos h2])
      have c2 := HS.out.off
      rw [h1'] at c2
      have c0 : ∃ A c, (w.alloc (.cells #[.int .i64 q.kind, .int .i64 q.a, .int .i64 q.x, .int .i64 q.y, (.slice qA q.ws.length qc)] 143)).cell? ⟨rb, 0, none⟩ = some (.slice A s.tape.length c) := by
        obtain ⟨⟨tv, wv, rec, laid, hp⟩, _⟩ := HS.out
        obtain ⟨A, c, rfl⟩ := own_shape hp.tape
        exact ⟨A, c, hp.blk.cell 0⟩
      have c1 : (w.alloc (.cells #[.int .i64 q.kind, .int .i64 q.a, .int .i64 q.x, .int .i64 q.y, (.slice qA q.ws.length qc)] 143)).cell? ⟨rb, 1, none⟩ = some (.int .i64 s.at_) := by
        obtain ⟨⟨tv, wv, rec, laid, hp⟩, _⟩ := HS.out
        exact hp.blk.cell 1
      obtain ⟨A, c, c0⟩ := c0
      have h2i : (s.at_ : Int) < s.tape.length := by omega
      clear h1
      go_enter Tryz.func259, Tryz.ntmps259
      go_wp2_with (fail)
      generalize w.alloc (.cells #[.int .i64 q.kind, .int .i64 q.a, .int .i64 q.x, .int .i64 q.y, (.slice qA q.ws.length qc)] 143) = w1 at HS HQ HO c0 c1 c2 ⊢
      go_quiet (fail)
      have HSd : Hid (RAt F rb w0 s (w1.drewN nq)) := Lib.hid (HS.out.below (drawn_bl (Drawn.of _ _) _))
      generalize w1.drewN nq = w2 at HSd ⊢
      clear c0 c1 c2 HS HQ HO
      obtain ⟨⟨tv, wv, rec, laid, hp⟩, hc⟩ := HSd.out
      have c1 : w2.cell? ⟨rb, 1, none⟩ = some (.int .i64 s.at_) := hp.blk.cell 1
      have f1 := hp.blk.frozen 1
      have hc2 := Chg.of_mv (F := fun x => x = rb) (Mv.set1 w2 rb 1 (.int .i64 ((s.at_ : Int) + 1))) rfl
      have ht2 := hc2.own hp.tape (own_blk_not hp.tape hp.blk (by decide))
      have HW : Hid (RAt F rb w0 { s with at_ := s.at_ + 1 } (w2.setCell ⟨rb, 1, none⟩ (.int .i64 ((s.at_ : Int) + 1)))) := Lib.hid ⟨⟨tv, wv, rec, laid, hp.fb, hp.blk.set_ 1 _, ht2, hc2.own hp.ws (own_blk_not hp.ws hp.blk (by decide)), hp.ft, hp.fw⟩, hc.trans hc2⟩
      obtain ⟨A, c, rfl⟩ := own_shape hp.tape
      have d0 : (w2.setCell ⟨rb, 1, none⟩ (.int .i64 ((s.at_ : Int) + 1))).cell? ⟨rb, 0, none⟩ = some (.slice A s.tape.length c) := (hp.blk.set_ 1 _).cell 0
      have d1 : (w2.setCell ⟨rb, 1, none⟩ (.int .i64 ((s.at_ : Int) + 1))).cell? ⟨rb, 1, none⟩ = some (.int .i64 ((s.at_ : Int) + 1)) := (hp.blk.set_ 1 _).cell 1
      obtain ⟨ad, rfl, _, hce⟩ := (IntsAt.of_own ht2).2.cells (by omega)
      have hx := hce s.at_ h2
      clear hp hc HSd hc2 ht2 hce
      go_wp2_with (fail)
      generalize w2.setCell ⟨rb, 1, none⟩ (.int .i64 ((s.at_ : Int) + 1)) = w3 at HW d0 d1 hx ⊢
      clear c1 f1
      have e1 : (s.at_ : Int) + 1 - 1 = s.at_ := by omega
      have e2 : IntKind.i64.wrap ((s.at_ : Int) + 1 - 1) = s.at_ := by rw [e1]; exact IntWalk.i64_in _ (by omega)
      have e3 : (0 : Int) ≤ s.at_ := by omega
      have e4 : ((s.at_ : Int)).toNat = s.at_ := by omega
      go_quiet (fail)
      go_wp2_with (fail)
      go_ret
      rw [HA.out]
      exact ⟨rfl, HW.out.below (drawn_bl (Drawn.of _ _) _)⟩
    · have HA := Lib.hid (show askS q s = (0, { s with off := true, next := q }) by unfold askS; rw [if_neg h1, if_neg h2])
      have c2 := HS.out.off
      rw [h1'] at c2
      have c0 : ∃ A c, (w.alloc (.cells #[.int .i64 q.kind, .int .i64 q.a, .int .i64 q.x, .int .i64 q.y, (.slice qA q.ws.length qc)] 143)).cell? ⟨rb, 0, none⟩ = some (.slice A s.tape.length c) := by
        obtain ⟨⟨tv, wv, rec, laid, hp⟩, _⟩ := HS.out
        obtain ⟨A, c, rfl⟩ := own_shape hp.tape
        exact ⟨A, c, hp.blk.cell 0⟩
      have c1 : (w.alloc (.cells #[.int .i64 q.kind, .int .i64 q.a, .int .i64 q.x, .int .i64 q.y, (.slice qA q.ws.length qc)] 143)).cell? ⟨rb, 1, none⟩ = some (.int .i64 s.at_) := by
        obtain ⟨⟨tv, wv, rec, laid, hp⟩, _⟩ := HS.out
        exact hp.blk.cell 1
      obtain ⟨A, c, c0⟩ := c0
      have h2i : ¬ (s.at_ : Int) < s.tape.length := by omega
      clear h1
      go_enter Tryz.func259, Tryz.ntmps259
      go_wp2_with (fail)
      generalize w.alloc (.cells #[.int .i64 q.kind, .int .i64 q.a, .int .i64 q.x, .int .i64 q.y, (.slice qA q.ws.length qc)] 143) = w1 at HS HQ HO c0 c1 c2 ⊢
      generalize w.heap.size = qb at HQ hqlt ⊢
      go_quiet (fail)
      have HSd : Hid (RAt F rb w0 s (w1.drewN nq)) := Lib.hid (HS.out.below (drawn_bl (Drawn.of _ _) _))
      have HQd := Lib.hid (HQ.out.below (drawn_bl (Drawn.of w1 nq) _) HQ.out.lt)
      have HOd := Lib.hid (own_below HO.out (drawn_bl (Drawn.of w1 nq) _))
      generalize w1.drewN nq = w2 at HSd HQd HOd ⊢
      clear c0 c1 c2 HS HQ HO
      obtain ⟨⟨tv, wv, rec, laid, hp⟩, hc⟩ := HSd.out
      obtain ⟨wA, wc, rfl⟩ := own_shape hp.ws
      have hne : rb ≠ qb := hp.blk.ne_ HQd.out (by decide)
      have c2 : w2.cell? ⟨rb, 2, none⟩ = some (.bool s.off) := hp.blk.cell 2
      have f2 := hp.blk.frozen 2
      have hp3 := hp.blk.set_ 2 (.bool true)
      have hQ3 := HQd.out.far (p := ⟨rb, 2, none⟩) (fun e => hne (by simpa using e.symm)) (.bool true)
      have d3 : (w2.setCell ⟨rb, 2, none⟩ (.bool true)).cell? ⟨rb, 3, none⟩ = some (.int .i64 s.next.kind) := hp3.cell 3
      have g3 := hp3.frozen 3
      have d4 : (w2.setCell ⟨rb, 2, none⟩ (.bool true)).cell? ⟨rb, 4, none⟩ = some (.int .i64 s.next.a) := hp3.cell 4
      have g4 := hp3.frozen 4
      have d5 : (w2.setCell ⟨rb, 2, none⟩ (.bool true)).cell? ⟨rb, 5, none⟩ = some (.int .i64 s.next.x) := hp3.cell 5
      have g5 := hp3.frozen 5
      have d6 : (w2.setCell ⟨rb, 2, none⟩ (.bool true)).cell? ⟨rb, 6, none⟩ = some (.int .i64 s.next.y) := hp3.cell 6
      have g6 := hp3.frozen 6
      have d7 : (w2.setCell ⟨rb, 2, none⟩ (.bool true)).cell? ⟨rb, 7, none⟩ = some (.slice wA s.next.ws.length wc) := hp3.cell 7
      have g7 := hp3.frozen 7
      have q0 : (w2.setCell ⟨rb, 2, none⟩ (.bool true)).cell? ⟨qb, 0, none⟩ = some (.int .i64 q.kind) := hQ3.cell 0
      have q1 : (w2.setCell ⟨rb, 2, none⟩ (.bool true)).cell? ⟨qb, 1, none⟩ = some (.int .i64 q.a) := hQ3.cell 1
      have q2 : (w2.setCell ⟨rb, 2, none⟩ (.bool true)).cell? ⟨qb, 2, none⟩ = some (.int .i64 q.x) := hQ3.cell 2
      have q3 : (w2.setCell ⟨rb, 2, none⟩ (.bool true)).cell? ⟨qb, 3, none⟩ = some (.int .i64 q.y) := hQ3.cell 3
      have q4 : (w2.setCell ⟨rb, 2, none⟩ (.bool true)).cell? ⟨qb, 4, none⟩ = some ((.slice qA q.ws.length qc)) := hQ3.cell 4
      have hc2 : Chg (fun x => x = rb) w2 ((((((w2.setCell ⟨rb, 2, none⟩ (.bool true)).setCell ⟨rb, 3, none⟩ (.int .i64 q.kind)).setCell ⟨rb, 4, none⟩ (.int .i64 q.a)).setCell ⟨rb, 5, none⟩ (.int .i64 q.x)).setCell ⟨rb, 6, none⟩ (.int .i64 q.y)).setCell ⟨rb, 7, none⟩ (.slice qA q.ws.length qc)) := Chg.of_mv ((((((Mv.set1 w2 rb 2 (.bool true)).trans_ (Mv.set1 _ rb 3 (.int .i64 q.kind))).trans_ (Mv.set1 _ rb 4 (.int .i64 q.a))).trans_ (Mv.set1 _ rb 5 (.int .i64 q.x))).trans_ (Mv.set1 _ rb 6 (.int .i64 q.y))).trans_ (Mv.set1 _ rb 7 (.slice qA q.ws.length qc))) rfl
      have HW : Hid (RAt F rb w0 { s with off := true, next := q } ((((((w2.setCell ⟨rb, 2, none⟩ (.bool true)).setCell ⟨rb, 3, none⟩ (.int .i64 q.kind)).setCell ⟨rb, 4, none⟩ (.int .i64 q.a)).setCell ⟨rb, 5, none⟩ (.int .i64 q.x)).setCell ⟨rb, 6, none⟩ (.int .i64 q.y)).setCell ⟨rb, 7, none⟩ (.slice qA q.ws.length qc))) := Lib.hid ⟨⟨tv, (.slice qA q.ws.length qc), rec, laid, hp.fb, (((((hp3.set_ 3 (.int .i64 q.kind)).set_ 4 (.int .i64 q.a)).set_ 5 (.int .i64 q.x)).set_ 6 (.int .i64 q.y)).set_ 7 (.slice qA q.ws.length qc)), hc2.own hp.tape (own_blk_not hp.tape hp.blk (by decide)), hc2.own HOd.out (own_blk_not HOd.out hp.blk (by decide)), hp.ft, fun g hg => .inr (HN.out g hg)⟩, hc.trans hc2⟩
      clear hp hc HSd hp3 hQ3 hc2 HQd HOd
      go_wp2_with (fail)
      go_ret
      rw [HA.out]
      exact ⟨rfl, HW.out⟩
end
end Go.Proofs.YtblajeildolloaaGreat

/- ordinateref1: Right, Kind, At, Of. -/
namespace Go.Proofs.YtblajeildolloaaGreat
set_option linter.unusedVariables false
set_option linter.unusedSimpArgs false
open Go.RowKit

theorem wB_no {x : Int} (h : ¬ (8 < x ∧ 1 ≤ x % 8 ∧ x % 8 ≤ 5 ∧ x / 8 ≤ 65536)) : wB x = false := by
  cases hb : wB x with
  | false => rfl
  | true => have := wB_yes hb; omega
theorem wB_mk {x : Int} (h1 : 8 < x) (h2 : 1 ≤ x % 8) (h3 : x % 8 ≤ 5) (h4 : x / 8 ≤ 65536) : wB x = true := by
  unfold wB
  rw [Bool.and_eq_true]
  exact ⟨decide_eq_true (by omega), mayB_mk h2 h3 (by omega) h4⟩
set_option maxHeartbeats 400000 in
theorem refRight_any (x : Int) (w : World) (x0 : -9223372036854775808 ≤ x) (x1 : x ≤ 9223372036854775807) : Calls Tryz.prog 188 #[.int .i64 x] w fun e w' => e = .returned (.bool (wB x)) ∧ w = w' := by
  by_cases h1 : 8 < x
  · have hm : 0 ≤ x % 8 ∧ x % 8 ≤ 7 := by omega
    have hd : 0 ≤ x / 8 := by omega
    have hx : 0 ≤ x := by omega
    have em : x.tmod 8 = x % 8 := by rw [Int.tmod_eq_emod_of_nonneg hx]
    have ed : x.tdiv 8 = x / 8 := by rw [Int.tdiv_eq_ediv_of_nonneg hx]
    by_cases h2 : 1 ≤ x % 8
    · by_cases h3 : x % 8 ≤ 5
      · by_cases h4 : x / 8 ≤ 65536
        · have HB := Lib.hid (wB_mk h1 h2 h3 h4)
          go_enter Tryz.func188, Tryz.ntmps188
          go_wp2_with (fail)
          go_ret
          rw [HB.out]
          exact ⟨rfl, rfl⟩
        · have HB := Lib.hid (wB_no (x := x) (by omega))
          go_enter Tryz.func188, Tryz.ntmps188
          go_wp2_with (fail)
          go_ret
          rw [HB.out]
          exact ⟨rfl, rfl⟩
      · have HB := Lib.hid (wB_no (x := x) (by omega))
        go_enter Tryz.func188, Tryz.ntmps188
        go_wp2_with (fail)
        go_ret
        rw [HB.out]
        exact ⟨rfl, rfl⟩
    · have HB := Lib.hid (wB_no (x := x) (by omega))
      go_enter Tryz.func188, Tryz.ntmps188
      go_wp2_with (fail)
      go_ret
      rw [HB.out]
      exact ⟨rfl, rfl⟩
  · have HB := Lib.hid (wB_no (x := x) (by omega))
    go_enter Tryz.func188, Tryz.ntmps188
    go_wp2_with (fail)
    go_ret
    rw [HB.out]
    exact ⟨rfl, rfl⟩
set_option maxHeartbeats 400000 in
theorem refKind_any (x : Int) (w : World) (x0 : -9223372036854775808 ≤ x) (x1 : x ≤ 9223372036854775807) : Calls Tryz.prog 141 #[.int .i64 x] w fun e w' => e = .returned (.int .i64 (wKind x)) ∧ w = w' := by
  cases hb : wB x with
  | true =>
    have h := wB_yes hb
    have HK := Lib.hid (show wKind x = x % 8 by unfold wKind; rw [hb]; rfl)
    have em : x.tmod 8 = x % 8 := by rw [Int.tmod_eq_emod_of_nonneg (by omega)]
    have h8 : 0 ≤ x := by omega
    have HB := Lib.hid hb
    clear hb
    clear h
    go_enter Tryz.func141, Tryz.ntmps141
    go_wp2_with (fail)
    with_reducible refine (refRight_any x _ x0 x1).mono ?_
    rintro e w1 ⟨rfl, rfl⟩
    rw [HB.out]
    go_wp2_with (fail)
    go_ret
    rw [HK.out]
    exact ⟨rfl, rfl⟩
  | false =>
    have HK := Lib.hid (show wKind x = 0 by unfold wKind; rw [hb]; rfl)
    have HB := Lib.hid hb
    clear hb
    go_enter Tryz.func141, Tryz.ntmps141
    go_wp2_with (fail)
    with_reducible refine (refRight_any x _ x0 x1).mono ?_
    rintro e w1 ⟨rfl, rfl⟩
    rw [HB.out]
    go_wp2_with (fail)
    go_ret
    rw [HK.out]
    exact ⟨rfl, rfl⟩
set_option maxHeartbeats 400000 in
theorem refAtw_any (x : Int) (w : World) (x0 : -9223372036854775808 ≤ x) (x1 : x ≤ 9223372036854775807) : Calls Tryz.prog 142 #[.int .i64 x] w fun e w' => e = .returned (.int .i64 (wAt x)) ∧ w = w' := by
  cases hb : wB x with
  | true =>
    have h := wB_yes hb
    have HK := Lib.hid (show wAt x = x / 8 by unfold wAt; rw [hb]; rfl)
    have ed : x.tdiv 8 = x / 8 := by rw [Int.tdiv_eq_ediv_of_nonneg (by omega)]
    have h8 : 0 ≤ x := by omega
    have HB := Lib.hid hb
    clear hb
    clear h
    go_enter Tryz.func142, Tryz.ntmps142
    go_wp2_with (fail)
    with_reducible refine (refRight_any x _ x0 x1).mono ?_
    rintro e w1 ⟨rfl, rfl⟩
    rw [HB.out]
    go_wp2_with (fail)
    go_ret
    rw [HK.out]
    exact ⟨rfl, rfl⟩
  | false =>
    have HK := Lib.hid (show wAt x = 0 by unfold wAt; rw [hb]; rfl)
    have HB := Lib.hid hb
    clear hb
    go_enter Tryz.func142, Tryz.ntmps142
    go_wp2_with (fail)
    with_reducible refine (refRight_any x _ x0 x1).mono ?_
    rintro e w1 ⟨rfl, rfl⟩
    rw [HB.out]
    go_wp2_with (fail)
    go_ret
    rw [HK.out]
    exact ⟨rfl, rfl⟩
set_option maxHeartbeats 400000 in
theorem refOf_any (k a : Int) (w : World) : Calls Tryz.prog 228 #[.int .i64 k, .int .i64 a] w fun e w' => e = .returned (.int .i64 (wOf k a)) ∧ w = w' := by
  by_cases h1 : 1 ≤ k
  · by_cases h2 : k ≤ 5
    · by_cases h3 : 1 ≤ a
      · by_cases h4 : a ≤ 65536
        · have HW := Lib.hid (show wOf k a = 8 * a + k by unfold wOf; rw [mayB_mk h1 h2 h3 h4, if_pos rfl]; omega)
          go_enter Tryz.func228, Tryz.ntmps228
          go_wp2_with (fail)
          go_ret
          rw [HW.out]
          exact ⟨rfl, rfl⟩
        · have HW := Lib.hid (show wOf k a = 0 by unfold wOf; rw [mayB_not (by omega)]; rfl)
          have g : 65536 < a := by omega
          go_enter Tryz.func228, Tryz.ntmps228
          go_wp2_with (fail)
          go_ret
          rw [HW.out]
          exact ⟨rfl, rfl⟩
      · have HW := Lib.hid (show wOf k a = 0 by unfold wOf; rw [mayB_not (by omega)]; rfl)
        have g : a < 1 := by omega
        go_enter Tryz.func228, Tryz.ntmps228
        go_wp2_with (fail)
        go_ret
        rw [HW.out]
        exact ⟨rfl, rfl⟩
    · have HW := Lib.hid (show wOf k a = 0 by unfold wOf; rw [mayB_not (by omega)]; rfl)
      have g : 5 < k := by omega
      go_enter Tryz.func228, Tryz.ntmps228
      go_wp2_with (fail)
      go_ret
      rw [HW.out]
      exact ⟨rfl, rfl⟩
  · have HW := Lib.hid (show wOf k a = 0 by unfold wOf; rw [mayB_not (by omega)]; rfl)
    have g : k < 1 := by omega
    go_enter Tryz.func228, Tryz.ntmps228
    go_wp2_with (fail)
    go_ret
    rw [HW.out]
    exact ⟨rfl, rfl⟩
end Go.Proofs.YtblajeildolloaaGreat

/- ordinateref7: within, KeyAt, ChildAt, the words of records. -/
namespace Go.Proofs.YtblajeildolloaaGreat
set_option linter.unusedVariables false
set_option linter.unusedSimpArgs false
open Go.RowKit

set_option maxHeartbeats 400000 in
theorem within_any (x : Int) (w : World) : Calls Tryz.prog 254 #[.int .i64 x] w fun e w' => e = .returned (.bool (nearB x)) ∧ w = w' := by
  by_cases h0 : 0 ≤ x
  · by_cases h1 : x ≤ 1099511627776
    · have HN := Lib.hid (show nearB x = true by unfold nearB; rw [decide_eq_true h0, decide_eq_true h1]; rfl)
      go_enter Tryz.func254, Tryz.ntmps254
      go_wp2_with (fail)
      go_ret
      rw [HN.out]
      exact ⟨rfl, rfl⟩
    · have HN := Lib.hid (show nearB x = false by unfold nearB; rw [decide_eq_false h1, Bool.and_false])
      go_enter Tryz.func254, Tryz.ntmps254
      go_wp2_with (fail)
      go_ret
      rw [HN.out]
      exact ⟨rfl, rfl⟩
  · have HN := Lib.hid (show nearB x = false by unfold nearB; rw [decide_eq_false h0, Bool.false_and])
    go_enter Tryz.func254, Tryz.ntmps254
    go_wp2_with (fail)
    go_ret
    rw [HN.out]
    exact ⟨rfl, rfl⟩
set_option maxHeartbeats 400000 in
theorem keyAt7_any (n i : Int) (w : World) : Calls Tryz.prog 231 #[.int .i64 n, .int .i64 i] w fun e w' => e = .returned (.int .i64 (keyAtI n i)) ∧ w = w' := by
  cases hn : nearB n with
  | false =>
    have HK := Lib.hid (show keyAtI n i = 0 by unfold keyAtI; rw [hn]; simp)
    have HN := Lib.hid hn
    clear hn
    go_enter Tryz.func231, Tryz.ntmps231
    go_wp2_with (fail)
    with_reducible refine (within_any n _).mono ?_
    rintro e w1 ⟨rfl, rfl⟩
    rw [HN.out]
    go_wp2_with (fail)
    go_ret
    rw [HK.out]
    exact ⟨rfl, rfl⟩
  | true =>
    cases hi : nearB i with
    | false =>
      have HK := Lib.hid (show keyAtI n i = 0 by unfold keyAtI; rw [hi]; simp)
      have HN := Lib.hid hn
      have HI := Lib.hid hi
      clear hn hi
      go_enter Tryz.func231, Tryz.ntmps231
      go_wp2_with (fail)
      with_reducible refine (within_any n _).mono ?_
      rintro e w1 ⟨rfl, rfl⟩
      rw [HN.out]
      go_wp2_with (fail)
      with_reducible refine (within_any i _).mono ?_
      rintro e w1 ⟨rfl, rfl⟩
      rw [HI.out]
      go_wp2_with (fail)
      go_ret
      rw [HK.out]
      exact ⟨rfl, rfl⟩
    | true =>
      have HK := Lib.hid (show keyAtI n i = n + 4 + i by unfold keyAtI; rw [hn, hi]; simp)
      obtain ⟨n0, n1⟩ := nearB_yes hn
      obtain ⟨i0, i1⟩ := nearB_yes hi
      have HN := Lib.hid hn
      have HI := Lib.hid hi
      clear hn hi
      go_enter Tryz.func231, Tryz.ntmps231
      go_wp2_with (fail)
      with_reducible refine (within_any n _).mono ?_
      rintro e w1 ⟨rfl, rfl⟩
      rw [HN.out]
      go_wp2_with (fail)
      with_reducible refine (within_any i _).mono ?_
      rintro e w1 ⟨rfl, rfl⟩
      rw [HI.out]
      go_wp2_with (fail)
      go_ret
      rw [HK.out]
      exact ⟨rfl, rfl⟩
set_option maxHeartbeats 400000 in
theorem childAt7_any (n d i : Int) (w : World) : Calls Tryz.prog 219 #[.int .i64 n, .int .i64 d, .int .i64 i] w fun e w' => e = .returned (.int .i64 (childAtI n d i)) ∧ w = w' := by
  cases hn : nearB n with
  | false =>
    have HK := Lib.hid (show childAtI n d i = 0 by unfold childAtI; rw [hn]; simp)
    have HN := Lib.hid hn
    clear hn
    go_enter Tryz.func219, Tryz.ntmps219
    go_wp2_with (fail)
    with_reducible refine (within_any n _).mono ?_
    rintro e w1 ⟨rfl, rfl⟩
    rw [HN.out]
    go_wp2_with (fail)
    go_ret
    rw [HK.out]
    exact ⟨rfl, rfl⟩
  | true =>
    cases hd : nearB d with
    | false =>
      have HK := Lib.hid (show childAtI n d i = 0 by unfold childAtI; rw [hd]; simp)
      have HN := Lib.hid hn
      have HD := Lib.hid hd
      clear hn hd
      go_enter Tryz.func219, Tryz.ntmps219
      go_wp2_with (fail)
      with_reducible refine (within_any n _).mono ?_
      rintro e w1 ⟨rfl, rfl⟩
      rw [HN.out]
      go_wp2_with (fail)
      with_reducible refine (within_any d _).mono ?_
      rintro e w1 ⟨rfl, rfl⟩
      rw [HD.out]
      go_wp2_with (fail)
      go_ret
      rw [HK.out]
      exact ⟨rfl, rfl⟩
    | true =>
      cases hi : nearB i with
      | false =>
        have HK := Lib.hid (show childAtI n d i = 0 by unfold childAtI; rw [hi]; simp)
        have HN := Lib.hid hn
        have HD := Lib.hid hd
        have HI := Lib.hid hi
        clear hn hd hi
        go_enter Tryz.func219, Tryz.ntmps219
        go_wp2_with (fail)
        with_reducible refine (within_any n _).mono ?_
        rintro e w1 ⟨rfl, rfl⟩
        rw [HN.out]
        go_wp2_with (fail)
        with_reducible refine (within_any d _).mono ?_
        rintro e w1 ⟨rfl, rfl⟩
        rw [HD.out]
        go_wp2_with (fail)
        with_reducible refine (within_any i _).mono ?_
        rintro e w1 ⟨rfl, rfl⟩
        rw [HI.out]
        go_wp2_with (fail)
        go_ret
        rw [HK.out]
        exact ⟨rfl, rfl⟩
      | true =>
        have HK := Lib.hid (show childAtI n d i = n + 4 + d + i by unfold childAtI; rw [hn, hd, hi]; simp)
        obtain ⟨n0, n1⟩ := nearB_yes hn
        obtain ⟨d0, d1⟩ := nearB_yes hd
        obtain ⟨i0, i1⟩ := nearB_yes hi
        have HN := Lib.hid hn
        have HD := Lib.hid hd
        have HI := Lib.hid hi
        clear hn hd hi
        go_enter Tryz.func219, Tryz.ntmps219
        go_wp2_with (fail)
        with_reducible refine (within_any n _).mono ?_
        rintro e w1 ⟨rfl, rfl⟩
        rw [HN.out]
        go_wp2_with (fail)
        with_reducible refine (within_any d _).mono ?_
        rintro e w1 ⟨rfl, rfl⟩
        rw [HD.out]
        go_wp2_with (fail)
        with_reducible refine (within_any i _).mono ?_
        rintro e w1 ⟨rfl, rfl⟩
        rw [HI.out]
        go_wp2_with (fail)
        go_ret
        rw [HK.out]
        exact ⟨rfl, rfl⟩
/-- A new row of words. -/
def NewWs (L : List Int) (w : World) (e : Ending) (w' : World) : Prop := ∃ v, e = .returned v ∧ w'.ownsRow w.heap.size 2 1 v L.length (L.map (Value.int .i64)) ∧ Below w.heap.size w w'
theorem newWs_lit (w : World) (L : List Int) (vs : Array Value) (n c : Nat) (hv : vs.toList = L.map (Value.int .i64)) (hn : n = L.length) (hc : c = L.length) (hl : 0 < L.length) (hm : L.length ≤ 1000000) : NewWs L w (.returned (.slice (some ⟨w.heap.size, 0, none⟩) n c)) (w.alloc (.cells vs 2)) := by
  subst hn
  subst hc
  have e : vs = (L.map (Value.int .i64)).toArray := by rw [← hv]
  have hs : vs.size = L.length := by rw [e]; simp
  have := World.ownsRow_lit (base := w.heap.size) (e := 2) (size := 1) w vs L.length (Nat.le_refl _) (by unfold maxLen; omega) (by rw [hs]; omega)
  rw [hv] at this
  exact ⟨_, rfl, this, (Below.refl _ _).alloc (Nat.le_refl _) _⟩
set_option maxHeartbeats 400000 in
theorem dcssW7_any (g p o x : Int) (w : World) : Calls Tryz.prog 230 #[.int .i64 g, .int .i64 p, .int .i64 o, .int .i64 x] w (NewWs (dcssW g p o x) w) := by
  go_enter Tryz.func230, Tryz.ntmps230
  go_wp2_with (fail)
  go_ret
  exact newWs_lit w (dcssW g p o x) _ _ _ rfl rfl rfl (by simp [dcssW]) (by simp [dcssW])
set_option maxHeartbeats 400000 in
theorem rebuildW7_any (t g s : Int) (w : World) : Calls Tryz.prog 244 #[.int .i64 t, .int .i64 g, .int .i64 s] w (NewWs (rebuildW t g s) w) := by
  go_enter Tryz.func244, Tryz.ntmps244
  go_wp2_with (fail)
  go_ret
  exact newWs_lit w (rebuildW t g s) _ _ _ rfl rfl rfl (by simp [rebuildW]) (by simp [rebuildW])
set_option maxHeartbeats 400000 in
theorem leafW7_any (k x : Int) (w : World) : Calls Tryz.prog 237 #[.int .i64 k, .int .i64 x] w (NewWs [k, x] w) := by
  go_enter Tryz.func237, Tryz.ntmps237
  go_wp2_with (fail)
  go_ret
  exact newWs_lit w [k, x] _ _ _ rfl rfl rfl (by simp) (by simp)
set_option maxHeartbeats 400000 in
theorem emptyW7_any (w : World) : Calls Tryz.prog 236 #[] w (NewWs [0] w) := by
  go_enter Tryz.func236, Tryz.ntmps236
  go_wp2_with (fail)
  go_ret
  exact newWs_lit w [0] _ _ _ rfl rfl rfl (by decide) (by decide)
end Go.Proofs.YtblajeildolloaaGreat

/- The document's procedures: read, write, cas, add, make, peek, help, slot, dcss. -/
namespace Go.Proofs.YtblajeildolloaaGreat
set_option linter.unusedVariables false
set_option linter.unusedSimpArgs false
open Go.RowKit

theorem nilNone (n : Nat) : ∀ g, (Value.slice none 0 0).ownBlock = some g → n ≤ g := fun g hg => by simp [Value.ownBlock] at hg
section
variable (F : Nat → Prop) (rb : Nat) (w0 : World)
set_option maxHeartbeats 400000 in
theorem readR_any (s s' : RunS) (v a : Int) (w : World) (h : RAt F rb w0 s w) (hs : s.Bd) (hg : (readP a).go s = (v, s')) :
    Calls Tryz.prog 226 #[.pointer (some ⟨rb, 0, none⟩), .int .i64 a] w fun e w' => e = .returned (.int .i64 v) ∧ RAt F rb w0 s' w' := by
  have hg : askS ⟨1, a, 0, 0, [], 0⟩ s = (v, s') := hg
  have HG := Lib.hid hg
  have H := Lib.hid h
  clear hg h
  go_enter Tryz.func226, Tryz.ntmps226
  go_wp2_with (fail)
  with_reducible refine (askR_any F rb w0 s ⟨1, a, 0, 0, [], 0⟩ (.slice none 0 0) _ H.out hs (World.ownsRow_nil _ _ _ _) (nilNone _)).mono ?_
  rintro e w1 ⟨rfl, h1⟩
  rw [HG.out] at h1 ⊢
  have H1 := Lib.hid h1
  clear h1
  clear HG H
  go_wp2_with (fail)
  go_ret
  exact ⟨rfl, H1.out⟩
set_option maxHeartbeats 400000 in
theorem writeR_any (s s' : RunS) (v : Unit) (a x : Int) (w : World) (h : RAt F rb w0 s w) (hs : s.Bd) (hg : (writeP a x).go s = (v, s')) :
    Calls Tryz.prog 235 #[.pointer (some ⟨rb, 0, none⟩), .int .i64 a, .int .i64 x] w fun e w' => e = .returned (.tuple #[]) ∧ RAt F rb w0 s' w' := by
  have hg : (askS ⟨2, a, x, 0, [], 0⟩ s).2 = s' := congrArg Prod.snd hg
  have HG := Lib.hid hg
  have H := Lib.hid h
  clear hg h
  go_enter Tryz.func235, Tryz.ntmps235
  go_wp2_with (fail)
  with_reducible refine (askR_any F rb w0 s ⟨2, a, x, 0, [], 0⟩ (.slice none 0 0) _ H.out hs (World.ownsRow_nil _ _ _ _) (nilNone _)).mono ?_
  rintro e w1 ⟨rfl, h1⟩
  rw [HG.out] at h1
  have H1 := Lib.hid h1
  clear h1
  clear HG H
  go_wp2_with (fail)
  go_end0
  exact ⟨rfl, H1.out⟩
set_option maxHeartbeats 400000 in
theorem casR_any (s s' : RunS) (v : Bool) (a x y : Int) (w : World) (h : RAt F rb w0 s w) (hs : s.Bd) (hg : (casP a x y).go s = (v, s')) :
    Calls Tryz.prog 227 #[.pointer (some ⟨rb, 0, none⟩), .int .i64 a, .int .i64 x, .int .i64 y] w fun e w' => e = .returned (.bool v) ∧ RAt F rb w0 s' w' := by
  have hg : ((askS ⟨3, a, x, y, [], 0⟩ s).1 == 1, (askS ⟨3, a, x, y, [], 0⟩ s).2) = (v, s') := hg
  injection hg with h1 h2
  have HV := Lib.hid h1
  have HG := Lib.hid h2
  have H := Lib.hid h
  clear h
  clear h1 h2
  go_enter Tryz.func227, Tryz.ntmps227
  go_wp2_with (fail)
  with_reducible refine (askR_any F rb w0 s ⟨3, a, x, y, [], 0⟩ (.slice none 0 0) _ H.out hs (World.ownsRow_nil _ _ _ _) (nilNone _)).mono ?_
  rintro e w1 ⟨rfl, h1⟩
  rw [HG.out] at h1
  have H1 := Lib.hid h1
  clear h1
  clear HG H
  generalize (askS ⟨3, a, x, y, [], 0⟩ s).1 = z at HV ⊢
  go_wp2_with (fail)
  go_ret
  rw [← HV.out]
  exact ⟨rfl, H1.out⟩
set_option maxHeartbeats 400000 in
theorem addR_any (s s' : RunS) (v a x : Int) (w : World) (h : RAt F rb w0 s w) (hs : s.Bd) (hg : (addP a x).go s = (v, s')) :
    Calls Tryz.prog 245 #[.pointer (some ⟨rb, 0, none⟩), .int .i64 a, .int .i64 x] w fun e w' => e = .returned (.int .i64 v) ∧ RAt F rb w0 s' w' := by
  have hg : askS ⟨4, a, x, 0, [], 0⟩ s = (v, s') := hg
  have HG := Lib.hid hg
  have H := Lib.hid h
  clear hg h
  go_enter Tryz.func245, Tryz.ntmps245
  go_wp2_with (fail)
  with_reducible refine (askR_any F rb w0 s ⟨4, a, x, 0, [], 0⟩ (.slice none 0 0) _ H.out hs (World.ownsRow_nil _ _ _ _) (nilNone _)).mono ?_
  rintro e w1 ⟨rfl, h1⟩
  rw [HG.out] at h1 ⊢
  have H1 := Lib.hid h1
  clear h1
  clear HG H
  go_wp2_with (fail)
  go_ret
  exact ⟨rfl, H1.out⟩
set_option maxHeartbeats 400000 in
theorem makeR_any (s s' : RunS) (v : Int) (ws : List Int) (t : Int) (qv : Value) (w : World) (h : RAt F rb w0 s w) (hs : s.Bd) (hq : w.ownsRow 0 2 1 qv ws.length (ws.map (Value.int .i64))) (hn : ∀ g, qv.ownBlock = some g → w0.heap.size ≤ g) (hg : (makeP ws t).go s = (v, s')) :
    Calls Tryz.prog 229 #[.pointer (some ⟨rb, 0, none⟩), qv] w fun e w' => e = .returned (.tuple #[.int .i64 v, .bool (decide (0 < v))]) ∧ RAt F rb w0 s' w' := by
  have hg : askS ⟨5, 0, 0, 0, ws, t⟩ s = (v, s') := hg
  obtain ⟨qA, qc, rfl⟩ := own_shape hq
  have HG := Lib.hid hg
  have H := Lib.hid h
  have HQ := Lib.hid hq
  have HN := Lib.hid hn
  clear hg h hq hn
  go_enter Tryz.func229, Tryz.ntmps229
  go_wp2_with (fail)
  with_reducible refine (askR_any F rb w0 s ⟨5, 0, 0, 0, ws, t⟩ (.slice qA ws.length qc) _ H.out hs HQ.out HN.out).mono ?_
  rintro e w1 ⟨rfl, h1⟩
  rw [HG.out] at h1 ⊢
  have H1 := Lib.hid h1
  clear h1
  clear HG H HQ HN
  go_wp2_with (fail)
  go_ret2
  exact ⟨rfl, H1.out⟩
set_option maxHeartbeats 1000000 in
theorem peekR_any (s0 s' : RunS) (v slot : Int) (w : World) (h : RAt F rb w0 s0 w) (d0 : s0.Bd) (hg : (peekP slot).go s0 = (v, s')) (hb : i64B slot) :
    Calls Tryz.prog 194 #[.pointer (some ⟨rb, 0, none⟩), .int .i64 slot] w fun e w' => e = .returned (.int .i64 v) ∧ RAt F rb w0 s' w' := by
  unfold peekP at hg
  have HG := Lib.hid hg
  have H0 := Lib.hid h
  clear hg h
  go_enter Tryz.func194, Tryz.ntmps194
  obtain ⟨v1, s1, g1⟩ := go_ex (readP slot) s0
  have hg := HG.out
  clear HG
  rw [go_bind, g1] at hg
  have HG := Lib.hid hg
  clear hg
  obtain ⟨b1, d1⟩ := go_okE g1 (readP_ok hb) d0
  have G1 := Lib.hid g1
  clear g1
  go_wp2_with (fail)
  with_reducible refine (readR_any F rb w0 s0 s1 v1 slot _ H0.out d0 G1.out).mono ?_
  rintro e w1 ⟨rfl, h1⟩
  have H1 := Lib.hid h1
  clear h1 H0 G1
  have ha := wAt_bd v1
  go_wp2_with (fail)
  with_reducible refine (refKind_any v1 _ b1.lo b1.hi).mono ?_
  rintro e w2 ⟨rfl, rfl⟩
  by_cases k : wKind v1 = 5
  · have hg := HG.out
    clear HG
    rw [if_pos k] at hg
    have HG := Lib.hid hg
    clear hg
    have e5 : (wKind v1 == 5) = true := by simpa using k
    clear k
    go_wp2_with (fail)
    with_reducible refine (refAtw_any v1 _ b1.lo b1.hi).mono ?_
    rintro e w2 ⟨rfl, rfl⟩
    obtain ⟨v2, s2, g2⟩ := go_ex (readP (wAt v1 + 4)) s1
    have hg := HG.out
    clear HG
    rw [go_bind, g2] at hg
    have HG := Lib.hid hg
    clear hg
    obtain ⟨b2, d2⟩ := go_okE g2 (readP_ok (wAt_i64 v1 (by decide) (by decide))) d1
    have G2 := Lib.hid g2
    clear g2
    go_wp2_with (fail)
    with_reducible refine (readR_any F rb w0 s1 s2 v2 (wAt v1 + 4) _ H1.out d1 G2.out).mono ?_
    rintro e w2 ⟨rfl, h2⟩
    have H2 := Lib.hid h2
    clear h2 H1 G2
    by_cases k1 : v2 = 1
    · have hg := HG.out
      clear HG
      rw [if_pos k1] at hg
      have HG := Lib.hid hg
      clear hg
      have e1 : (v2 == 1) = true := by simpa using k1
      clear k1
      go_wp2_with (fail)
      with_reducible refine (readR_any F rb w0 s2 s' v (wAt v1 + 3) _ H2.out d2 HG.out).mono ?_
      rintro e w3 ⟨rfl, h3⟩
      have H3 := Lib.hid h3
      clear h3
      go_wp2_with (fail)
      go_ret
      exact ⟨rfl, H3.out⟩
    · have hg := HG.out
      clear HG
      rw [if_neg k1] at hg
      have HG := Lib.hid hg
      clear hg
      have e1 : (v2 == 1) = false := by simpa using k1
      clear k1
      go_wp2_with (fail)
      with_reducible refine (readR_any F rb w0 s2 s' v (wAt v1 + 2) _ H2.out d2 HG.out).mono ?_
      rintro e w3 ⟨rfl, h3⟩
      have H3 := Lib.hid h3
      clear h3
      go_wp2_with (fail)
      go_ret
      exact ⟨rfl, H3.out⟩
  · have hg := HG.out
    clear HG
    rw [if_neg k] at hg
    have HG := Lib.hid hg
    clear hg
    have e5 : (wKind v1 == 5) = false := by simpa using k
    clear k
    obtain ⟨rfl, rfl⟩ := Prod.mk.inj HG.out
    go_wp2_with (fail)
    go_ret
    exact ⟨rfl, H1.out⟩
set_option maxHeartbeats 2000000 in
theorem helpR_any (s0 s' : RunS) (v : Unit) (at_ : Int) (w : World) (h : RAt F rb w0 s0 w) (d0 : s0.Bd) (hg : (helpP at_).go s0 = (v, s')) (a0 : 0 ≤ at_) (a1 : at_ ≤ 65536) :
    Calls Tryz.prog 195 #[.pointer (some ⟨rb, 0, none⟩), .int .i64 at_] w fun e w' => e = .returned (.tuple #[]) ∧ RAt F rb w0 s' w' := by
  have bb : ∀ d, 0 ≤ d → d ≤ 100 → i64B (at_ + d) := fun d _ _ => ⟨by omega, by omega⟩
  have b00 : i64B at_ := ⟨by omega, by omega⟩
  unfold helpP at hg
  have HG := Lib.hid hg
  have H0 := Lib.hid h
  have BB := Lib.hid bb
  clear hg h bb
  go_enter Tryz.func195, Tryz.ntmps195
  obtain ⟨v1, s1, g1⟩ := go_ex (readP at_) s0
  have hg := HG.out
  clear HG
  rw [go_bind, g1] at hg
  have HG := Lib.hid hg
  clear hg
  obtain ⟨b1, d1⟩ := go_okE g1 (readP_ok b00) d0
  have G1 := Lib.hid g1
  clear g1
  go_wp2_with (fail)
  with_reducible refine (readR_any F rb w0 s0 s1 v1 at_ _ H0.out d0 G1.out).mono ?_
  rintro e w1 ⟨rfl, h1⟩
  have H1 := Lib.hid h1
  clear h1 H0 G1
  obtain ⟨v2, s2, g2⟩ := go_ex (readP v1) s1
  have hg := HG.out
  clear HG
  rw [go_bind, g2] at hg
  have HG := Lib.hid hg
  clear hg
  obtain ⟨b2, d2⟩ := go_okE g2 (readP_ok b1) d1
  have G2 := Lib.hid g2
  clear g2
  go_wp2_with (fail)
  with_reducible refine (readR_any F rb w0 s1 s2 v2 v1 _ H1.out d1 G2.out).mono ?_
  rintro e w2 ⟨rfl, h2⟩
  have H2 := Lib.hid h2
  clear h2 H1 G2
  have fin : ∀ (s6 : RunS) (w6 : World) (v5 v6 : Int), Hid (RAt F rb w0 s6 w6) → s6.Bd → Hid (((casP v5 (wOf 5 at_) v6).bind fun _ => Prog.ret ()).go s6 = (v, s')) → ∃ vv, (casP v5 (wOf 5 at_) v6).go s6 = (vv, s') := fun s6 w6 v5 v6 _ _ hG => by
    have := hG.out
    rw [go_bind] at this
    have e : ((casP v5 (wOf 5 at_) v6).go s6).2 = s' := congrArg Prod.snd this
    exact ⟨((casP v5 (wOf 5 at_) v6).go s6).1, Prod.ext rfl e⟩
  have FIN := Lib.hid fin
  clear fin
  by_cases kg : v2 = 0
  · have eg : (v2 != 0) = false := by simpa using kg
    have hg := HG.out
    clear HG
    rw [show (if v2 = 0 then (1 : Int) else 2) = 1 from if_pos kg] at hg
    have HG := Lib.hid hg
    clear hg
    clear kg
    obtain ⟨v3, s3, g3⟩ := go_ex (casP (at_ + 4) 0 1) s2
    have hg := HG.out
    clear HG
    rw [go_bind, g3] at hg
    have HG := Lib.hid hg
    clear hg
    obtain ⟨b3, d3⟩ := go_okE g3 (casP_ok (BB.out 4 (by decide) (by decide)) i64B_zero one_i64) d2
    have G3 := Lib.hid g3
    clear g3
    go_wp2_with (fail)
    with_reducible refine (casR_any F rb w0 s2 s3 v3 (at_ + 4) 0 1 _ H2.out d2 G3.out).mono ?_
    rintro e w3 ⟨rfl, h3⟩
    have H3 := Lib.hid h3
    clear h3 H2 G3
    obtain ⟨v4, s4, g4⟩ := go_ex (readP (at_ + 4)) s3
    have hg := HG.out
    clear HG
    rw [go_bind, g4] at hg
    have HG := Lib.hid hg
    clear hg
    obtain ⟨b4, d4⟩ := go_okE g4 (readP_ok (BB.out 4 (by decide) (by decide))) d3
    have G4 := Lib.hid g4
    clear g4
    go_wp2_with (fail)
    with_reducible refine (readR_any F rb w0 s3 s4 v4 (at_ + 4) _ H3.out d3 G4.out).mono ?_
    rintro e w4 ⟨rfl, h4⟩
    have H4 := Lib.hid h4
    clear h4 H3 G4
    obtain ⟨v5, s5, g5⟩ := go_ex (readP (at_ + 1)) s4
    have hg := HG.out
    clear HG
    rw [go_bind, g5] at hg
    have HG := Lib.hid hg
    clear hg
    obtain ⟨b5, d5⟩ := go_okE g5 (readP_ok (BB.out 1 (by decide) (by decide))) d4
    have G5 := Lib.hid g5
    clear g5
    go_wp2_with (fail)
    with_reducible refine (readR_any F rb w0 s4 s5 v5 (at_ + 1) _ H4.out d4 G5.out).mono ?_
    rintro e w5 ⟨rfl, h5⟩
    have H5 := Lib.hid h5
    clear h5 H4 G5
    by_cases ko : v4 = 1
    · have eo : (v4 == 1) = true := by simpa using ko
      have hg := HG.out
      clear HG
      rw [if_pos ko] at hg
      have HG := Lib.hid hg
      clear hg
      clear ko
      obtain ⟨v6, s6, g6⟩ := go_ex (readP (at_ + 3)) s5
      have hg := HG.out
      clear HG
      rw [go_bind, g6] at hg
      have HG := Lib.hid hg
      clear hg
      obtain ⟨b6, d6⟩ := go_okE g6 (readP_ok (BB.out 3 (by decide) (by decide))) d5
      have G6 := Lib.hid g6
      clear g6
      go_wp2_with (fail)
      with_reducible refine (readR_any F rb w0 s5 s6 v6 (at_ + 3) _ H5.out d5 G6.out).mono ?_
      rintro e w6 ⟨rfl, h6⟩
      have H6 := Lib.hid h6
      clear h6 H5 G6
      obtain ⟨vv, hvv⟩ := FIN.out s6 w6 v5 v6 H6 d6 HG
      have HV := Lib.hid hvv
      clear hvv FIN HG
      go_wp2_with (fail)
      with_reducible refine (refOf_any 5 at_ _).mono ?_
      rintro e w7 ⟨rfl, rfl⟩
      go_wp2_with (fail)
      with_reducible refine (casR_any F rb w0 s6 s' vv v5 (wOf 5 at_) v6 _ H6.out d6 HV.out).mono ?_
      rintro e w7 ⟨rfl, h7⟩
      have H7 := Lib.hid h7
      clear h7
      go_wp2_with (fail)
      go_end0
      exact ⟨rfl, H7.out⟩
    · have eo : (v4 == 1) = false := by simpa using ko
      have hg := HG.out
      clear HG
      rw [if_neg ko] at hg
      have HG := Lib.hid hg
      clear hg
      clear ko
      obtain ⟨v6, s6, g6⟩ := go_ex (readP (at_ + 2)) s5
      have hg := HG.out
      clear HG
      rw [go_bind, g6] at hg
      have HG := Lib.hid hg
      clear hg
      obtain ⟨b6, d6⟩ := go_okE g6 (readP_ok (BB.out 2 (by decide) (by decide))) d5
      have G6 := Lib.hid g6
      clear g6
      go_wp2_with (fail)
      with_reducible refine (readR_any F rb w0 s5 s6 v6 (at_ + 2) _ H5.out d5 G6.out).mono ?_
      rintro e w6 ⟨rfl, h6⟩
      have H6 := Lib.hid h6
      clear h6 H5 G6
      obtain ⟨vv, hvv⟩ := FIN.out s6 w6 v5 v6 H6 d6 HG
      have HV := Lib.hid hvv
      clear hvv FIN HG
      go_wp2_with (fail)
      with_reducible refine (refOf_any 5 at_ _).mono ?_
      rintro e w7 ⟨rfl, rfl⟩
      go_wp2_with (fail)
      with_reducible refine (casR_any F rb w0 s6 s' vv v5 (wOf 5 at_) v6 _ H6.out d6 HV.out).mono ?_
      rintro e w7 ⟨rfl, h7⟩
      have H7 := Lib.hid h7
      clear h7
      go_wp2_with (fail)
      go_end0
      exact ⟨rfl, H7.out⟩
  · have eg : (v2 != 0) = true := by simpa using kg
    have hg := HG.out
    clear HG
    rw [show (if v2 = 0 then (1 : Int) else 2) = 2 from if_neg kg] at hg
    have HG := Lib.hid hg
    clear hg
    clear kg
    obtain ⟨v3, s3, g3⟩ := go_ex (casP (at_ + 4) 0 2) s2
    have hg := HG.out
    clear HG
    rw [go_bind, g3] at hg
    have HG := Lib.hid hg
    clear hg
    obtain ⟨b3, d3⟩ := go_okE g3 (casP_ok (BB.out 4 (by decide) (by decide)) i64B_zero two_i64) d2
    have G3 := Lib.hid g3
    clear g3
    go_wp2_with (fail)
    with_reducible refine (casR_any F rb w0 s2 s3 v3 (at_ + 4) 0 2 _ H2.out d2 G3.out).mono ?_
    rintro e w3 ⟨rfl, h3⟩
    have H3 := Lib.hid h3
    clear h3 H2 G3
    obtain ⟨v4, s4, g4⟩ := go_ex (readP (at_ + 4)) s3
    have hg := HG.out
    clear HG
    rw [go_bind, g4] at hg
    have HG := Lib.hid hg
    clear hg
    obtain ⟨b4, d4⟩ := go_okE g4 (readP_ok (BB.out 4 (by decide) (by decide))) d3
    have G4 := Lib.hid g4
    clear g4
    go_wp2_with (fail)
    with_reducible refine (readR_any F rb w0 s3 s4 v4 (at_ + 4) _ H3.out d3 G4.out).mono ?_
    rintro e w4 ⟨rfl, h4⟩
    have H4 := Lib.hid h4
    clear h4 H3 G4
    obtain ⟨v5, s5, g5⟩ := go_ex (readP (at_ + 1)) s4
    have hg := HG.out
    clear HG
    rw [go_bind, g5] at hg
    have HG := Lib.hid hg
    clear hg
    obtain ⟨b5, d5⟩ := go_okE g5 (readP_ok (BB.out 1 (by decide) (by decide))) d4
    have G5 := Lib.hid g5
    clear g5
    go_wp2_with (fail)
    with_reducible refine (readR_any F rb w0 s4 s5 v5 (at_ + 1) _ H4.out d4 G5.out).mono ?_
    rintro e w5 ⟨rfl, h5⟩
    have H5 := Lib.hid h5
    clear h5 H4 G5
    by_cases ko : v4 = 1
    · have eo : (v4 == 1) = true := by simpa using ko
      have hg := HG.out
      clear HG
      rw [if_pos ko] at hg
      have HG := Lib.hid hg
      clear hg
      clear ko
      obtain ⟨v6, s6, g6⟩ := go_ex (readP (at_ + 3)) s5
      have hg := HG.out
      clear HG
      rw [go_bind, g6] at hg
      have HG := Lib.hid hg
      clear hg
      obtain ⟨b6, d6⟩ := go_okE g6 (readP_ok (BB.out 3 (by decide) (by decide))) d5
      have G6 := Lib.hid g6
      clear g6
      go_wp2_with (fail)
      with_reducible refine (readR_any F rb w0 s5 s6 v6 (at_ + 3) _ H5.out d5 G6.out).mono ?_
      rintro e w6 ⟨rfl, h6⟩
      have H6 := Lib.hid h6
      clear h6 H5 G6
      obtain ⟨vv, hvv⟩ := FIN.out s6 w6 v5 v6 H6 d6 HG
      have HV := Lib.hid hvv
      clear hvv FIN HG
      go_wp2_with (fail)
      with_reducible refine (refOf_any 5 at_ _).mono ?_
      rintro e w7 ⟨rfl, rfl⟩
      go_wp2_with (fail)
      with_reducible refine (casR_any F rb w0 s6 s' vv v5 (wOf 5 at_) v6 _ H6.out d6 HV.out).mono ?_
      rintro e w7 ⟨rfl, h7⟩
      have H7 := Lib.hid h7
      clear h7
      go_wp2_with (fail)
      go_end0
      exact ⟨rfl, H7.out⟩
    · have eo : (v4 == 1) = false := by simpa using ko
      have hg := HG.out
      clear HG
      rw [if_neg ko] at hg
      have HG := Lib.hid hg
      clear hg
      clear ko
      obtain ⟨v6, s6, g6⟩ := go_ex (readP (at_ + 2)) s5
      have hg := HG.out
      clear HG
      rw [go_bind, g6] at hg
      have HG := Lib.hid hg
      clear hg
      obtain ⟨b6, d6⟩ := go_okE g6 (readP_ok (BB.out 2 (by decide) (by decide))) d5
      have G6 := Lib.hid g6
      clear g6
      go_wp2_with (fail)
      with_reducible refine (readR_any F rb w0 s5 s6 v6 (at_ + 2) _ H5.out d5 G6.out).mono ?_
      rintro e w6 ⟨rfl, h6⟩
      have H6 := Lib.hid h6
      clear h6 H5 G6
      obtain ⟨vv, hvv⟩ := FIN.out s6 w6 v5 v6 H6 d6 HG
      have HV := Lib.hid hvv
      clear hvv FIN HG
      go_wp2_with (fail)
      with_reducible refine (refOf_any 5 at_ _).mono ?_
      rintro e w7 ⟨rfl, rfl⟩
      go_wp2_with (fail)
      with_reducible refine (casR_any F rb w0 s6 s' vv v5 (wOf 5 at_) v6 _ H6.out d6 HV.out).mono ?_
      rintro e w7 ⟨rfl, h7⟩
      have H7 := Lib.hid h7
      clear h7
      go_wp2_with (fail)
      go_end0
      exact ⟨rfl, H7.out⟩
end
/-- How much a run may ask still, read off its block. -/
def leftW (rb len : Nat) (w : World) : Nat := match w.cell? ⟨rb, 2, none⟩, w.cell? ⟨rb, 1, none⟩ with
  | some (.bool false), some (.int _ n) => len - n.toNat + 1
  | _, _ => 0
section
variable {F : Nat → Prop} {rb : Nat} {w0 w : World} {s : RunS}
theorem leftW_eq (h : RAt F rb w0 s w) : leftW rb s.tape.length w = s.left := by
  obtain ⟨⟨tv, wv, rec, laid, hp⟩, _⟩ := h
  have c1 : w.cell? ⟨rb, 1, none⟩ = some (.int .i64 s.at_) := hp.blk.cell 1
  have c2 : w.cell? ⟨rb, 2, none⟩ = some (.bool s.off) := hp.blk.cell 2
  unfold leftW RunS.left
  rw [c1, c2]
  cases s.off <;> simp
theorem askS_left (q : Ask) {s : RunS} (h : s.off = false) (ha : s.at_ ≤ s.tape.length) : (askS q s).2.left < s.left := by
  unfold askS RunS.left
  rw [h]
  by_cases h2 : s.at_ < s.tape.length
  · simp [h2, h]; omega
  · simp [h2]
theorem askS_left' (q : Ask) (s : RunS) : (askS q s).2.left ≤ s.left := by
  by_cases h : s.off = true
  · rw [askS_off h]; exact Nat.le_refl _
  · unfold askS RunS.left
    have h' : s.off = false := by simpa using h
    rw [h']
    by_cases h2 : s.at_ < s.tape.length
    · simp [h2, h']; omega
    · simp [h2]
theorem go_left {α : Type} : ∀ (p : Prog α) (s : RunS), (p.go s).2.left ≤ s.left
  | .ret a, s => Nat.le_refl _
  | .ask q k, s => Nat.le_trans (go_left (k (askS q s).1) (askS q s).2) (askS_left' q s)
  | .chk k, s => go_left (k s.off) s
  | .stuck p, s => go_left p s
end
end Go.Proofs.YtblajeildolloaaGreat

/- The document's procedures: slot, dcss, route, child. -/
namespace Go.Proofs.YtblajeildolloaaGreat
set_option linter.unusedVariables false
set_option linter.unusedSimpArgs false
open Go.RowKit

/-- Whether the tape's end was met. -/
theorem off_cell {F : Nat → Prop} {rb : Nat} {w0 w : World} {s : RunS} {b : Bool} (h : RAt F rb w0 s w) (hb : s.off = b) : w.cell? ⟨rb, 2, none⟩ = some (.bool b) := by rw [← hb]; exact h.off
section
variable (F : Nat → Prop) (rb : Nat) (w0 : World)
def RDown (n k d : Int) (v : Int × Int) (s' : RunS) (iv : Value) (wr : World) : Prop := ∃ (I : Int) (s : RunS), iv = .int .i64 I ∧ 0 ≤ I ∧ I ≤ 70000 ∧ RAt F rb w0 s wr ∧ s.Bd ∧ (downGo n k d (I.toNat + 1) I).go s = (v, s')
def RUp (n k d m : Int) (v : Int × Int) (s' : RunS) (iv : Value) (wr : World) : Prop := ∃ (I : Int) (f : Nat) (s : RunS), iv = .int .i64 I ∧ 1 ≤ I ∧ I ≤ m ∧ m - I ≤ f ∧ RAt F rb w0 s wr ∧ s.Bd ∧ (upGo n k d m f I).go s = (v, s')
set_option maxRecDepth 100000 in
set_option maxHeartbeats 4000000 in
theorem routeR_any (s0 s' : RunS) (v : Int × Int) (n k : Int) (w : World) (h : RAt F rb w0 s0 w) (d0 : s0.Bd) (hg : (routeP n k).go s0 = (v, s')) (hn : i64B n) (hk : i64B k) :
    Calls Tryz.prog 198 #[.pointer (some ⟨rb, 0, none⟩), .int .i64 n, .int .i64 k] w fun e w' => e = .returned (.tuple #[.int .i64 v.1, .int .i64 v.2]) ∧ RAt F rb w0 s' w' := by
  unfold routeP at hg
  have K0 := hk.lo
  have K1 := hk.hi
  have HG := Lib.hid hg
  have H0 := Lib.hid h
  clear hg h
  go_enter Tryz.func198, Tryz.ntmps198
  obtain ⟨v1, s1, g1⟩ := go_ex (readP n) s0
  have hg := HG.out
  clear HG
  rw [go_bind, g1] at hg
  have HG := Lib.hid hg
  clear hg
  obtain ⟨b1, d1⟩ := go_okE g1 (readP_ok hn) d0
  have G1 := Lib.hid g1
  clear g1
  go_wp2_with (fail)
  with_reducible refine (readR_any F rb w0 s0 s1 v1 n _ H0.out d0 G1.out).mono ?_
  rintro e w1 ⟨rfl, h1⟩
  have H1 := Lib.hid h1
  clear h1 H0 G1
  have hm := wrap_bd (v1 - 1)
  have m0 := hm.lo
  have m1 := hm.hi
  clear hm
  by_cases k1 : wrap64 (v1 - 1) < 1
  · have hg := HG.out
    clear HG
    rw [if_pos k1] at hg
    have HG := Lib.hid hg
    clear hg
    obtain ⟨rfl, rfl⟩ := Prod.mk.inj HG.out
    go_wp2_with (fail)
    go_ret2
    exact ⟨rfl, H1.out⟩
  · have hg := HG.out
    clear HG
    rw [if_neg k1] at hg
    have HG := Lib.hid hg
    clear hg
    go_wp2_with (fail)
    with_reducible refine (keyAt7_any n 1 _).mono ?_
    rintro e w2 ⟨rfl, rfl⟩
    generalize wrap64 (v1 - 1) = m at HG m0 m1 k1 ⊢
    obtain ⟨v2, s2, g2⟩ := go_ex (readP (keyAtI n 1)) s1
    have hg := HG.out
    clear HG
    rw [go_bind, g2] at hg
    have HG := Lib.hid hg
    clear hg
    obtain ⟨b2, d2⟩ := go_okE g2 (readP_ok (keyAt_i64 n 1)) d1
    have G2 := Lib.hid g2
    clear g2
    go_wp2_with (fail)
    with_reducible refine (readR_any F rb w0 s1 s2 v2 (keyAtI n 1) _ H1.out d1 G2.out).mono ?_
    rintro e w2 ⟨rfl, h2⟩
    have H2 := Lib.hid h2
    clear h2 H1 G2
    by_cases k2 : k < v2
    · have hg := HG.out
      clear HG
      rw [if_pos k2] at hg
      have HG := Lib.hid hg
      clear hg
      obtain ⟨rfl, rfl⟩ := Prod.mk.inj HG.out
      go_wp2_with (fail)
      go_ret2
      exact ⟨rfl, H2.out⟩
    · have hg := HG.out
      clear HG
      rw [if_neg k2] at hg
      have HG := Lib.hid hg
      clear hg
      by_cases k3 : m = 1
      · have hg := HG.out
        clear HG
        rw [if_pos k3] at hg
        have HG := Lib.hid hg
        clear hg
        have e3 : (m == 1) = true := by simpa using k3
        clear k3
        obtain ⟨rfl, rfl⟩ := Prod.mk.inj HG.out
        go_wp2_with (fail)
        go_ret2
        exact ⟨rfl, H2.out⟩
      · have hg := HG.out
        clear HG
        rw [if_neg k3] at hg
        have HG := Lib.hid hg
        clear hg
        have e3 : (m == 1) = false := by simpa using k3
        have m2 : 2 ≤ m := by omega
        clear k3
        go_wp2_with (fail)
        with_reducible refine (keyAt7_any n m _).mono ?_
        rintro e w3 ⟨rfl, rfl⟩
        obtain ⟨v3, s3, g3⟩ := go_ex (readP (keyAtI n m)) s2
        have hg := HG.out
        clear HG
        rw [go_bind, g3] at hg
        have HG := Lib.hid hg
        clear hg
        obtain ⟨b3, d3⟩ := go_okE g3 (readP_ok (keyAt_i64 n m)) d2
        have G3 := Lib.hid g3
        clear g3
        go_wp2_with (fail)
        with_reducible refine (readR_any F rb w0 s2 s3 v3 (keyAtI n m) _ H2.out d2 G3.out).mono ?_
        rintro e w3 ⟨rfl, h3⟩
        have H3 := Lib.hid h3
        clear h3 H2 G3
        by_cases k4 : v3 ≤ k
        · have hg := HG.out
          clear HG
          rw [if_pos k4] at hg
          have HG := Lib.hid hg
          clear hg
          obtain ⟨rfl, rfl⟩ := Prod.mk.inj HG.out
          go_wp2_with (fail)
          go_ret2
          exact ⟨rfl, H3.out⟩
        · have hg := HG.out
          clear HG
          rw [if_neg k4] at hg
          have HG := Lib.hid hg
          clear hg
          go_wp2_with (fail)
          with_reducible refine (refguess_any v2 v3 k m _ b2.lo b2.hi b3.lo b3.hi K0 K1 (by omega) (by omega)).mono ?_
          rintro e w4 ⟨rfl, hd⟩
          have H4 := Lib.hid (H3.out.below (drawn_bl hd _))
          clear hd H3
          have hj := guessI_le v2 v3 k m (by omega)
          have hj2 : guessI v2 v3 k m ≤ 70000 := by
            by_cases c : m < 2 ∨ 65536 < m ∨ k < v2 ∨ v3 ≤ k
            · rw [guessI_none c]; omega
            · have := guessI_bd (f := v2) (l := v3) (k := k) (n := m) (by omega) (by omega) (by omega) (by omega); omega
          unfold guessP at HG
          have hg := HG.out
          clear HG
          rw [go_chk] at hg
          have HG := Lib.hid hg
          clear hg
          generalize guessI v2 v3 k m = j at HG hj hj2 ⊢
          cases ho : s3.off with
          | true =>
            have c2 := off_cell H4.out ho
            have hg := HG.out
            clear HG
            rw [ho] at hg
            have HG := Lib.hid hg
            clear hg
            clear ho
            have hg := HG.out
            clear HG
            rw [if_pos (.inl rfl)] at hg
            have HG := Lib.hid hg
            clear hg
            obtain ⟨rfl, rfl⟩ := Prod.mk.inj HG.out
            go_wp2_with (fail)
            go_ret2
            exact ⟨rfl, H4.out⟩
          | false =>
            have c2 := off_cell H4.out ho
            have hg := HG.out
            clear HG
            rw [ho] at hg
            have HG := Lib.hid hg
            clear hg
            clear ho
            by_cases k5 : j < 1
            · have hg := HG.out
              clear HG
              rw [if_pos (.inr k5)] at hg
              have HG := Lib.hid hg
              clear hg
              obtain ⟨rfl, rfl⟩ := Prod.mk.inj HG.out
              go_wp2_with (fail)
              go_ret2
              exact ⟨rfl, H4.out⟩
            · have hg := HG.out
              clear HG
              rw [if_neg (fun h => h.elim (fun e => Bool.false_ne_true e) k5)] at hg
              have HG := Lib.hid hg
              clear hg
              by_cases k6 : 1 < j
              · have hg := HG.out
                clear HG
                rw [if_pos k6] at hg
                have HG := Lib.hid hg
                clear hg
                go_wp2_with (fail)
                with_reducible refine (keyAt7_any n j _).mono ?_
                rintro e w4b ⟨rfl, rfl⟩
                have H3 : Hid (RAt F rb w0 s3 w4) := H4
                clear H4
                obtain ⟨v5, s5, g5⟩ := go_ex (readP (keyAtI n j)) s3
                have hg := HG.out
                clear HG
                rw [go_bind, g5] at hg
                have HG := Lib.hid hg
                clear hg
                obtain ⟨b5, d5⟩ := go_okE g5 (readP_ok (keyAt_i64 n j)) d3
                have G5 := Lib.hid g5
                clear g5
                go_wp2_with (fail)
                with_reducible refine (readR_any F rb w0 s3 s5 v5 (keyAtI n j) _ H3.out d3 G5.out).mono ?_
                rintro e w5 ⟨rfl, h5⟩
                have H5 := Lib.hid h5
                clear h5 H3 G5
                by_cases k7 : k < v5
                · have hg := HG.out
                  clear HG
                  rw [if_pos k7] at hg
                  have HG := Lib.hid hg
                  clear hg
                  go_wp2_with (fail)
                  go_loopw [13] (fun iv wr => RDown F rb w0 n k v1 v s' iv wr) (fun iv _ => (intOf iv).toNat)
                  case atStart => unfold RDown; exact ⟨j - 1, _, rfl, by omega, by omega, H5.out, d5, by rw [show (j - 1).toNat + 1 = j.toNat by omega]; exact HG.out⟩
                  case round =>
                    obtain ⟨I, sI, rfl, i0, i1, hI, dI, hgI⟩ := hrel
                    clear H5 HG
                    have HI := Lib.hid hI
                    have HG := Lib.hid hgI
                    clear hI hgI
                    unfold downGo at HG
                    have hg := HG.out
                    clear HG
                    rw [go_chk] at hg
                    have HG := Lib.hid hg
                    clear hg
                    by_cases hlt : 1 < I
                    · cases ho : sI.off with
                      | true =>
                        have c2 := off_cell HI.out ho
                        have hg := HG.out
                        clear HG
                        rw [ho] at hg
                        have HG := Lib.hid hg
                        clear hg
                        clear ho
                        have hg := HG.out
                        clear HG
                        rw [if_neg (fun h => Bool.false_ne_true h.2.symm)] at hg
                        have HG := Lib.hid hg
                        clear hg
                        obtain ⟨rfl, rfl⟩ := Prod.mk.inj HG.out
                        go_wp2_with (fail)
                        go_ret2
                        exact ⟨rfl, HI.out⟩
                      | false =>
                        have c2 := off_cell HI.out ho
                        have hg := HG.out
                        clear HG
                        rw [ho] at hg
                        have HG := Lib.hid hg
                        clear hg
                        clear ho
                        have hg := HG.out
                        clear HG
                        rw [if_pos ⟨hlt, rfl⟩] at hg
                        have HG := Lib.hid hg
                        clear hg
                        go_wp2_with (fail)
                        with_reducible refine (keyAt7_any n I _).mono ?_
                        rintro e w6 ⟨rfl, rfl⟩
                        obtain ⟨vJ, sJ, gJ⟩ := go_ex (readP (keyAtI n I)) sI
                        have hg := HG.out
                        clear HG
                        rw [go_bind, gJ] at hg
                        have HG := Lib.hid hg
                        clear hg
                        obtain ⟨bJ, dJ⟩ := go_okE gJ (readP_ok (keyAt_i64 n I)) dI
                        have GJ := Lib.hid gJ
                        clear gJ
                        go_wp2_with (fail)
                        with_reducible refine (readR_any F rb w0 sI sJ vJ (keyAtI n I) _ HI.out dI GJ.out).mono ?_
                        rintro e wJ ⟨rfl, hJ⟩
                        have HJ := Lib.hid hJ
                        clear hJ HI GJ
                        by_cases kq : vJ ≤ k
                        · have hg := HG.out
                          clear HG
                          rw [if_pos kq] at hg
                          have HG := Lib.hid hg
                          clear hg
                          obtain ⟨rfl, rfl⟩ := Prod.mk.inj HG.out
                          go_wp2_with (fail)
                          go_ret2
                          exact ⟨rfl, HJ.out⟩
                        · have hg := HG.out
                          clear HG
                          rw [if_neg kq] at hg
                          have HG := Lib.hid hg
                          clear hg
                          go_wp2_with (fail)
                          go_roundw
                          case rel => unfold RDown; exact ⟨I - 1, _, rfl, by omega, by omega, HJ.out, dJ, by rw [show (I - 1).toNat + 1 = I.toNat by omega]; exact HG.out⟩
                          case measure => simp [intOf]; omega
                    · have hg := HG.out
                      clear HG
                      rw [if_neg (fun h => hlt h.1)] at hg
                      have HG := Lib.hid hg
                      clear hg
                      obtain ⟨rfl, rfl⟩ := Prod.mk.inj HG.out
                      have c2 := HI.out.off
                      go_wp2_with (fail)
                      go_ret2
                      exact ⟨rfl, HI.out⟩
                · have hg := HG.out
                  clear HG
                  rw [if_neg k7] at hg
                  have HG := Lib.hid hg
                  clear hg
                  go_wp2_with (fail)
                  go_loopw [14] (fun iv wr => RUp F rb w0 n k v1 m v s' iv wr) (fun iv _ => (m - intOf iv).toNat)
                  case atStart => unfold RUp; exact ⟨j + 1, _, _, rfl, by omega, by omega, by omega, H5.out, d5, HG.out⟩
                  case round =>
                    obtain ⟨I, f, sI, rfl, i0, i1, i2, hI, dI, hgI⟩ := hrel
                    clear H5 HG
                    have HI := Lib.hid hI
                    have HG := Lib.hid hgI
                    clear hI hgI
                    by_cases hlt : I < m
                    · obtain ⟨f, rfl⟩ : ∃ g, f = g + 1 := ⟨f - 1, by omega⟩
                      unfold upGo at HG
                      have hg := HG.out
                      clear HG
                      rw [go_chk] at hg
                      have HG := Lib.hid hg
                      clear hg
                      cases ho : sI.off with
                      | true =>
                        have c2 := off_cell HI.out ho
                        have hg := HG.out
                        clear HG
                        rw [ho] at hg
                        have HG := Lib.hid hg
                        clear hg
                        clear ho
                        have hg := HG.out
                        clear HG
                        rw [if_neg (fun h => Bool.false_ne_true h.2.symm)] at hg
                        have HG := Lib.hid hg
                        clear hg
                        obtain ⟨rfl, rfl⟩ := Prod.mk.inj HG.out
                        go_wp2_with (fail)
                        go_ret2
                        exact ⟨rfl, HI.out⟩
                      | false =>
                        have c2 := off_cell HI.out ho
                        have hg := HG.out
                        clear HG
                        rw [ho] at hg
                        have HG := Lib.hid hg
                        clear hg
                        clear ho
                        have hg := HG.out
                        clear HG
                        rw [if_pos ⟨hlt, rfl⟩] at hg
                        have HG := Lib.hid hg
                        clear hg
                        go_wp2_with (fail)
                        with_reducible refine (keyAt7_any n I _).mono ?_
                        rintro e w5 ⟨rfl, rfl⟩
                        obtain ⟨vJ, sJ, gJ⟩ := go_ex (readP (keyAtI n I)) sI
                        have hg := HG.out
                        clear HG
                        rw [go_bind, gJ] at hg
                        have HG := Lib.hid hg
                        clear hg
                        obtain ⟨bJ, dJ⟩ := go_okE gJ (readP_ok (keyAt_i64 n I)) dI
                        have GJ := Lib.hid gJ
                        clear gJ
                        go_wp2_with (fail)
                        with_reducible refine (readR_any F rb w0 sI sJ vJ (keyAtI n I) _ HI.out dI GJ.out).mono ?_
                        rintro e wJ ⟨rfl, hJ⟩
                        have HJ := Lib.hid hJ
                        clear hJ HI GJ
                        by_cases kq : k < vJ
                        · have hg := HG.out
                          clear HG
                          rw [if_pos kq] at hg
                          have HG := Lib.hid hg
                          clear hg
                          obtain ⟨rfl, rfl⟩ := Prod.mk.inj HG.out
                          go_wp2_with (fail)
                          go_ret2
                          exact ⟨rfl, HJ.out⟩
                        · have hg := HG.out
                          clear HG
                          rw [if_neg kq] at hg
                          have HG := Lib.hid hg
                          clear hg
                          go_wp2_with (fail)
                          go_roundw
                          case rel => unfold RUp; exact ⟨I + 1, f, _, rfl, by omega, by omega, by omega, HJ.out, dJ, HG.out⟩
                          case measure => simp [intOf]; omega
                    · have he : (upGo n k v1 m f I).go sI = ((v1, m - 1), sI) := by
                        rcases f with _ | f
                        · rfl
                        · unfold upGo; rw [go_chk, if_neg (fun h => hlt h.1)]; rfl
                      rw [he] at HG
                      obtain ⟨rfl, rfl⟩ := Prod.mk.inj HG.out
                      have c2 := HI.out.off
                      go_wp2_with (fail)
                      go_ret2
                      exact ⟨rfl, HI.out⟩
              · have hg := HG.out
                clear HG
                rw [if_neg k6] at hg
                have HG := Lib.hid hg
                clear hg
                go_wp2_with (fail)
                go_loopw [14] (fun iv wr => RUp F rb w0 n k v1 m v s' iv wr) (fun iv _ => (m - intOf iv).toNat)
                case atStart => unfold RUp; exact ⟨j + 1, _, _, rfl, by omega, by omega, by omega, H4.out, d3, HG.out⟩
                case round =>
                  obtain ⟨I, f, sI, rfl, i0, i1, i2, hI, dI, hgI⟩ := hrel
                  clear H4 HG
                  have HI := Lib.hid hI
                  have HG := Lib.hid hgI
                  clear hI hgI
                  by_cases hlt : I < m
                  · obtain ⟨f, rfl⟩ : ∃ g, f = g + 1 := ⟨f - 1, by omega⟩
                    unfold upGo at HG
                    have hg := HG.out
                    clear HG
                    rw [go_chk] at hg
                    have HG := Lib.hid hg
                    clear hg
                    cases ho : sI.off with
                    | true =>
                      have c2 := off_cell HI.out ho
                      have hg := HG.out
                      clear HG
                      rw [ho] at hg
                      have HG := Lib.hid hg
                      clear hg
                      clear ho
                      have hg := HG.out
                      clear HG
                      rw [if_neg (fun h => Bool.false_ne_true h.2.symm)] at hg
                      have HG := Lib.hid hg
                      clear hg
                      obtain ⟨rfl, rfl⟩ := Prod.mk.inj HG.out
                      go_wp2_with (fail)
                      go_ret2
                      exact ⟨rfl, HI.out⟩
                    | false =>
                      have c2 := off_cell HI.out ho
                      have hg := HG.out
                      clear HG
                      rw [ho] at hg
                      have HG := Lib.hid hg
                      clear hg
                      clear ho
                      have hg := HG.out
                      clear HG
                      rw [if_pos ⟨hlt, rfl⟩] at hg
                      have HG := Lib.hid hg
                      clear hg
                      go_wp2_with (fail)
                      with_reducible refine (keyAt7_any n I _).mono ?_
                      rintro e w5 ⟨rfl, rfl⟩
                      obtain ⟨vJ, sJ, gJ⟩ := go_ex (readP (keyAtI n I)) sI
                      have hg := HG.out
                      clear HG
                      rw [go_bind, gJ] at hg
                      have HG := Lib.hid hg
                      clear hg
                      obtain ⟨bJ, dJ⟩ := go_okE gJ (readP_ok (keyAt_i64 n I)) dI
                      have GJ := Lib.hid gJ
                      clear gJ
                      go_wp2_with (fail)
                      with_reducible refine (readR_any F rb w0 sI sJ vJ (keyAtI n I) _ HI.out dI GJ.out).mono ?_
                      rintro e wJ ⟨rfl, hJ⟩
                      have HJ := Lib.hid hJ
                      clear hJ HI GJ
                      by_cases kq : k < vJ
                      · have hg := HG.out
                        clear HG
                        rw [if_pos kq] at hg
                        have HG := Lib.hid hg
                        clear hg
                        obtain ⟨rfl, rfl⟩ := Prod.mk.inj HG.out
                        go_wp2_with (fail)
                        go_ret2
                        exact ⟨rfl, HJ.out⟩
                      · have hg := HG.out
                        clear HG
                        rw [if_neg kq] at hg
                        have HG := Lib.hid hg
                        clear hg
                        go_wp2_with (fail)
                        go_roundw
                        case rel => unfold RUp; exact ⟨I + 1, f, _, rfl, by omega, by omega, by omega, HJ.out, dJ, HG.out⟩
                        case measure => simp [intOf]; omega
                  · have he : (upGo n k v1 m f I).go sI = ((v1, m - 1), sI) := by
                      rcases f with _ | f
                      · rfl
                      · unfold upGo; rw [go_chk, if_neg (fun h => hlt h.1)]; rfl
                    rw [he] at HG
                    obtain ⟨rfl, rfl⟩ := Prod.mk.inj HG.out
                    have c2 := HI.out.off
                    go_wp2_with (fail)
                    go_ret2
                    exact ⟨rfl, HI.out⟩
set_option maxHeartbeats 400000 in
theorem childR_any (s0 s' : RunS) (v : Int) (n k : Int) (w : World) (h : RAt F rb w0 s0 w) (d0 : s0.Bd) (hg : (childP n k).go s0 = (v, s')) (hn : i64B n) (hk : i64B k) :
    Calls Tryz.prog 233 #[.pointer (some ⟨rb, 0, none⟩), .int .i64 n, .int .i64 k] w fun e w' => e = .returned (.int .i64 v) ∧ RAt F rb w0 s' w' := by
  unfold childP at hg
  obtain ⟨v1, s1, g1⟩ := go_ex (routeP n k) s0
  rw [go_bind, g1] at hg
  obtain ⟨rfl, rfl⟩ := Prod.mk.inj hg
  have H0 := Lib.hid h
  have G1 := Lib.hid g1
  clear h g1
  clear hg
  go_enter Tryz.func233, Tryz.ntmps233
  go_wp2_with (fail)
  with_reducible refine (routeR_any F rb w0 s0 s1 v1 n k _ H0.out d0 G1.out hn hk).mono ?_
  rintro e w1 ⟨rfl, h1⟩
  have H1 := Lib.hid h1
  clear h1
  go_wp2_with (fail)
  with_reducible refine (childAt7_any n v1.1 v1.2 _).mono ?_
  rintro e w2 ⟨rfl, rfl⟩
  go_wp2_with (fail)
  go_ret
  exact ⟨rfl, H1.out⟩
end
end Go.Proofs.YtblajeildolloaaGreat
