/- The walk of SeekFew. -/
import Derived.Test.YtblajeildolloaaSeekK
import Derived.Test.YtblajeildolloaaFewM
import Derived.Test.YtblajeildolloaaCut
import Derived.Test.YtblajeildolloaaPartD
import Derived.Test.YtblajeildolloaaLayBd
import Derived.OpenShut
namespace Go.Proofs.Ytblajeildolloaa
set_option linter.unusedVariables false
set_option linter.unusedSimpArgs false
open Go.RowKit

def fewL (a s : Int) (n : Nat) : List (Int × Int) := (List.range n).map fun (i : Nat) => (a + s * (i : Int), (i : Int))
theorem fewL_len (a s : Int) (n : Nat) : (fewL a s n).length = n := by simp [fewL]
theorem fewL_at {a s : Int} {n i : Nat} (h : i < n) : pkey (fewL a s n) i = a + s * i ∧ pval (fewL a s n) i = i := by
  have e : (fewL a s n).getD i (0, 0) = (a + s * (i : Int), (i : Int)) := by
    rw [List.getD_eq_getElem?_getD]; simp [fewL, h]
  unfold pkey pval
  rw [e]
  exact ⟨rfl, rfl⟩
theorem fewL_succ (a s : Int) (n : Nat) : fewL a s (n + 1) = fewL a s n ++ [(a + s * (n : Int), (n : Int))] := by simp [fewL, List.range_succ]
theorem fewL_asc {a s : Int} (hs : 1 ≤ s) (n : Nat) : ∀ i j, i < j → j < (fewL a s n).length → pkey (fewL a s n) i < pkey (fewL a s n) j := fun i j hij hj => by
  rw [fewL_len] at hj
  rw [(fewL_at (by omega)).1, (fewL_at hj).1]
  have := Int.mul_lt_mul_of_pos_left (show (i : Int) < j by omega) (show 0 < s by omega)
  omega

theorem stepN_it (R : Int → Int) : ∀ (t : Nat) (s : SS), SS.stepN R s (t + 1) = (SS.stepN R s t).step R
  | 0, s => rfl
  | t + 1, s => by
    show SS.stepN R (s.step R) (t + 1) = _
    rw [stepN_it R t]; rfl
theorem stepN_inv {R : Int → Int} {s : SS} (hR : ∀ a, -9223372036854775808 ≤ R a ∧ R a ≤ 9223372036854775807) (h : s.Inv) : ∀ t, (SS.stepN R s t).Inv
  | 0 => h
  | t + 1 => by rw [stepN_it]; exact (stepN_inv hR h t).step hR
theorem few_bound : ∀ n : Fin 152, 4 + depthI ((n : Nat) : Int) * (degreeI ((n : Nat) : Int) + 1) ≤ 300 := by decide +kernel
structure FewS (key val n : Int) (M : List Int) (S : Nat) (st : Nat → SS) : Prop where
  zero : st 0 = SS.init key
  step : ∀ t, (st t).step (rdC M) = st (t + 1)
  inv : ∀ t, (st t).Inv
  going : ∀ t, t < S → (st t).next ≠ 5
  done : (st S).next = 5
  there : (st S).there = true
  value : (st S).value = val
  few : (S : Int) ≤ 4 + depthI n * (degreeI n + 1)
  less : S ≤ 300
  pos : 0 < S
theorem mul_few {s : Int} {j : Nat} (s0 : 1 ≤ s) (s1 : s ≤ 1000) (hj : j ≤ 151) : 0 ≤ s * (j : Int) ∧ s * (j : Int) ≤ 151000 :=
  ⟨Int.mul_nonneg (by omega) (by omega), by have := Int.mul_le_mul (a := s) (b := (j : Int)) (c := 1000) (d := 151) s1 (by omega) (by omega) (by omega); omega⟩
theorem few_law {a s : Int} {N i : Nat} (a0 : 0 ≤ a) (a1 : a < 100000) (s0 : 1 ≤ s) (s1 : s ≤ 1000) (n0 : 2 ≤ N) (n1 : N ≤ 151) (hi : i < N) {l : List (Int × Int)} (hl : fewL a s N = l) {M : List Int}
    (hM : wrC (layF (l.length + 1) beginL l).1 6 (layF (l.length + 1) beginL l).2 = M) :
    M.length ≤ 65536 ∧ (∀ x ∈ M, -9223372036854775808 ≤ x ∧ x ≤ 9223372036854775807) ∧ ∃ S st, FewS (a + s * (i : Int)) i N M S st := by
  have hlen : l.length = N := by rw [← hl, fewL_len]
  have hpb : PB l := fun p hp => by
    rw [← hl] at hp
    unfold fewL at hp
    obtain ⟨j, hj, rfl⟩ := List.mem_map.1 hp
    have hj := List.mem_range.1 hj
    have := mul_few s0 s1 (j := j) (by omega)
    unfold bdI
    simp only
    omega
  have hc := lay_cells (l.length + 1) beginL l (by omega) (by omega)
  have hcb := cellsI_in (n := (l.length : Int)) (by omega) (by omega)
  have hb7 : beginL.length = 7 := rfl
  have hword := layF_word (l.length + 1) beginL l
  have hbd := layF_bd (l.length + 1) beginL l (show ∀ x ∈ beginL, -9223372036854775808 ≤ x ∧ x ≤ 9223372036854775807 by decide) hpb (by omega)
  obtain ⟨X, hX⟩ := layF_pre (l.length + 1) beginL l
  have hasc := fewL_asc (a := a) s0 N
  rw [hl] at hasc
  have hat := fewL_at (a := a) (s := s) hi
  rw [hl] at hat
  have hfb := few_bound ⟨N, by omega⟩
  simp only at hfb
  have hft : ∀ R : Int → Int, (∀ a : Int, 7 < a → a ≤ (layF (l.length + 1) beginL l).1.length → R a = rdC (layF (l.length + 1) beginL l).1 a) → R 1 = 1 → R 6 = (layF (l.length + 1) beginL l).2 → _ := fun R h1 h2 h3 => few_top (R := R) l (by omega) (by omega) hasc (by omega) h1 h2 h3 i (by omega)
  generalize (layF (l.length + 1) beginL l).1 = C at *
  generalize (layF (l.length + 1) beginL l).2 = wd at *
  have hMb : ∀ x ∈ M, -9223372036854775808 ≤ x ∧ x ≤ 9223372036854775807 := by rw [← hM]; exact wrC_bd hbd (by omega) (by omega)
  have hML : M.length = C.length := by rw [← hM, wrC_len]
  refine ⟨by omega, hMb, ?_⟩
  obtain ⟨t, s', g1, g2, g3, g4⟩ := hft (rdC M) (fun b b1 b2 => by
      obtain ⟨b', rfl⟩ : ∃ b' : Nat, b = b' := ⟨b.toNat, by omega⟩
      rw [← hM]
      exact rdC_wr_ne (a := 6) (b := b') (by omega) (by omega) (by omega) (by omega))
    (by
      have e1 : rdC (wrC C 6 wd) 1 = rdC C 1 := rdC_wr_ne (a := 6) (b := 1) (by omega) (by omega) (by omega) (by omega)
      rw [← hM, e1, hX]; exact rdC_pre (a := 1) (by omega) (by omega))
    (by rw [← hM]; exact rdC_wr (a := 6) (by omega) (by omega))
  obtain ⟨e1, e2, e3⟩ := g1.it
  rw [hat.1] at e1 e3 g1
  rw [hlen] at g4
  refine ⟨t, SS.stepN (rdC M) (SS.init (a + s * (i : Int))), rfl, fun t => (stepN_it _ t _).symm, stepN_inv (rdC_bd (bd_of hMb)) (SS.Inv.init (by have := mul_few s0 s1 (j := i) (by omega); omega) (by have := mul_few s0 s1 (j := i) (by omega); omega)), e1, by rw [e3]; exact e2, by rw [e3]; exact g3, by rw [e3, g2]; exact hat.2, g4, by omega, ?_⟩
  rcases t with _ | t
  · rw [← e3] at e2
    exact absurd e2 (by simp [SS.stepN, SS.init])
  · omega
/-- A list of one's own: where it lies. -/
theorem few_own {L : List (Int × Int)} {w : World} {base : Nat} {et : TypeId} {v : Value} {n : Nat} (h : w.ownsRow base et 2 v n (cellsP L)) : ∃ A c, v = .slice A L.length c ∧ n = L.length ∧ L.length ≤ c ∧ PairsAt w w.heap.size A L ∧ ∀ ad, A = some ad → ad.block < w.heap.size := by
  have hn : n = L.length := by have := h.1; rw [cellsP_len] at this; omega
  subst hn
  have hr := h.2
  rcases h.2 with ⟨rfl, h0⟩ | ⟨g, cap, cur, rfl, _, hg, hle, _⟩
  · have : L = [] := List.eq_nil_of_length_eq_zero h0
    subst this
    exact ⟨none, 0, rfl, rfl, Nat.le_refl _, Reads.none_, fun ad ha => by cases ha⟩
  · exact ⟨_, cap, rfl, rfl, hle, Reads.of_own h, fun ad ha => by injection ha with ha; subst ha; exact h.lt g rfl |>.2⟩
theorem fewL_ascP {a s : Int} (hs : 1 ≤ s) (n : Nat) : AscP (fewL a s n) := fun i hi => fewL_asc hs n i (i + 1) (by omega) (by omega)
def FewRel (a s : Int) (N : Nat) (w : World) (v iv : Value) (wr : World) : Prop := ∃ j : Nat, j ≤ N ∧ iv = .int .i64 j ∧ wr.ownsRow w.heap.size 25 2 v j (cellsP (fewL a s j)) ∧ Below w.heap.size w wr
theorem cells2_any (w : World) (t : TypeId) (a b : Value) : ∀ j u, [a, b][j]? = some u → (w.alloc (.cells #[a, b] t)).cell? ((⟨w.heap.size, 0, none⟩ : Addr).add j) = some u := fun j u hu => by
  have e : (⟨w.heap.size, 0, none⟩ : Addr).add j = ⟨w.heap.size, j, none⟩ := by unfold Addr.add; split <;> simp_all
  rw [e, (Blk.new w t #[a, b]).cell j]
  simpa using hu
theorem fewL_cells (a s : Int) (j : Nat) : cellsP (fewL a s (j + 1)) = cellsP (fewL a s j) ++ [.int .i64 (a + s * (j : Int)), .int .i64 j] := by rw [fewL_succ, cellsP_append]; rfl
def KFew (b fb lo : Nat) (M : List Int) (S : Nat) (st : Nat → SS) (w0 : World) (nv : Value) (wr : World) : Prop := ∃ t : Nat, t < S ∧ nv = .int .i64 (1 + (t : Int)) ∧ lo ≤ wr.heap.size ∧ SeekP (fun x => lo ≤ x) fb (st t) wr ∧ MemC b M 3000 wr ∧ Below b w0 wr
set_option maxRecDepth 100000 in
set_option maxHeartbeats 4000000 in
theorem seekFew_go (n fr by_ k : Int) (hn0 : -9223372036854775808 ≤ n) (hn1 : n ≤ 9223372036854775807) (hf0 : -9223372036854775808 ≤ fr) (hf1 : fr ≤ 9223372036854775807) (hb0 : -9223372036854775808 ≤ by_) (hb1 : by_ ≤ 9223372036854775807) (hk0 : -9223372036854775808 ≤ k) (hk1 : k ≤ 9223372036854775807) (w : World) :
    Calls Try.prog 3 #[.int .i64 n, .int .i64 fr, .int .i64 by_, .int .i64 k] w fun e w' => e = .returned (.bool true) ∧ Below w.heap.size w w' := by
  obtain ⟨i0, hi0, hz0, hz1, hz2⟩ := info_parts info_pair
  go_enter Try.func3, Try.ntmps3
  go_wp2_with (fail)
  with_reducible refine (cut_any n 150 _ hn0 hn1 (by decide) (by decide)).mono ?_
  rintro e w1 ⟨rfl, rfl⟩
  obtain ⟨x0, x1⟩ := cut_bd n 150 (by decide)
  generalize n % 150 = x at x0 x1 ⊢
  obtain ⟨m, rfl⟩ : ∃ m : Nat, x = m := ⟨x.toNat, by omega⟩
  go_wp2_with (fail)
  with_reducible refine (cut_any by_ 1000 _ hb0 hb1 (by decide) (by decide)).mono ?_
  rintro e w1 ⟨rfl, rfl⟩
  obtain ⟨y0, y1⟩ := cut_bd by_ 1000 (by decide)
  generalize by_ % 1000 = y at y0 y1 ⊢
  go_wp2_with (fail)
  with_reducible refine (cut_any fr 100000 _ hf0 hf1 (by decide) (by decide)).mono ?_
  rintro e w1 ⟨rfl, rfl⟩
  obtain ⟨a0, a1⟩ := cut_bd fr 100000 (by decide)
  generalize fr % 100000 = a at a0 a1 ⊢
  have hm150 : m < 150 := by omega
  go_wp2_with (fail)
  go_loopw [11, 12] (fun v i wr => FewRel a (1 + y) (2 + m) w v i wr) (fun _ i _ => 2 + m - (intOf i).toNat)
  case atStart => unfold FewRel; exact ⟨0, by omega, rfl, World.ownsRow_nil _ _ _ _, Below.refl _ _⟩
  case round =>
    obtain ⟨j, j1, rfl, hown, hB⟩ := hrel
    by_cases hlt : j < 2 + m
    · have hlt' : (j : Int) < 2 + (m : Int) := by omega
      obtain ⟨q0, q1⟩ := mul_few (s := 1 + y) (j := j) (by omega) (by omega) (by omega)
      have hjr : (fewL a (1 + y) j).length ≤ 1000000 := by rw [fewL_len]; omega
      have HC := Lib.hid (fewL_cells a (1 + y) j)
      have hb1 := hB.alloc hB.size (.cells #[.int .i64 (a + (1 + y) * (j : Int)), .int .i64 j] 25)
      have HB1 := Lib.hid hb1
      have hzz : w.heap.size ≤ (wr.alloc (.cells #[.int .i64 (a + (1 + y) * (j : Int)), .int .i64 j] 25)).heap.size := hb1.size
      have HN := Lib.hid (cells2_any wr 25 (.int .i64 (a + (1 + y) * (j : Int))) (.int .i64 j))
      have HOA := Lib.hid (hown.alloc (.cells #[.int .i64 (a + (1 + y) * (j : Int)), .int .i64 j] 25))
      have HO := Lib.hid hown
      clear hb1 hown hB
      generalize hQ : (1 + y) * (j : Int) = Q at *
      go_wp2_with (at_builtin; refine wpList_append_own _ rfl _ _ 23 rfl w.heap.size 25 i0 (.agg #[.int .i64 0, .int .i64 0]) 2 16 Try.underlying23 hi0 hz0 hz1 hz2 rfl (by decide) _ _ _ rfl HOA.out ⟨wr.heap.size, 0, none⟩ 1 1 [.int .i64 (a + Q), .int .i64 j] rfl rfl HN.out (by simp [Value.oneCell']) (by unfold maxLen; omega) (by omega) hzz ?_; intro v' w1 hown' hgrow _; have HBN := Lib.hid (HB1.out.grown hgrow hzz (fun g hg => (HO.out.lt g hg).1)); have HON := Lib.hid hown'; clear hown' hgrow)
      go_roundw
      case rel => unfold FewRel; exact ⟨j + 1, by omega, by go_num, by rw [HC.out]; exact HON.out, HBN.out⟩
      case measure => simp [intOf]; omega
    · have e : j = 2 + m := by omega
      subst e
      have hnlt : ¬ ((2 + m : Nat) : Int) < 2 + (m : Int) := by omega
      obtain ⟨A, c, rfl, hjl, hc, hq, hA⟩ := few_own hown
      clear hjl
      have hLn := fewL_len a (1 + y) (2 + m)
      have hasc := fewL_ascP (a := a) (s := 1 + y) (by omega) (2 + m)
      obtain ⟨L, hL⟩ : ∃ L, fewL a (1 + y) (2 + m) = L := ⟨_, rfl⟩
      rw [hL] at hc hq hLn hasc ⊢
      have hl1 : L.length ≤ 16384 := by omega
      have hcb := cellsI_in (n := (L.length : Int)) (by omega) (by omega)
      have hroom : (beginL.length : Int) + cellsI L.length ≤ 3000 := by have : beginL.length = 7 := rfl; omega
      have HLE := Lib.hid hL
      have HLN := Lib.hid hLn
      have HASC := Lib.hid hasc
      have HQ := Lib.hid hq
      have HA := Lib.hid hA
      have HR := Lib.hid hroom
      have HB0 := Lib.hid hB
      clear hL hLn hasc hq hA hroom hB
      clear hnlt hcb hown
      go_wp2_with (fail)
      with_reducible refine (memNew_any 3000 _ (by decide) (by decide)).mono ?_
      rintro e w1 ⟨rfl, hm, hb⟩
      have hB1 := hb
      have HM := Lib.hid hm
      clear hm hb
      obtain ⟨b, hbe⟩ : ∃ b, wr.heap.size = b := ⟨_, rfl⟩
      rw [hbe] at HM hB1 ⊢
      go_wp2_with (fail)
      with_reducible refine (begin_any b b 3000 0 0 0 _ HM.out (by decide) (by decide)).mono ?_
      rintro e w2 ⟨rfl, v, hm, ho, _⟩
      have hz2 : b < w2.heap.size := by have := hB1.size; have := ho.size; have := HM.out.blk.lt; omega
      have hB2 := hB1.trans (ho.below (B := b) (by simp) (by have := HM.out.blk.lt; omega))
      have HM2 : Hid (MemP b b v beginL 3000 2 0 0 w2) := Lib.hid (by rw [show bump (bump 0) = 2 from by kernel_rfl] at hm; exact hm)
      clear hm ho HM hB1
      have hsz : wr.heap.size ≤ w2.heap.size := by omega
      have hqb : PairsAt wr b A L := by rw [← hbe]; exact HQ.out
      have hq2 : PairsAt w2 w2.heap.size A L := (hqb.below hB2).more (by omega)
      have hap : Apart A b v := fun ad ha hx => by
        have := HA.out ad ha
        rcases hx with h | h
        · omega
        · have := (HM2.out.own.lt _ h).1; omega
      have HQ2 := Lib.hid hq2
      have HAP := Lib.hid hap
      clear hq2 hap
      clear HQ
      have HQ := Lib.hid hqb
      clear hqb
      go_wp2_with (fail)
      with_reducible refine (build_any b b v beginL 3000 2 0 0 A c L.length L _ rfl (by decide) HM2.out HQ2.out hl1 hc HASC.out HAP.out HR.out).mono ?_
      rintro e w4 ⟨rfl, v4, c4, hm, hc4, _⟩
      have hB4 := hB2.trans (HM2.out.low hc4)
      have HC4 : Hid (MemC b (layF (L.length + 1) beginL L).1 3000 w4) := Lib.hid ⟨_, _, _, hm⟩
      have hz4 : b < w4.heap.size := by have := hc4.size; omega
      have hClen := lay_cells (L.length + 1) beginL L (by omega) hl1
      have hcb := cellsI_in (n := (L.length : Int)) (by have := HLN.out; omega) (by omega)
      have hCl : (layF (L.length + 1) beginL L).1.length ≤ 1000000 := by have : beginL.length = 7 := rfl; omega
      clear hm hc4 HQ2 HM2 hB2 hClen hcb hsz
      go_wp2_with (fail)
      with_reducible refine (writeC_any b _ 3000 6 _ _ HC4.out hCl (by decide) (by decide)).mono ?_
      rintro e w5 ⟨rfl, hC, hb⟩
      have hB5 := hB4.trans hb
      have hz5 : b < w5.heap.size := by have := hb.size; omega
      clear HC4 hB4 hCl hz4
      obtain ⟨M, hM⟩ : ∃ M, wrC (layF (L.length + 1) beginL L).1 6 (layF (L.length + 1) beginL L).2 = M := ⟨_, rfl⟩
      rw [hM] at hC
      have HC5 := Lib.hid hC
      have HME := Lib.hid hM
      clear hC hM
      clear hb
      go_wp2_with (fail)
      with_reducible refine (cut_any k (2 + m) _ hk0 hk1 (by omega) (by omega)).mono ?_
      rintro e w6 ⟨rfl, rfl⟩
      obtain ⟨i0', i1'⟩ := cut_bd k (2 + m) (by omega)
      generalize k % (2 + (m : Int)) = z at i0' i1' ⊢
      obtain ⟨i, rfl⟩ : ∃ i : Nat, z = i := ⟨z.toNat, by omega⟩
      have hin : i < 2 + m := by omega
      obtain ⟨hML, hMb, S, st, hst⟩ := few_law (a := a) (s := 1 + y) (N := 2 + m) (i := i) a0 a1 (by omega) (by omega) (by omega) (by omega) hin HLE.out HME.out
      have hat := (fewL_at (a := a) (s := 1 + y) hin).1
      rw [HLE.out] at hat
      have hil : i < L.length := by rw [HLN.out]; exact hin
      have hil' : (i : Int) < (L.length : Int) := by omega
      obtain ⟨ad, rfl, _, hkk⟩ := PairsAt.key (HQ.out.below hB5) (by omega)
      have k1 := hkk i hil
      clear hkk
      rw [hat] at k1
      have hS6 := hst.pos
      have hS5 := hst.less
      have hSf := hst.few
      obtain ⟨q0, q1⟩ := mul_few (s := 1 + y) (j := i) (by omega) (by omega) (by omega)
      have HST := Lib.hid hst
      have HBD := Lib.hid hMb
      clear hst hMb
      clear hat HME HLE
      generalize hQe : (1 + y) * (i : Int) = Q at *
      clear hQe
      go_wp2_with (fail)
      with_reducible refine (newS_any (a + Q) _).mono ?_
      rintro e w7 ⟨rfl, hs, hb⟩
      have hb5 : b ≤ w5.heap.size := by omega
      have HC7 := Lib.hid (HC5.out.below hb)
      have HS7 : Hid (SeekP (fun x => w5.heap.size ≤ x) w5.heap.size (st 0) w7) := Lib.hid (by rw [HST.out.zero]; exact hs)
      have hB7 := hB5.trans (hb.mono hb5)
      have hz7 := hb.size
      clear hs hb hB5 HC5 hz5
      generalize w5.heap.size = lo at HS7 hz7 hb5 ⊢
      go_wp2_with (fail)
      go_loopw [19] (fun nv wz => KFew b lo lo M S st wr nv wz) (fun nv _ => 500 - (intOf nv).toNat)
      case atStart => unfold KFew; exact ⟨0, hS6, rfl, hz7, HS7.out, HC7.out, hB7⟩
      case round =>
        obtain ⟨t, t1, rfl, hlw, hS, hC, hB⟩ := hrel
        clear HC7 HS7 hB7 hz7
        have HC := Lib.hid hC
        have HS := Lib.hid hS
        have ht60 : 1 + (t : Int) < 400 := by omega
        clear hC hS
        go_wp2_with (fail)
        with_reducible refine (stepC_any b lo lo M 3000 (st t) _ HS.out HC.out (HST.out.inv t) (by omega) hlw (by omega) HBD.out).mono ?_
        rintro e w8 ⟨rfl, hs, hc, hb⟩
        rw [HST.out.step t] at hs ⊢
        have HS8 := Lib.hid hs
        have HC8 := Lib.hid hc
        have hB8 := hB.trans hb
        have hz8 : lo ≤ w8.heap.size := Nat.le_trans hlw hb.size
        clear hs hc hb HS HC hB hlw
        by_cases hlast : t + 1 < S
        · have e5 : ((st (t + 1)).next == 5) = false := by simpa using HST.out.going (t + 1) hlast
          rw [e5]
          clear e5
          go_wp2_with (fail)
          go_roundw
          case rel => unfold KFew; exact ⟨t + 1, hlast, by go_num, hz8, HS8.out, HC8.out, hB8⟩
          case measure => simp [intOf]; omega
        · have et : S = t + 1 := by omega
          subst et
          have e5 : ((st (t + 1)).next == 5) = true := by simpa using HST.out.done
          rw [e5]
          clear e5 hlast t1 hS5 hS6
          go_wp2_with (fail)
          with_reducible refine (valueS_any _ _ _ _ HS8.out).mono ?_
          rintro e w9 ⟨rfl, hd⟩
          rw [HST.out.there, HST.out.value]
          have hB9 := hB8.trans (drawn_bl hd _)
          clear hd HS8 hB8 HC8
          go_wp2_with (fail)
          with_reducible refine (known16_any _).mono ?_
          rintro e w10 ⟨rfl, hb⟩
          have hB10 := hB9.trans (hb.mono (by have := hB9.size; have := hbe; omega))
          have HBB := Lib.hid (HB0.out.trans (hB10.mono (by rw [← hbe]; exact HB0.out.size)))
          have hfb := few_bound ⟨2 + m, by omega⟩
          have hpd := depthI_nonneg ((2 + m : Nat) : Int)
          have hdg := degreeI_le ((2 + m : Nat) : Int)
          have hdg0 := degreeI_nonneg ((2 + m : Nat) : Int)
          simp only at hfb
          rw [show ((2 + m : Nat) : Int) = 2 + (m : Int) by omega] at hfb hSf hpd hdg hdg0
          clear hB9 hB10 hb hz8
          go_wp2_with (fail)
          with_reducible refine (pDepth_any (2 + (m : Int)) _ (by omega) (by omega)).mono ?_
          rintro e w11 ⟨rfl, hd⟩
          have HBC := Lib.hid (HBB.out.trans (drawn_bl hd _))
          clear hd HBB
          go_wp2_with (fail)
          with_reducible refine (pDegree_any (2 + (m : Int)) _ (by omega) (by omega)).mono ?_
          rintro e w12 ⟨rfl, rfl⟩
          generalize depthI (2 + (m : Int)) = dd at hfb hSf hpd ⊢
          generalize degreeI (2 + (m : Int)) = gg at hfb hSf hdg hdg0 ⊢
          have hpp : 0 ≤ dd * (gg + 1) := Int.mul_nonneg hpd (by omega)
          have hdd : dd ≤ 300 := by
            have := Int.mul_le_mul (a := dd) (b := 1) (c := dd) (d := gg + 1) (Int.le_refl _) (by omega) (by omega) hpd
            omega
          have e9 : decide (1 + (t : Int) ≤ wrap64 (4 + wrap64 (dd * (gg + 1)))) = true := decide_eq_true (by
            generalize dd * (gg + 1) = pp at hfb hSf hpp ⊢
            unfold wrap64; omega)
          have HE9 := Lib.hid e9
          clear e9 hfb hSf hpp
          go_wp2_with (fail)
          go_ret
          refine ⟨?_, HBC.out⟩
          show Ending.returned (.bool (decide (1 + (t : Int) ≤ wrap64 (4 + wrap64 (dd * (gg + 1)))))) = _
          rw [HE9.out]
theorem wf_i64 {n : Int} (h : (Lit.int .i64 n).wf = true) : -9223372036854775808 ≤ n ∧ n ≤ 9223372036854775807 := Go.bounds_i64 h
theorem seekFew_walk (n fr by_ k : Int) (w0 : (Lit.int .i64 n).wf = true) (w1 : (Lit.int .i64 fr).wf = true) (w2 : (Lit.int .i64 by_).wf = true) (w3 : (Lit.int .i64 k).wf = true) (w : World) :
    Calls Try.prog 3 #[.int .i64 n, .int .i64 fr, .int .i64 by_, .int .i64 k] w fun e w' => e = .returned (.bool true) ∧ Below w.heap.size w w' :=
  seekFew_go n fr by_ k (wf_i64 w0).1 (wf_i64 w0).2 (wf_i64 w1).1 (wf_i64 w1).2 (wf_i64 w2).1 (wf_i64 w2).2 (wf_i64 w3).1 (wf_i64 w3).2 w
end Go.Proofs.Ytblajeildolloaa
