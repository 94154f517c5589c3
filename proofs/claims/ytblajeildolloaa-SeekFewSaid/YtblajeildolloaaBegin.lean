/- New, Count, Odd, Used, Size; InnerWords, EmptyWords, Begin. -/
import Derived.Test.YtblajeildolloaaMake
import Derived.Test.YtblajeildolloaaNode
namespace Go.Proofs.Ytblajeildolloaa
set_option linter.unusedVariables false
set_option linter.unusedSimpArgs false
open Go.RowKit

theorem Only.grow {S T : List Nat} {w w1 w2 : World} (h : Only S w w1) (k : Only T w1 w2) (hT : ∀ x ∈ T, x ∈ S ∨ w.heap.size ≤ x) : Only S w w2 :=
  ⟨k.os.trans h.os, k.tape.trans h.tape, k.output.trans h.output, Nat.le_trans h.size k.size, fun i hi h1 => (k.block i (Nat.lt_of_lt_of_le hi h.size) (fun hm => by
    rcases hT i hm with h2 | h2
    · exact h1 h2
    · omega)).trans (h.block i hi h1)⟩
theorem own_base {w : World} {base base' n : Nat} {e : TypeId} {size : Nat} {v : Value} {xs : List Value} (h : w.ownsRow base e size v n xs) (hb : base' ≤ base) : w.ownsRow base' e size v n xs := by
  refine ⟨h.1, ?_⟩
  rcases h.2 with h0 | ⟨g, cap, cur, rfl, hg, rest⟩
  · exact .inl h0
  · exact .inr ⟨g, cap, cur, rfl, Nat.le_trans hb hg, rest⟩
theorem IntsAt.nil (w : World) (B : Nat) : IntsAt w B none [] := Reads.none_
theorem RowsAt.at_ {w : World} {B B' : Nat} {A : Option Addr} {R : List (Option Addr × Nat × List Int)} (h : RowsAt w B A R) (hb : B' = B) : RowsAt w B' A R := hb ▸ h
set_option maxHeartbeats 400000 in
theorem memNew_any (n : Int) (w : World) (h0 : 1 ≤ n) (h1 : n ≤ 65536) :
    Calls Try.prog 5 #[.int .i64 n] w fun e w' => e = .returned (.tuple #[.pointer (some ⟨w.heap.size, 0, none⟩), .int .i64 0]) ∧ MemP w.heap.size w.heap.size (.slice none 0 0) [] n 0 0 0 w' ∧ Below w.heap.size w w' := by
  have H : Hid (MemP w.heap.size w.heap.size (.slice none 0 0) [] n 0 0 0 (w.alloc (.cells #[.slice none 0 0, .int .i64 n, .int .i64 0, .int .i64 0, .int .i64 0] 42))) := Lib.hid ⟨Blk.new w _ _, World.ownsRow_nil _ _ _ _, Nat.le_refl _⟩
  go_enter Try.func5, Try.ntmps5
  go_wp2_with (fail)
  go_ret2
  exact ⟨rfl, H.out, (Below.refl _ _).alloc (Nat.le_refl _) _⟩
section
variable (B b : Nat) (v : Value) (C : List Int) (size count odd ref : Int) (w : World) (h : MemP B b v C size count odd ref w)
set_option maxHeartbeats 400000 in
include h in
theorem used_any : Calls Try.prog 15 #[.pointer (some ⟨b, 0, none⟩)] w fun e w' => e = .returned (.int .i64 C.length) ∧ w = w' := by
  obtain ⟨A, c, rfl⟩ := own_shape h.own
  have c2 : w.cell? ⟨b, 0, none⟩ = some (.slice A C.length c) := h.blk.cell 0
  clear h
  go_enter Try.func15, Try.ntmps15
  go_wp2_with (fail)
  go_ret
  exact ⟨rfl, rfl⟩
set_option maxHeartbeats 400000 in
include h in
theorem size_any : Calls Try.prog 16 #[.pointer (some ⟨b, 0, none⟩)] w fun e w' => e = .returned (.int .i64 size) ∧ w = w' := by
  have c2 : w.cell? ⟨b, 1, none⟩ = some (.int .i64 size) := h.blk.cell 1
  clear h
  go_enter Try.func16, Try.ntmps16
  go_wp2_with (fail)
  go_ret
  exact ⟨rfl, rfl⟩
end
/-- A slice's place as read later: what a slice of whole numbers comes to. -/
theorem SomeOwn.later {L : List Int} {w w' : World} {e : Ending} (h : SomeOwn L w e w') : ∃ A c, e = .returned (.slice A L.length c) ∧ IntsAt w' w'.heap.size A L ∧ Below w.heap.size w w' ∧ ∀ ad, A = some ad → w.heap.size ≤ ad.block := by
  obtain ⟨v, rfl, hO, hb⟩ := h
  obtain ⟨A, c, rfl⟩ := own_shape hO
  refine ⟨A, c, rfl, Reads.of_own hO, hb, fun ad ha => ?_⟩
  subst ha
  exact (hO.lt ad.block rfl).1
set_option maxRecDepth 100000 in
set_option maxHeartbeats 1000000 in
theorem innerW_any (n : Int) (Aq : Option Addr) (cq : Nat) (q : List Int) (Ac : Option Addr) (cc : Nat) (ch : List Int) (Nq Nc : Nat) (w : World) (hNq : Nq = q.length) (hNc : Nc = ch.length) (hq : IntsAt w w.heap.size Aq q) (hc : IntsAt w w.heap.size Ac ch) (hl : ch.length = q.length + 1) (hq2 : q.length ≤ 100000) :
    Calls Try.prog 18 #[.int .i64 n, .slice Aq Nq cq, .slice Ac Nc cc] w (SomeOwn ([(ch.length : Int), n, 0, 0, 0] ++ q ++ ch) w) := by
  subst hNq hNc
  have e0 : ((ch.length : Int) != (q.length : Int) + 1) = false := by rw [hl]; simp
  have hl2 : ch.length ≤ 100001 := by omega
  have hsz1 : (w.alloc (.cells #[.int .i64 ch.length, .int .i64 n, .int .i64 0, .int .i64 0, .int .i64 0] 2)).heap.size = w.heap.size + 1 := by simp
  have hrows : RowsAt ((w.alloc (.cells #[.int .i64 ch.length, .int .i64 n, .int .i64 0, .int .i64 0, .int .i64 0] 2)).alloc (.cells #[.slice (some ⟨w.heap.size, 0, none⟩) 5 5, .slice Aq q.length cq, .slice Ac ch.length cc] 40)) (w.heap.size + 1 + 1) (some ⟨w.heap.size + 1, 0, none⟩) [(some ⟨w.heap.size, 0, none⟩, 5, [(ch.length : Int), n, 0, 0, 0]), (Aq, cq, q), (Ac, cc, ch)] := by
    refine ⟨⟨rfl, fun _ => ⟨_, rfl, by simp, fun j u hu => ?_⟩⟩, ?_⟩
    · have e : (⟨w.heap.size + 1, 0, none⟩ : Addr).add j = ⟨w.heap.size + 1, j, none⟩ := by unfold Addr.add; split <;> simp_all
      rw [e]
      have := (Blk.new (w.alloc (.cells #[.int .i64 ch.length, .int .i64 n, .int .i64 0, .int .i64 0, .int .i64 0] 2)) 40 #[.slice (some ⟨w.heap.size, 0, none⟩) 5 5, .slice Aq q.length cq, .slice Ac ch.length cc]).cell j
      rw [hsz1] at this
      rw [this]
      simpa [rowV] using hu
    · intro r hr
      simp at hr
      rcases hr with rfl | rfl | rfl
      · exact ((ints_row w 2 [(ch.length : Int), n, 0, 0, 0]).alloc (by simp) _).more (by omega)
      · exact ((hq.alloc (Nat.le_refl _) _).alloc (by simp) _).more (by omega)
      · exact ((hc.alloc (Nat.le_refl _) _).alloc (by simp) _).more (by omega)
  have HR := Lib.hid hrows
  have hB := Lib.hid (((Below.refl w.heap.size w).alloc (Nat.le_refl _) (.cells #[.int .i64 ch.length, .int .i64 n, .int .i64 0, .int .i64 0, .int .i64 0] 2)).alloc (by simp) (.cells #[.slice (some ⟨w.heap.size, 0, none⟩) 5 5, .slice Aq q.length cq, .slice Ac ch.length cc] 40))
  clear hq hc hl hsz1 hrows
  go_enter Try.func18, Try.ntmps18
  go_wp2_with (fail)
  with_reducible refine (concat_any _ _ 3 _ _ (by kernel_rfl) (HR.out.at_ (by simp)) (by simp) (by simp [flatR]; omega)).mono ?_
  rintro e w1 ⟨v1, rfl, hO, hb⟩
  have hB1 := hB.out.trans (hb.mono (by simp; omega))
  have hO1 : w1.ownsRow w.heap.size 2 1 v1 ([(ch.length : Int), n, 0, 0, 0] ++ q ++ ch).length (([(ch.length : Int), n, 0, 0, 0] ++ q ++ ch).map (Value.int .i64)) := by
    have e : flatR [(some (⟨w.heap.size, 0, none⟩ : Addr), 5, [(ch.length : Int), n, 0, 0, 0]), (Aq, cq, q), (Ac, cc, ch)] = [(ch.length : Int), n, 0, 0, 0] ++ q ++ ch := by simp [flatR]
    rw [e] at hO
    exact own_base hO (by simp; omega)
  have HO := Lib.hid hO1
  clear hO hb hO1
  go_wp2_with (fail)
  go_ret
  exact ⟨_, rfl, HO.out, hB1⟩

set_option maxHeartbeats 400000 in
theorem emptyW_any (w : World) : Calls Try.prog 20 #[] w fun e w' => e = .returned (.slice (some ⟨w.heap.size, 0, none⟩) 1 1) ∧ IntsAt w' (w.heap.size + 1) (some ⟨w.heap.size, 0, none⟩) [0] ∧ Below w.heap.size w w' := by
  have H : Hid (IntsAt (w.alloc (.cells #[.int .i64 0] 2)) (w.heap.size + 1) (some ⟨w.heap.size, 0, none⟩) [0]) := Lib.hid (ints_row w 2 [0])
  go_enter Try.func20, Try.ntmps20
  go_wp2_with (fail)
  go_ret
  exact ⟨rfl, H.out, (Below.refl _ _).alloc (Nat.le_refl _) _⟩
set_option maxHeartbeats 400000 in
theorem may17 (w : World) : Calls Try.prog 41 #[.int .i64 1, .int .i64 7] w fun e w' => e = .returned (.bool true) ∧ w = w' := by
  go_enter Try.func41, Try.ntmps41
  go_wp2_with (fail)
  go_ret
  exact ⟨rfl, rfl⟩
set_option maxHeartbeats 400000 in
theorem of17 (w : World) : Calls Try.prog 19 #[.int .i64 1, .int .i64 7] w fun e w' => e = .returned (.int .i64 57) ∧ w = w' := by
  go_enter Try.func19, Try.ntmps19
  go_wp2_with (fail)
  with_reducible refine (may17 _).mono ?_
  rintro e w1 ⟨rfl, rfl⟩
  go_wp2_with (fail)
  go_ret
  exact ⟨by rfl, rfl⟩
def beginL : List Int := [1, 0, 0, 0, 0, 57, 0]
set_option maxRecDepth 100000 in
set_option maxHeartbeats 1000000 in
theorem begin_any (B b : Nat) (size count odd ref : Int) (w : World) (h : MemP B b (.slice none 0 0) [] size count odd ref w) (h0 : 7 ≤ size) (h1 : size ≤ 65536) :
    Calls Try.prog 6 #[.pointer (some ⟨b, 0, none⟩)] w fun e w' => e = .returned (.bool true) ∧ ∃ v', MemP B b v' beginL size (bump (bump count)) odd ref w' ∧ Only [b] w w' ∧ (∀ g, v'.ownBlock = some g → w.heap.size ≤ g) := by
  have H := Lib.hid h
  clear h
  go_enter Try.func6, Try.ntmps6
  go_wp2_with (fail)
  with_reducible refine (used_any B b _ [] size count odd ref _ H.out).mono ?_
  rintro e w1 ⟨rfl, rfl⟩
  go_wp2_with (fail)
  with_reducible refine (size_any B b _ [] size count odd ref _ H.out).mono ?_
  rintro e w1 ⟨rfl, rfl⟩
  go_wp2_with (fail)
  with_reducible refine (of17 _).mono ?_
  rintro e w1 ⟨rfl, rfl⟩
  have hq0 : IntsAt (w.alloc (.cells #[.int .i64 57] 2)) (w.alloc (.cells #[.int .i64 57] 2)).heap.size (some ⟨w.heap.size, 0, none⟩) [57] := (ints_row w 2 [57]).more (by simp)
  have HQ := Lib.hid hq0
  have hb1 := (Below.refl w.heap.size w).alloc (Nat.le_refl _) (.cells #[.int .i64 57] 2)
  have H1 := Lib.hid (H.out.below hb1)
  have O1 := Lib.hid (Only.of_below (S := [b]) hb1)
  have hsz1 : w.heap.size + 1 = (w.alloc (.cells #[.int .i64 57] 2)).heap.size := by simp
  have Z1 := Lib.hid hsz1
  have hblt : b < w.heap.size := H.out.blk.lt
  clear hq0 hb1 H hsz1
  go_wp2_with (fail)
  with_reducible refine (innerW_any 0 none 0 [] _ _ [57] 0 1 _ (by kernel_rfl) (by kernel_rfl) (IntsAt.nil _ _) HQ.out (by simp) (by simp)).mono ?_
  rintro e w2 ⟨v2, rfl, hO2, hb2⟩
  have H2 := Lib.hid (H1.out.below hb2)
  have O2 := Lib.hid (O1.out.trans (Only.of_below hb2))
  have Z2 := Lib.hid (show w.heap.size + 1 ≤ w2.heap.size by have := hb2.size; rw [← Z1.out] at this; exact this)
  replace hO2 : w2.ownsRow (w.alloc (.cells #[.int .i64 57] 2)).heap.size 2 1 v2 6 (([1, 0, 0, 0, 0, 57] : List Int).map (Value.int .i64)) := hO2
  obtain ⟨A2, c2, rfl⟩ := own_shape hO2
  have hA2 : ∀ ad, A2 = some ad → ad.block ≠ b := by
    intro ad ha
    subst ha
    have := (hO2.lt ad.block rfl).1
    rw [← Z1.out] at this
    omega
  have HQ2 : Hid (IntsAt w2 w2.heap.size A2 ([1, 0, 0, 0, 0, 57] : List Int)) := Lib.hid (Reads.of_own hO2)
  clear hO2 hb2 H1 O1 HQ
  go_wp2_with (fail)
  with_reducible refine (make_ok B b _ [] size count odd ref _ H2.out (by simp; omega) h1 A2 c2 ([1, 0, 0, 0, 0, 57] : List Int) 6 (by kernel_rfl) HQ2.out hA2 (by simp) (by simp; omega)).mono ?_
  rintro e w3 ⟨rfl, v3, h3, m3, o3⟩
  have h3' : MemP B b v3 ([1, 0, 0, 0, 0, 57] : List Int) size (bump count) odd ref w3 := h3
  have g3 : ∀ g, v3.ownBlock = some g → w.heap.size ≤ g := by
    intro g hg
    rcases o3 with e | ⟨g', e, hge⟩
    · rw [e] at hg; simp [Value.ownBlock] at hg
    · rw [e] at hg; injection hg with hg; have := Z2.out; omega
  have H3 := Lib.hid h3'
  have O3 := Lib.hid (O2.out.trans (Only.of_mvr (S := [b]) m3 (by simp) (fun g hg => by simp [Value.ownBlock] at hg)))
  have G3 := Lib.hid g3
  have Z3 := Lib.hid (show w.heap.size + 1 ≤ w3.heap.size by have := m3.size; have := Z2.out; omega)
  clear h3 h3' m3 o3 H2 O2 Z2 HQ2 g3 Z1
  go_wp2_with (fail)
  with_reducible refine (emptyW_any _).mono ?_
  rintro e w4 ⟨rfl, hq4, hb4⟩
  have H4 := Lib.hid (H3.out.below hb4)
  have O4 := Lib.hid (O3.out.trans (Only.of_below hb4))
  have HQ4 := Lib.hid (show IntsAt w4 w4.heap.size (some ⟨w3.heap.size, 0, none⟩) [0] from hq4.more (by
    obtain ⟨ad, e, h1, h2⟩ := hq4.2 (by simp)
    injection e with e
    subst e
    have := World.block_lt_of_cell? w4 _ (h2 0 _ rfl)
    rw [block_of_add] at this
    exact this))
  have Z4 := Lib.hid (show w3.heap.size ≤ w4.heap.size from hb4.size)
  have hbl : b < w3.heap.size := H3.out.blk.lt
  clear hq4 hb4 H3 O3
  go_wp2_with (fail)
  with_reducible refine (make_ok B b v3 ([1, 0, 0, 0, 0, 57] : List Int) size (bump count) odd ref _ H4.out (by simp; omega) h1 (some ⟨w3.heap.size, 0, none⟩) 1 ([0] : List Int) 1 (by kernel_rfl) HQ4.out (fun ad ha => by injection ha with ha; subst ha; show w3.heap.size ≠ b; omega) (by simp) (by simp; omega)).mono ?_
  rintro e w5 ⟨rfl, v5, h5, m5, o5⟩
  have h5' : MemP B b v5 beginL size (bump (bump count)) odd ref w5 := h5
  have H5 := Lib.hid h5'
  have O5 := Lib.hid (O4.out.grow (Only.of_mvr (S := b :: v3.ownBlock.toList) m5 (by simp) (fun g hg => by simp [hg])) (fun x hx => by
    rcases List.mem_cons.1 hx with rfl | hx
    · exact .inl (by simp)
    · exact .inr (G3.out x (by simpa using hx))))
  have G5 : ∀ g, v5.ownBlock = some g → w.heap.size ≤ g := by
    intro g hg
    rcases o5 with e | ⟨g', e, hge⟩
    · rw [e] at hg; exact G3.out g hg
    · rw [e] at hg; injection hg with hg; have := Z3.out; have := Z4.out; omega
  have HG := Lib.hid G5
  clear h5 h5' m5 o5 G5 H4 O4 HQ4
  go_wp2_with (fail)
  go_ret
  exact ⟨rfl, v5, H5.out, O5.out, HG.out⟩
end Go.Proofs.Ytblajeildolloaa
