/- Make; New; Count, Odd, Used, Size. -/
import Derived.Test.YtblajeildolloaaConcat
import Derived.Test.YtblajeildolloaaOnly
namespace Go.Proofs.Ytblajeildolloaa
set_option linter.unusedVariables false
set_option linter.unusedSimpArgs false
open Go.RowKit

theorem IntsAt.far {w : World} {B : Nat} {A : Option Addr} {q : List Int} (h : IntsAt w B A q) {p : Addr} (hp : ∀ ad, A = some ad → ad.block ≠ p.block) (u : Value) : IntsAt (w.setCell p u) B A q :=
  ⟨h.1, fun hn => by
    obtain ⟨ad, e, hb, hc⟩ := h.2 hn
    refine ⟨ad, e, hb, fun j x hx => (World.cell?_setCell_other w p (ad.add j) u (fun e2 => ?_)).trans (hc j x hx)⟩
    have h1 := congrArg Addr.block e2
    rw [block_of_add] at h1
    exact hp ad e h1.symm⟩
set_option maxHeartbeats 1000000 in
theorem make_no (B b : Nat) (v : Value) (C : List Int) (size count odd ref : Int) (w : World) (h : MemP B b v C size count odd ref w) (hs : (C.length : Int) ≤ size) (hs2 : size ≤ 65536) (A : Option Addr) (c : Nat) (q : List Int) (N : Nat) (hN : N = q.length) (hq : q.length = 0 ∨ size - C.length < q.length) (hql : q.length ≤ 1000000) :
    Calls Try.prog 17 #[.pointer (some ⟨b, 0, none⟩), .slice A N c] w fun e w' => e = .returned (.tuple #[.int .i64 0, .bool false]) ∧ MemP B b v C size (bump count) odd (bump ref) w' ∧ Only [b] w w' := by
  subst hN
  obtain ⟨A0, c0', rfl⟩ := own_shape h.own
  have h1 := (h.set 2 (by decide) (.int .i64 (bump count)) rfl)
  have c2 : w.cell? ⟨b, 2, none⟩ = some (.int .i64 count) := h.blk.cell 2
  have f2 := h.blk.frozen 2
  have M1 := Lib.hid (Mv.set1 w b 2 (.int .i64 (bump count)))
  have eb : wrap64 (count + 1) = bump count := rfl
  by_cases h0 : q.length = 0
  · have e0 : ((q.length : Int) == 0) = true := by simpa using h0
    clear hq h h0
    go_enter Try.func17, Try.ntmps17
    go_wp2_with (fail)
    rw [eb]
    clear eb c2 f2
    generalize w.setCell ⟨b, 2, none⟩ (.int .i64 (bump count)) = w1 at h1 M1 ⊢
    have c0 : w1.cell? ⟨b, 0, none⟩ = some (.slice A0 C.length c0') := h1.blk.cell 0
    have c1 : w1.cell? ⟨b, 1, none⟩ = some (.int .i64 size) := h1.blk.cell 1
    have H1 := Lib.hid h1
    clear h1
    go_quiet (fail)
    rename_i nq
    have D1 := Lib.hid (drawn_bl (Drawn.of w1 nq) w1.heap.size)
    have h1q := H1.out.below D1.out
    generalize w1.drewN nq = w2 at D1 h1q ⊢
    have c4 : w2.cell? ⟨b, 4, none⟩ = some (.int .i64 ref) := h1q.blk.cell 4
    have f4 := h1q.blk.frozen 4
    have H2 := Lib.hid (h1q.set 4 (by decide) (.int .i64 (wrap64 (ref + 1))) (ref' := bump ref) rfl)
    clear h1q
    go_wp2_with (fail)
    go_ret2
    exact ⟨rfl, H2.out, ((Only.of_mv M1.out (by simp)).trans (Only.of_below D1.out)).trans (Only.of_mv (Mv.set1 _ _ _ _) (by simp))⟩
  · have e0 : ((q.length : Int) == 0) = false := by simpa using h0
    have hlt : size - (C.length : Int) < q.length := by omega
    clear hq h h0
    go_enter Try.func17, Try.ntmps17
    go_wp2_with (fail)
    rw [eb]
    clear eb c2 f2
    generalize w.setCell ⟨b, 2, none⟩ (.int .i64 (bump count)) = w1 at h1 M1 ⊢
    have c0 : w1.cell? ⟨b, 0, none⟩ = some (.slice A0 C.length c0') := h1.blk.cell 0
    have c1 : w1.cell? ⟨b, 1, none⟩ = some (.int .i64 size) := h1.blk.cell 1
    have H1 := Lib.hid h1
    clear h1
    go_quiet (fail)
    rename_i nq
    have D1 := Lib.hid (drawn_bl (Drawn.of w1 nq) w1.heap.size)
    have h1q := H1.out.below D1.out
    generalize w1.drewN nq = w2 at D1 h1q ⊢
    have c4 : w2.cell? ⟨b, 4, none⟩ = some (.int .i64 ref) := h1q.blk.cell 4
    have f4 := h1q.blk.frozen 4
    have H2 := Lib.hid (h1q.set 4 (by decide) (.int .i64 (wrap64 (ref + 1))) (ref' := bump ref) rfl)
    clear h1q
    go_wp2_with (fail)
    go_ret2
    exact ⟨rfl, H2.out, ((Only.of_mv M1.out (by simp)).trans (Only.of_below D1.out)).trans (Only.of_mv (Mv.set1 _ _ _ _) (by simp))⟩

theorem Mv.wide {b : Nat} {w w' : World} (h : Mv b none w w') (r : Option Nat) : Mv b r w w' := ⟨h.os, h.tape, h.output, h.size, fun k hk h1 _ => h.block k hk h1 (by simp)⟩
set_option maxRecDepth 100000 in
set_option maxHeartbeats 1000000 in
theorem make_ok (B b : Nat) (v : Value) (C : List Int) (size count odd ref : Int) (w : World) (h : MemP B b v C size count odd ref w) (hs : (C.length : Int) ≤ size) (hs2 : size ≤ 65536) (A : Option Addr) (c : Nat) (q : List Int) (N : Nat) (hN : N = q.length) (hq : IntsAt w w.heap.size A q) (hA : ∀ ad, A = some ad → ad.block ≠ b) (h0 : 0 < q.length) (h1 : (q.length : Int) ≤ size - C.length) :
    Calls Try.prog 17 #[.pointer (some ⟨b, 0, none⟩), .slice A N c] w fun e w' => e = .returned (.tuple #[.int .i64 ((C.length : Int) + 1), .bool true]) ∧ ∃ v', MemP B b v' (C ++ q) size (bump count) odd ref w' ∧ Mv b v.ownBlock w w' ∧ (v'.ownBlock = v.ownBlock ∨ ∃ g, v'.ownBlock = some g ∧ w.heap.size ≤ g) := by
  subst hN
  obtain ⟨i0, hi0, hz0, hz1, hz2⟩ := info_parts info_int64m
  obtain ⟨A0, c0', rfl⟩ := own_shape h.own
  have h1' := (h.set 2 (by decide) (.int .i64 (bump count)) rfl)
  have c2 : w.cell? ⟨b, 2, none⟩ = some (.int .i64 count) := h.blk.cell 2
  have f2 := h.blk.frozen 2
  have M1 := Lib.hid (Mv.set1 w b 2 (.int .i64 (bump count)))
  have eb : wrap64 (count + 1) = bump count := rfl
  have HQ := Lib.hid (hq.far (p := ⟨b, 2, none⟩) hA (.int .i64 (bump count)))
  have hsz : (w.setCell ⟨b, 2, none⟩ (.int .i64 (bump count))).heap.size = w.heap.size := by simp
  have hB : B ≤ w.heap.size := by have := h.base; have := h.blk.lt; omega
  have e0 : ((q.length : Int) == 0) = false := by rw [beq_eq_false_iff_ne]; omega
  have hlt : ¬ size - (C.length : Int) < q.length := by omega
  have SZ := Lib.hid hsz
  clear hq h hsz
  go_enter Try.func17, Try.ntmps17
  go_wp2_with (fail)
  try rw [eb]
  clear eb c2 f2
  generalize w.setCell ⟨b, 2, none⟩ (.int .i64 (bump count)) = w1 at h1' M1 HQ SZ ⊢
  have c0 : w1.cell? ⟨b, 0, none⟩ = some (.slice A0 C.length c0') := h1'.blk.cell 0
  have c1 : w1.cell? ⟨b, 1, none⟩ = some (.int .i64 size) := h1'.blk.cell 1
  have H1 := Lib.hid h1'
  clear h1'
  go_quiet (fail)
  rename_i nq
  have D1 := Lib.hid (drawn_bl (Drawn.of w1 nq) w1.heap.size)
  have h1q := H1.out.below D1.out
  have HQ2 := Lib.hid (show IntsAt (w1.drewN nq) w.heap.size A q from HQ.out)
  have hz3 : w.heap.size ≤ (w1.drewN nq).heap.size := by have := SZ.out; show w.heap.size ≤ w1.heap.size; omega
  clear c0 c1
  generalize w1.drewN nq = w2 at D1 h1q HQ2 hz3 ⊢
  have c0 : w2.cell? ⟨b, 0, none⟩ = some (.slice A0 C.length c0') := h1q.blk.cell 0
  have f0 := h1q.blk.frozen 0
  have H2 := Lib.hid h1q
  have hown := h1q.own
  clear h1q
  go_wp2_with (at_builtin; refine wpList_append_any _ rfl _ _ 40 rfl B 2 i0 (.int .i64 0) 1 8 Try.underlying40 hi0 hz0 hz1 hz2 rfl (by decide) _ C.length (C.map (Value.int .i64)) rfl hown w.heap.size A q.length c (q.map (Value.int .i64)) rfl HQ2.out (ints_one q) ?p1 ?p2 ?p3 ?_; (case p1 => (unfold maxLen; omega)); (case p2 => omega); (case p3 => omega); intro v' w3 hO' hg hvb; obtain ⟨A1, c1', rfl⟩ := own_shape hO'; have HV := Lib.hid hvb; clear hvb; have hb3 := H2.out.blk.grown hg (fun e => H2.out.apart e.symm); have HB3 := Lib.hid hb3; have HO := Lib.hid hO'; have c3 : w3.cell? ⟨b, 0, none⟩ = some (.slice A0 C.length c0') := hb3.cell 0; have f3 := hb3.frozen 0; clear hb3 hO')
  go_ret2
  have hb3 := HB3.out
  have hO' := HO.out
  refine ⟨rfl, .slice A1 (C.length + q.length) c1', ⟨?_, ?_, H2.out.base⟩, ?_, ?_⟩
  · exact hb3.set_ 0 _
  · have hap := own_blk_ne hO' hb3 (by decide)
    have := ownsRow_setCell_other hO' (a := ⟨b, 0, none⟩) (fun e => hap (by simpa using e)) (Value.slice A1 (C.length + q.length) c1')
    rw [List.map_append, List.length_append]
    exact this
  · exact Mv.trans_ (M1.out.wide _) (Mv.after D1.out (Mv.of_grown hg _))
  · rcases HV.out with e | e
    · exact .inl e
    · exact .inr ⟨_, e, by omega⟩
end Go.Proofs.Ytblajeildolloaa
