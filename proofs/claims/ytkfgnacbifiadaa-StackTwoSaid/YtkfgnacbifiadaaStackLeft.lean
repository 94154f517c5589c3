/- The walk of StackLeft. -/
import Derived.Test.YtkfgnacbifiadaaStackTurned
import Derived.Test.YtkfgnacbifiadaaMinmax
namespace Go.Proofs.Ytkfgnacbifiadaa
set_option linter.unusedVariables false
set_option linter.unusedSimpArgs false
open Go.RowKit Go.Shelf
attribute [local go_sem] Oper.semAt_some max2_int max_two min2_int min_two

/-- The boxes of the parameters and of the result. -/
structure Left0 (A : Option Addr) (c : Nat) (l : List Int) (x : Int) (w0 w : World) : Prop where
  lbox : Blk w w0.heap.size 48 #[.slice A l.length c]
  nbox : Blk w (w0.heap.size + 1) 3 #[.int .i64 x]
  rbox : Blk w (w0.heap.size + 1 + 1) 4 #[.bool false]
  below : Below w0.heap.size w0 w
theorem Left0.start (w : World) (A : Option Addr) (c : Nat) (l : List Int) (x : Int) : Left0 A c l x w (((w.alloc (.cells #[.slice A l.length c] 48)).alloc (.cells #[.int .i64 x] 3)).alloc (.cells #[.bool false] 4)) := by
  have h1 := ((Blk.new w 48 #[.slice A l.length c]).alloc (.cells #[.int .i64 x] 3)).alloc (.cells #[.bool false] 4)
  have h2 := (Blk.new (w.alloc (.cells #[.slice A l.length c] 48)) 3 #[.int .i64 x]).alloc (.cells #[.bool false] 4)
  have h3 := Blk.new ((w.alloc (.cells #[.slice A l.length c] 48)).alloc (.cells #[.int .i64 x] 3)) 4 #[.bool false]
  simp only [World.size_alloc] at h2 h3
  exact ⟨h1, h2, h3, (((Below.refl _ w).alloc (Nat.le_refl _) _).alloc (by simp) _).alloc (by simp; omega) _⟩
section
variable {A : Option Addr} {c : Nat} {l : List Int} {x : Int} {w0 w w' : World}
theorem Left0.later (h : Left0 A c l x w0 w) (hb : Below w.heap.size w w') : Left0 A c l x w0 w' :=
  ⟨h.lbox.below hb h.lbox.lt, h.nbox.below hb h.nbox.lt, h.rbox.below hb h.rbox.lt, h.below.trans (hb.mono h.below.size)⟩
theorem Left0.mv {N : Nat} {v : Value} {L : List Int} (h : Left0 A c l x w0 w) (hN : w0.heap.size + 1 + 1 < N) (hS : StI N N v L w) (m : Mv N v.ownBlock w w') : Left0 A c l x w0 w' := by
  have hg := fun g (e : v.ownBlock = some g) => (hS.own.lt g e).1
  exact ⟨m.blk h.lbox (by omega) (fun e => by have := hg _ e.symm; omega), m.blk h.nbox (by omega) (fun e => by have := hg _ e.symm; omega), m.blk h.rbox (by omega) (fun e => by have := hg _ e.symm; omega),
    h.below.trans (m.below (by omega) h.below.size (fun g e => by have := hg _ e; omega))⟩
end

/-- All boxes, the stack, how many were met. -/
structure LeftS (A : Option Addr) (c : Nat) (l m : List Int) (q : Int) (p N : Nat) (v : Value) (met : Int) (w0 w : World) : Prop where
  z : Left0 A c l q w0 w
  st : StI N N v m w
  kbox : Blk w p 3 #[.int .i64 m.length]
  mbox : Blk w (p + 1) 3 #[.int .i64 met]
  gbox : Blk w (p + 1 + 1) 49 #[.pointer (some ⟨N, 0, none⟩)]
  base : w0.heap.size + 1 + 1 < N ∧ N < p ∧ (∀ g, v.ownBlock = some g → g < p)
theorem LeftS.start {A : Option Addr} {c : Nat} {l m : List Int} {q x : Int} {N : Nat} {v : Value} {w0 w : World} (h : Left0 A c l x w0 w) (hS : StI N N v m w) (hN : w0.heap.size + 1 + 1 < N) :
    LeftS A c l m q w.heap.size N v 0 w0 ((((w.alloc (.cells #[.int .i64 m.length] 3)).setCell ⟨w0.heap.size + 1, 0, none⟩ (.int .i64 q)).alloc (.cells #[.int .i64 0] 3)).alloc (.cells #[.pointer (some ⟨N, 0, none⟩)] 49)) := by
  have hz := h.below.size
  have hr := h.rbox.lt
  have hNw := hS.blk.lt
  have n1 := ((((h.nbox.alloc (.cells #[.int .i64 m.length] 3)).set_ 0 (.int .i64 q))).alloc (.cells #[.int .i64 0] 3)).alloc (.cells #[.pointer (some ⟨N, 0, none⟩)] 49)
  have l1 := ((((h.lbox.alloc (.cells #[.int .i64 m.length] 3)).far (p := ⟨w0.heap.size + 1, 0, none⟩) (by simp) (.int .i64 q))).alloc (.cells #[.int .i64 0] 3)).alloc (.cells #[.pointer (some ⟨N, 0, none⟩)] 49)
  have r1 := ((((h.rbox.alloc (.cells #[.int .i64 m.length] 3)).far (p := ⟨w0.heap.size + 1, 0, none⟩) (by simp) (.int .i64 q))).alloc (.cells #[.int .i64 0] 3)).alloc (.cells #[.pointer (some ⟨N, 0, none⟩)] 49)
  have k1 := (((Blk.new w 3 #[.int .i64 m.length]).far (p := ⟨w0.heap.size + 1, 0, none⟩) (by simp; omega) (.int .i64 q)).alloc (.cells #[.int .i64 0] 3)).alloc (.cells #[.pointer (some ⟨N, 0, none⟩)] 49)
  have m1 := (Blk.new ((w.alloc (.cells #[.int .i64 m.length] 3)).setCell ⟨w0.heap.size + 1, 0, none⟩ (.int .i64 q)) 3 #[.int .i64 0]).alloc (.cells #[.pointer (some ⟨N, 0, none⟩)] 49)
  have g1 := Blk.new (((w.alloc (.cells #[.int .i64 m.length] 3)).setCell ⟨w0.heap.size + 1, 0, none⟩ (.int .i64 q)).alloc (.cells #[.int .i64 0] 3)) 49 #[.pointer (some ⟨N, 0, none⟩)]
  simp at n1 m1 g1
  have hs := ((ownsRow_setCell_other (hS.own.alloc (.cells #[.int .i64 m.length] 3)) (a := ⟨w0.heap.size + 1, 0, none⟩) (fun e => by have := (hS.own.lt _ e).1; simp at this; omega) (.int .i64 q)).alloc (.cells #[.int .i64 0] 3)).alloc (.cells #[.pointer (some ⟨N, 0, none⟩)] 49)
  have hb := (((hS.blk.alloc (.cells #[.int .i64 m.length] 3)).far (p := ⟨w0.heap.size + 1, 0, none⟩) (by simp; omega) (.int .i64 q)).alloc (.cells #[.int .i64 0] 3)).alloc (.cells #[.pointer (some ⟨N, 0, none⟩)] 49)
  have hB := (((h.below.alloc hz (.cells #[.int .i64 m.length] 3)).setCell (p := ⟨w0.heap.size + 1, 0, none⟩) (by simp) (.int .i64 q)).alloc (by simp; omega) (.cells #[.int .i64 0] 3)).alloc (by simp; omega) (.cells #[.pointer (some ⟨N, 0, none⟩)] 49)
  exact ⟨⟨l1, n1, r1, hB⟩, ⟨hb, hs, hS.base_le⟩, k1, m1, g1, hN, hNw, fun g e => (hS.own.lt g e).2⟩
section
variable {A : Option Addr} {c : Nat} {l m : List Int} {q met : Int} {p N : Nat} {v : Value} {w0 w w' : World}
theorem LeftS.later (h : LeftS A c l m q p N v met w0 w) (hb : Below w.heap.size w w') : LeftS A c l m q p N v met w0 w' :=
  ⟨h.z.later hb, h.st.below hb (Nat.le_refl _), h.kbox.below hb h.kbox.lt, h.mbox.below hb h.mbox.lt, h.gbox.below hb h.gbox.lt, h.base⟩
theorem Left0.of_row {x : Int} (h : Left0 A c l x w0 w) {row : Option Nat} (hg : w.grownBy w' row) (hr : ∀ r, row = some r → w0.heap.size ≤ r ∧ ∃ o : Obj, w.heap[r]? = some o ∧ o.isCells = false) : Left0 A c l x w0 w' :=
  have hr2 := fun r e => (hr r e).2
  ⟨h.lbox.of_row hg hr2, h.nbox.of_row hg hr2, h.rbox.of_row hg hr2, h.below.trans ((Below.refl _ w).grown hg h.below.size (fun r e => (hr r e).1))⟩
theorem LeftS.of_row (h : LeftS A c l m q p N v met w0 w) {row : Option Nat} (hg : w.grownBy w' row) (hr : ∀ r, row = some r → w0.heap.size ≤ r ∧ ∃ o : Obj, w.heap[r]? = some o ∧ o.isCells = false) : LeftS A c l m q p N v met w0 w' :=
  have hr2 := fun r e => (hr r e).2
  ⟨h.z.of_row hg hr, h.st.of_row hg hr2, h.kbox.of_row hg hr2, h.mbox.of_row hg hr2, h.gbox.of_row hg hr2, h.base⟩
theorem LeftS.step (h : LeftS A c l m q p N v met w0 w) : LeftS A c l m q p N v (met + 1) w0 (w.setCell ⟨p + 1, 0, none⟩ (.int .i64 (met + 1))) := by
  have hb := h.base
  refine ⟨⟨h.z.lbox.far (by simp; omega) _, h.z.nbox.far (by simp; omega) _, h.z.rbox.far (by simp; omega) _, h.z.below.setCell (p := ⟨p + 1, 0, none⟩) (by simp; omega) _⟩, ⟨h.st.blk.far (by simp; omega) _, ?_, h.st.base_le⟩, h.kbox.far (by simp) _, by simpa using h.mbox.set_ 0 (.int .i64 (met + 1)), h.gbox.far (by simp) _, hb⟩
  exact ownsRow_setCell_other h.st.own (a := ⟨p + 1, 0, none⟩) (fun e => by have := hb.2.2 _ e; simp at this; omega) _
end
def LeftI (A : Option Addr) (c : Nat) (l m : List Int) (q : Int) (p N : Nat) (v : Value) (w0 : World) (pre : List Int) (W : World) : Prop := Fits m pre ∧ (pre.length : Int) ≤ q ∧ LeftS A c l m q p N v pre.length w0 W
theorem LeftI.own {A : Option Addr} {c : Nat} {l m : List Int} {q : Int} {p N z : Nat} {v : Value} {w0 : World} (hz : w0.heap.size ≤ z) : OwnFrom z (LeftI A c l m q p N v w0) := fun s W W' row hs hg hr =>
  ⟨hs.1, hs.2.1, hs.2.2.of_row hg (fun r e => ⟨Nat.le_trans hz (hr r e).1, (hr r e).2⟩)⟩

set_option maxRecDepth 100000 in
set_option maxHeartbeats 3000000 in
theorem stackLeft_walk (A : Option Addr) (c : Nat) (l : List Int) (a1 : Int) {w : World} (hq : IntsAt w w.heap.size A l) (hl : l.length * 8 ≤ 140737488351232) (hc : l.length ≤ c) (hw : ∀ i, i < l.length → -9223372036854775808 ≤ keyAt l i ∧ keyAt l i ≤ 9223372036854775807) (w1 : (Lit.int .i64 a1).wf = true) :
    Calls Try.prog 12 #[.slice A l.length c, .int .i64 a1] w fun e w' => e = .returned (.bool true) ∧ Below w.heap.size w w' := by
  obtain ⟨n0, n1⟩ := Go.bounds_i64 w1
  have HQ := Lib.hid hq
  clear hq w1
  refine (callsIn_wide (n := 3)).1 ?_
  refine callsIn_of_wp_marks Try.func12 rfl trivial ?_ rfl
  simp only [Try.ntmps12, List.size_toArray, List.length_cons, List.length_nil, Nat.reduceAdd, Nat.reduceSub, Array.replicate_succ, Array.replicate_zero, List.push_toArray, List.append_toArray, List.nil_append, List.cons_append]
  gi_wp2_with (fail)
  have L0 := Left0.start w A c l a1
  generalize ((w.alloc (.cells #[.slice A l.length c] 48)).alloc (.cells #[.int .i64 a1] 3)).alloc (.cells #[.bool false] 4) = wa at L0 ⊢
  refine ⟨trivial, ?_⟩
  with_reducible refine (callsIn_wide.2 (known3_any _)).mono ?_
  rintro e wb ⟨rfl, hb⟩
  have L1 := Lib.hid (L0.later hb)
  clear L0 hb
  have L2 := Lib.hid (L1.out.later ((Below.refl _ wb).alloc (Nat.le_refl _) (.cells #[.slice none 0 0] 51)))
  have hlb := L2.out.lbox.cell 0
  gi_wp2_with (fail)
  refine ⟨trivial, ?_⟩
  have S2 := Lib.hid (StI.fresh wb)
  have hN : w.heap.size + 1 + 1 < wb.heap.size := L1.out.rbox.lt
  have hb2 : w.heap.size ≤ wb.heap.size := by omega
  clear L1 hlb
  generalize hWc : wb.alloc (.cells #[.slice none 0 0] 51) = wc at L2 S2 ⊢
  clear hWc
  generalize wb.heap.size = N at S2 hN hb2 ⊢
  with_reducible refine (callsIn_wide.2 (few_any A c 200 200 l _ rfl (by omega) hc (by omega))).mono ?_
  rintro e w2 ⟨rfl, rfl⟩
  have HM := Lib.hid (HQ.out.take 200)
  have hm : (l.take 200).length ≤ 200 := by rw [List.length_take]; omega
  have hm2 : (l.take 200).length ≤ c := by rw [List.length_take]; omega
  have hm3 : (l.take 200).length = min l.length 200 := by rw [List.length_take]; omega
  have HL3 := Lib.hid hm3
  clear hm3
  generalize hMm : l.take 200 = m at HM hm hm2 HL3 ⊢
  have HMM := Lib.hid hMm
  clear hMm
  gi_wp2_with (fail)
  gi_loopw [18] (fun i wr => ∃ (k : Nat) (v : Value), k ≤ m.length ∧ i = .int .i64 k ∧ StI N N v (m.take k) wr ∧ Left0 A c l a1 w wr) (fun i _ => m.length - (intOf i).toNat)
  case atStart => exact ⟨0, _, by omega, rfl, by simpa using S2.out, L2.out⟩
  case round =>
    obtain ⟨k, v, k1, rfl, hS, h0⟩ := hrel
    clear L2 S2
    by_cases hlt : k < m.length
    · obtain ⟨ad, rfl, hbl, hcc⟩ := (HM.out.below h0.below).cells (by omega)
      have hx0 := hcc k hlt
      have ht := Lib.hid (show m.take (k + 1) = m.take k ++ [keyAt m k] by rw [List.take_add_one, List.getElem?_eq_getElem hlt]; simp [keyAt, List.getD_eq_getElem?_getD, hlt])
      obtain ⟨x, hx⟩ : ∃ x, keyAt m k = x := ⟨_, rfl⟩
      rw [hx] at hx0 ht
      have HS := Lib.hid hS
      have H0 := Lib.hid h0
      clear hcc hx hS h0
      gi_wp2_with (fail)
      refine ⟨trivial, ?_⟩
      with_reducible refine (callsIn_wide.2 (pushI_any _ _ _ (m.take k) x _ HS.out (by rw [List.length_take]; omega))).mono ?_
      rintro e w2 ⟨rfl, v', hS', m1, _⟩
      have H2 := Lib.hid (H0.out.mv hN HS.out m1)
      rw [← ht.out] at hS'
      have HS2 := Lib.hid hS'
      clear hS' m1 H0 HS
      gi_wp2_with (fail)
      go_roundw
      case rel => exact ⟨k + 1, v', by omega, by go_num, HS2.out, H2.out⟩
      case measure => simp [intOf]; omega
    · have ek : k = m.length := by omega
      subst ek
      rw [List.take_of_length_le (Nat.le_refl _)] at hS
      have HS := Lib.hid hS
      have H0 := Lib.hid h0
      have hlb := h0.lbox.cell 0
      have hnb : (wr.alloc (.cells #[.int .i64 m.length] 3)).cell? ⟨w.heap.size + 1, 0, none⟩ = some (.int .i64 a1) := (h0.nbox.alloc _).cell 0
      have hnf := (h0.nbox.alloc (.cells #[.int .i64 m.length] 3)).frozen 0
      have hsz : w.heap.size + 1 + 1 < wr.heap.size := h0.rbox.lt
      have hNw : N < wr.heap.size := hS.blk.lt
      have hmin : (if (200 : Int) < (l.length : Int) then (200 : Int) else (l.length : Int)) = (m.length : Int) := by have := HL3.out; split <;> omega
      clear hS h0
      gi_wp2_with (fail)
      refine ⟨trivial, ?_⟩
      with_reducible refine (callsIn_wide.2 (cut_any a1 210 _ (by omega) (by omega) (by omega) (by omega))).mono ?_
      rintro e w2 ⟨rfl, rfl⟩
      obtain ⟨q0, q1⟩ := cut_bd a1 210 (by omega)
      generalize a1 % 210 = q at q0 q1 ⊢
      gi_wp2_with (fail)
      refine ⟨trivial, ?_⟩
      with_reducible refine (allI_in _ _ trivial rfl _ _).mono ?_
      rintro e w2 ⟨rfl, rfl⟩
      gi_wp2_with (fail)
      have LS := Lib.hid (LeftS.start (q := q) H0.out HS.out hN)
      clear H0 HS hlb hnb hnf
      generalize (((wr.alloc (.cells #[.int .i64 m.length] 3)).setCell ⟨w.heap.size + 1, 0, none⟩ (.int .i64 q)).alloc (.cells #[.int .i64 0] 3)).alloc (.cells #[.pointer (some ⟨N, 0, none⟩)] 49) = W3 at LS ⊢
      generalize wr.heap.size = p at LS hsz hNw ⊢
      have HZ : p + 1 + 1 < W3.heap.size := LS.out.gbox.lt
      have hva := fun g (h : v.ownBlock = some g) => (LS.out.st.own.lt g h).2
      refine wpIn_rangeFunc_ownG rfl (by omega) (gf := 46) (lb := #[.pointer (some ⟨p + 1 + 1, 0, none⟩)]) rfl trivial (enters_of Try.func46 (by kernel_rfl) rfl)
        (allI_stops Fence.wide _ trivial rfl (by omega) (p + 1 + 1) N N v m (by omega) W3 HZ (LS.out.gbox.cell 0) LS.out.st) Kp3.trans (Kp3.b HZ (by omega) hva) (Below.refl _ _) (fun _ => rfl)
        (fun pre W => LeftI A c l m q p N v w pre W)
        (fun e pre W => ¬ Fits m pre ∨ (e = .exit 2 ∧ q ≤ m.length ∧ LeftS A c l m q p N v q w W))
        (LeftI.own (by omega))
        (fun e s W W' row hs hg hr => hs.imp id (fun ⟨h1, h2, h3⟩ => ⟨h1, h2, h3.of_row hg (fun r e => ⟨by have := (hr r e).1; omega, (hr r e).2⟩)⟩))
        ⟨Fits.nil m, q0, LS.out⟩
        (fun x => { tmps := #[Value.slice A l.length c, Value.int IntKind.i64 a1, Value.pointer (some { block := w.heap.size, off := 0 }), Value.pointer (some { block := w.heap.size + 1, off := 0 }), Value.pointer (some { block := w.heap.size + 1 + 1, off := 0 }), Value.pointer (some { block := N, off := 0 }), undef, u7, Value.pointer (some { block := p, off := 0 }), Value.pointer (some { block := p + 1, off := 0 }), Value.int IntKind.i64 x, Value.bool true, Value.bool false, Value.agg #[Value.slice none 0 0], Value.pointer (some { block := N, off := 0 }), Value.slice A l.length c, Value.slice A m.length c, Value.int IntKind.i64 ↑m.length, Value.int IntKind.i64 ↑m.length, Value.bool false, u20, u21, u22, u23, u24, u25, Value.slice A l.length c, Value.int IntKind.i64 ↑l.length, Value.int IntKind.i64 ↑m.length, Value.int IntKind.i64 a1, Value.int IntKind.i64 q, Value.pointer (some { block := N, off := 0 }), Value.func (Fn.func 46) #[] #[Value.pointer (some { block := p + 1 + 1, off := 0 })], Value.int IntKind.i64 x, undef, undef, undef, undef, undef, undef, undef, undef, undef, undef, undef, undef, undef, undef, undef, undef, undef, undef, undef, undef, undef, undef, undef, undef, undef, undef, undef, undef, undef, undef, undef, undef, undef], defers := [] }) ?assign ?body ?done ?stop
      case assign =>
        intro l x W K hK
        gi_wp2
        exact hK
      case body =>
        rintro t pre x W ⟨hE, hle, h⟩ hlen
        have hsW := h.z.rbox.lt
        have HZ0 := h.base
        obtain ⟨j, hj⟩ : ∃ j, m.length - pre.length = j + 1 := ⟨m.length - pre.length - 1, by omega⟩
        have hjm : j < m.length := by omega
        have hml : m.length ≤ l.length := by have := HL3.out; omega
        have hgo := Lib.hid (hE.go hj)
        have hno := Lib.hid (hE.no hj (x := x))
        obtain ⟨ad, rfl, hbl, hcc⟩ := (HM.out.below h.z.below).cells (by omega)
        have hx0 := hcc j hjm
        obtain ⟨y, hy⟩ : ∃ y, keyAt m j = y := ⟨_, rfl⟩
        have hy2 : m[j]?.getD 0 = y := by rw [← hy]; simp [keyAt, List.getD_eq_getElem?_getD]
        rw [hy] at hx0
        rw [hy2] at hgo hno
        clear hcc hy hy2
        have c1 : W.cell? ⟨p + 1, 0, none⟩ = some (.int .i64 pre.length) := h.mbox.cell 0
        have c2 : W.cell? ⟨w.heap.size + 1, 0, none⟩ = some (.int .i64 q) := h.z.nbox.cell 0
        by_cases e : (pre.length : Int) = q
        · have e1 : ((pre.length : Int) == q) = true := by simpa using e
          have H := Lib.hid h
          have E := Lib.hid e
          clear h e
          gi_wp2_with (fail)
          exact ⟨KeepsFrom.refl _ _, .inr ⟨rfl, by have := E.out; omega, by have := H.out; rw [E.out] at this; exact this⟩⟩
        · have e1 : ((pre.length : Int) == q) = false := by simpa using e
          have f1 := h.mbox.frozen 0
          have h2 := h.step
          have c3 : (W.setCell ⟨p + 1, 0, none⟩ (.int .i64 ((pre.length : Int) + 1))).cell? ⟨p + 1, 0, none⟩ = some (.int .i64 ((pre.length : Int) + 1)) := h2.mbox.cell 0
          have c4 : (W.setCell ⟨p + 1, 0, none⟩ (.int .i64 ((pre.length : Int) + 1))).cell? ⟨p, 0, none⟩ = some (.int .i64 m.length) := h2.kbox.cell 0
          have c5 : (W.setCell ⟨p + 1, 0, none⟩ (.int .i64 ((pre.length : Int) + 1))).cell? ⟨w.heap.size, 0, none⟩ = some (.slice (some ad) l.length c) := h2.z.lbox.cell 0
          have c6 : (W.setCell ⟨p + 1, 0, none⟩ (.int .i64 ((pre.length : Int) + 1))).cell? (ad.add j) = some (.int .i64 y) := (World.cell?_setCell_other _ _ _ _ (fun e => by have h1 := congrArg Addr.block e; rw [block_of_add] at h1; have h2 : (⟨p + 1, 0, none⟩ : Addr).block = p + 1 := rfl; rw [h2] at h1; have := HZ0; omega)).trans hx0
          have c7 : (W.setCell ⟨p + 1, 0, none⟩ (.int .i64 ((pre.length : Int) + 1))).cell? ⟨w.heap.size + 1 + 1, 0, none⟩ = some (.bool false) := h2.z.rbox.cell 0
          have c8 := h2.z.rbox.frozen 0
          have ej : (m.length : Int) - ((pre.length : Int) + 1) = j := by omega
          have e3 : (pre.length : Int) + 1 ≤ q := by omega
          have g1 : ¬ (m.length : Int) < (pre.length : Int) + 1 := by omega
          have hjl : (j : Int) < l.length := by omega
          have H2 := Lib.hid h2
          have hKp : Kp3 (p + 1 + 1) N v.ownBlock W (W.setCell ⟨p + 1, 0, none⟩ (.int .i64 ((pre.length : Int) + 1))) := by
            intro k hk
            refine Below.heap_setCell W _ _ k ?_
            rcases hk with rfl | rfl | hk
            · simp
            · simp; omega
            · simp
              rintro rfl
              have := h.base.2.2 _ hk; omega
          clear h h2 e
          by_cases hxy : x = y
          · subst hxy
            have hne : (x != x) = false := by simp
            gi_wp2_with (fail)
            exact ⟨(KeepsOthers.setCell _ _ _).from _, hKp, ⟨hgo.out, by simpa using e3, by have := H2.out; simpa using this⟩⟩
          · have hne : (x != y) = true := by simpa using hxy
            gi_wp2_with (fail)
            exact ⟨((KeepsOthers.setCell _ _ _).trans (KeepsOthers.setCell _ _ _)).from _, .inl (hno.out hxy)⟩
      case stop =>
        rintro D e pre W hD ⟨k', hk', rfl⟩ hn hK
        rcases hn with hn | ⟨rfl, hqm, LS⟩
        · exact absurd (Fits.of_take hk') hn
        have hmn : (if (m.length : Int) < q then (m.length : Int) else q) = q := by split <;> omega
        have hD4 : w.heap.size + 1 + 1 < D := by omega
        gi_wp2_with (fail)
        refine ⟨trivial, ?_⟩
        with_reducible refine (callsIn_wide.2 (known3_any _)).mono ?_
        rintro e w3 ⟨rfl, hb⟩
        have L3 := Lib.hid (LS.later hb)
        have hK3 := (hb.block D (Array.getElem?_eq_some_iff.1 hK).1).trans hK
        clear hb hK LS
        have c1 : w3.cell? ⟨p + 1, 0, none⟩ = some (.int .i64 q) := L3.out.mbox.cell 0
        have c2 : w3.cell? ⟨w.heap.size + 1, 0, none⟩ = some (.int .i64 q) := L3.out.z.nbox.cell 0
        have c3 : w3.cell? ⟨p, 0, none⟩ = some (.int .i64 m.length) := L3.out.kbox.cell 0
        have c4 : w3.cell? ⟨w.heap.size, 0, none⟩ = some (.slice A l.length c) := L3.out.z.lbox.cell 0
        gi_wp2_with (fail)
        refine ⟨trivial, ?_⟩
        with_reducible refine (callsIn_wide.2 (same_any _ _ _ m A c _ L3.out.st (IntsRd.of_at ((HM.out.below L3.out.z.below).more L3.out.z.below.size)) (by omega))).mono ?_
        rintro e w4 ⟨rfl, hb⟩
        have L4 := Lib.hid (L3.out.later hb)
        have hK4 := (hb.block D (Array.getElem?_eq_some_iff.1 hK3).1).trans hK3
        clear hb hK3 L3 c1 c2 c3 c4
        have c5 : w4.cell? ⟨w.heap.size + 1 + 1, 0, none⟩ = some (.bool false) := L4.out.z.rbox.cell 0
        have c6 := L4.out.z.rbox.frozen 0
        have hB4 := L4.out.z.below
        gi_wp2_with (fail)
        have hB3 : Below w.heap.size w (w4.setCell ⟨w.heap.size + 1 + 1, 0, none⟩ (.bool true)) := hB4.setCell (p := ⟨w.heap.size + 1 + 1, 0, none⟩) (by simp; omega) _
        have hK5 : (w4.setCell ⟨w.heap.size + 1 + 1, 0, none⟩ (.bool true)).heap[D]? = some (.deferred (some [])) := (Below.heap_setCell w4 _ _ D (by simp; omega)).trans hK4
        have hr3 : (w4.setCell ⟨w.heap.size + 1 + 1, 0, none⟩ (.bool true)).cell? ⟨w.heap.size + 1 + 1, 0, none⟩ = some (.bool true) := World.cell?_setCell_same' _ _ _ (by rw [c5]; rfl)
        generalize w4.setCell ⟨w.heap.size + 1 + 1, 0, none⟩ (.bool true) = w5 at hB3 hK5 hr3 ⊢
        have hr4 : (w5.putObj D (.deferred none)).cell? ⟨w.heap.size + 1 + 1, 0, none⟩ = some (.bool true) := (World.cell?_of_block (World.putObj_heap_other (by show w.heap.size + 1 + 1 ≠ D; omega))).trans hr3
        have hB6 : Below w.heap.size w (w5.putObj D (.deferred none)) := hB3.trans (belowK_b (w := w) (Nat.le_refl _) w5 D _ _ (by omega) hK5 rfl rfl)
        refine ⟨by simp, .inl ⟨_, _, rfl, run_takeDeferred hK5, ?_⟩⟩
        generalize w5.putObj D (.deferred none) = w6 at hr4 hB6 ⊢
        exact ⟨.bool true, by simp [results, Try.results12, go_sem, hr4], rfl, hB6⟩
      case done =>
        rintro D ys W hD rfl ⟨_, hle, LS⟩ hK
        rw [List.length_reverse] at hle LS
        have hmn : (if (m.length : Int) < q then (m.length : Int) else q) = (m.length : Int) := by split <;> omega
        have hD4 : w.heap.size + 1 + 1 < D := by omega
        gi_wp2_with (fail)
        refine ⟨trivial, ?_⟩
        with_reducible refine (callsIn_wide.2 (known3_any _)).mono ?_
        rintro e w3 ⟨rfl, hb⟩
        have L3 := Lib.hid (LS.later hb)
        have hK3 := (hb.block D (Array.getElem?_eq_some_iff.1 hK).1).trans hK
        clear hb hK LS
        have c1 : w3.cell? ⟨p + 1, 0, none⟩ = some (.int .i64 m.length) := L3.out.mbox.cell 0
        have c2 : w3.cell? ⟨w.heap.size + 1, 0, none⟩ = some (.int .i64 q) := L3.out.z.nbox.cell 0
        have c3 : w3.cell? ⟨p, 0, none⟩ = some (.int .i64 m.length) := L3.out.kbox.cell 0
        have c4 : w3.cell? ⟨w.heap.size, 0, none⟩ = some (.slice A l.length c) := L3.out.z.lbox.cell 0
        gi_wp2_with (fail)
        refine ⟨trivial, ?_⟩
        with_reducible refine (callsIn_wide.2 (same_any _ _ _ m A c _ L3.out.st (IntsRd.of_at ((HM.out.below L3.out.z.below).more L3.out.z.below.size)) (by omega))).mono ?_
        rintro e w4 ⟨rfl, hb⟩
        have L4 := Lib.hid (L3.out.later hb)
        have hK4 := (hb.block D (Array.getElem?_eq_some_iff.1 hK3).1).trans hK3
        clear hb hK3 L3 c1 c2 c3 c4
        have c5 : w4.cell? ⟨w.heap.size + 1 + 1, 0, none⟩ = some (.bool false) := L4.out.z.rbox.cell 0
        have c6 := L4.out.z.rbox.frozen 0
        have hB4 := L4.out.z.below
        gi_wp2_with (fail)
        have hB3 : Below w.heap.size w (w4.setCell ⟨w.heap.size + 1 + 1, 0, none⟩ (.bool true)) := hB4.setCell (p := ⟨w.heap.size + 1 + 1, 0, none⟩) (by simp; omega) _
        have hK5 : (w4.setCell ⟨w.heap.size + 1 + 1, 0, none⟩ (.bool true)).heap[D]? = some (.deferred (some [])) := (Below.heap_setCell w4 _ _ D (by simp; omega)).trans hK4
        have hr3 : (w4.setCell ⟨w.heap.size + 1 + 1, 0, none⟩ (.bool true)).cell? ⟨w.heap.size + 1 + 1, 0, none⟩ = some (.bool true) := World.cell?_setCell_same' _ _ _ (by rw [c5]; rfl)
        generalize w4.setCell ⟨w.heap.size + 1 + 1, 0, none⟩ (.bool true) = w5 at hB3 hK5 hr3 ⊢
        have hr4 : (w5.putObj D (.deferred none)).cell? ⟨w.heap.size + 1 + 1, 0, none⟩ = some (.bool true) := (World.cell?_of_block (World.putObj_heap_other (by show w.heap.size + 1 + 1 ≠ D; omega))).trans hr3
        have hB6 : Below w.heap.size w (w5.putObj D (.deferred none)) := hB3.trans (belowK_b (w := w) (Nat.le_refl _) w5 D _ _ (by omega) hK5 rfl rfl)
        refine ⟨by simp, .inl ⟨_, _, rfl, run_takeDeferred hK5, ?_⟩⟩
        generalize w5.putObj D (.deferred none) = w6 at hr4 hB6 ⊢
        exact ⟨.bool true, by simp [results, Try.results12, go_sem, hr4], rfl, hB6⟩
end Go.Proofs.Ytkfgnacbifiadaa
