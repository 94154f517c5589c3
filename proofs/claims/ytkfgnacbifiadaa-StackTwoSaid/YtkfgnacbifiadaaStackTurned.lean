/- The walk of StackTurned. -/
import Derived.Test.YtkfgnacbifiadaaStackKnown
namespace Go.Proofs.Ytkfgnacbifiadaa
set_option linter.unusedVariables false
set_option linter.unusedSimpArgs false
open Go.RowKit Go.Shelf
attribute [local go_sem] Oper.semAt_some

theorem IntsAt.take {w : World} {B : Nat} {A : Option Addr} {l : List Int} (h : IntsAt w B A l) (n : Nat) : IntsAt w B A (l.take n) := by
  refine ⟨by simp, fun hn => ?_⟩
  obtain ⟨ad, rfl, hb, hc⟩ := h.2 (by rw [List.length_take] at hn; omega)
  refine ⟨ad, rfl, hb, fun j u hu => hc j u ?_⟩
  rw [List.map_take, List.getElem?_take] at hu
  split at hu
  · exact hu
  · cases hu
theorem few_any (A : Option Addr) (c n : Nat) (N : Int) (l : List Int) (w : World) (hN : N = n) (hl : l.length ≤ 140737488351232) (hc : l.length ≤ c) (hn : n ≤ 1000) :
    Calls Try.prog 39 #[.slice A l.length c, .int .i64 N] w fun e w' => e = .returned (.slice A (l.take n).length c) ∧ w = w' := by
  subst hN
  by_cases h : n < l.length
  · have H := Lib.hid (show (l.take n).length = n by rw [List.length_take]; omega)
    have h2 : n ≤ c := by omega
    go_enter Try.func39, Try.ntmps39
    go_wp2
    go_ret
    rw [H.out]
    exact ⟨rfl, rfl⟩
  · have H := Lib.hid (show (l.take n).length = l.length by rw [List.length_take]; omega)
    go_enter Try.func39, Try.ntmps39
    go_wp2
    go_ret
    rw [H.out]
    exact ⟨rfl, rfl⟩
theorem KeepsOthers.of_mv {b : Nat} {r : Option Nat} {w w' : World} {t : TypeId} {cs : Array Value} (m : Mv b r w w') (hb : Blk w b t cs) (hr : ∀ (j : Nat) (o : Obj), r = some j → w.heap[j]? = some o → o.isCells = true) : KeepsOthers w w' :=
  ⟨m.size, fun k o hk ho => by
    refine (m.block k (Array.getElem?_eq_some_iff.1 hk).1 (fun e => ?_) (fun e => ?_)).trans hk
    · subst e
      unfold Blk at hb
      rw [hb] at hk
      injection hk with hk
      subst hk
      cases ho
    · have := hr k o e.symm hk
      rw [this] at ho
      cases ho⟩
theorem own_cells {base n : Nat} {e : TypeId} {size : Nat} {v : Value} {xs : List Value} {w : World} (hO : w.ownsRow base e size v n xs) (j : Nat) (o : Obj) (hj : v.ownBlock = some j) (ho : w.heap[j]? = some o) : o.isCells = true := by
  rcases hO.2 with ⟨rfl, _⟩ | ⟨g, cap, cur, rfl, _, hh, _⟩
  · simp [Value.ownBlock] at hj
  · have : g = j := by simpa [Value.ownBlock] using hj
    subst this
    rw [hh] at ho
    injection ho with ho
    subst ho
    rfl
theorem own_of_row {base n : Nat} {e : TypeId} {size : Nat} {v : Value} {xs : List Value} {w w' : World} {row : Option Nat} (hO : w.ownsRow base e size v n xs) (hg : w.grownBy w' row) (hr : ∀ r, row = some r → ∃ o : Obj, w.heap[r]? = some o ∧ o.isCells = false) : w'.ownsRow base e size v n xs := by
  refine own_kept hO hg ?_
  rcases hv : v.ownBlock with _ | g
  · exact .inl rfl
  · refine .inr fun e => ?_
    obtain ⟨o, ho, hc⟩ := hr g e.symm
    have := own_cells hO g o hv ho
    rw [this] at hc
    cases hc
theorem Blk.of_row {w w' : World} {g : Nat} {t : TypeId} {cs : Array Value} {row : Option Nat} (h : Blk w g t cs) (hg : w.grownBy w' row) (hr : ∀ r, row = some r → ∃ o : Obj, w.heap[r]? = some o ∧ o.isCells = false) : Blk w' g t cs := by
  refine h.grown hg (fun e => ?_)
  obtain ⟨o, ho, hc⟩ := hr g e.symm
  unfold Blk at h
  rw [h] at ho
  injection ho with ho
  subst ho
  cases hc
theorem StI.of_row {base b : Nat} {v : Value} {L : List Int} {w w' : World} {row : Option Nat} (h : StI base b v L w) (hg : w.grownBy w' row) (hr : ∀ r, row = some r → ∃ o : Obj, w.heap[r]? = some o ∧ o.isCells = false) : StI base b v L w' :=
  ⟨h.blk.of_row hg hr, own_of_row h.own hg hr, h.base_le⟩

/-- The three stacks and the box of the second, where the first has L. -/
structure Three (B n : Nat) (va vb vc : Value) (La Lb Lc : List Int) (w0 w : World) : Prop where
  a : StI B n va La w
  b : StI B (n + 1) vb Lb w
  c : StI B (n + 1 + 1) vc Lc w
  box : Blk w (n + 1 + 1 + 1) 49 #[.pointer (some ⟨n + 1, 0, none⟩)]
  ab : va.ownBlock = none ∨ va.ownBlock ≠ vb.ownBlock
  bc : vb.ownBlock = none ∨ vb.ownBlock ≠ vc.ownBlock
  ac : va.ownBlock = none ∨ va.ownBlock ≠ vc.ownBlock
  below : Below B w0 w
  base : B ≤ n
  base0 : B ≤ w0.heap.size

theorem Three.start {w w1 : World} (hB : Below w.heap.size w w1) : Three w.heap.size w1.heap.size (.slice none 0 0) (.slice none 0 0) (.slice none 0 0) [] [] [] w ((((w1.alloc (.cells #[.slice none 0 0] 51)).alloc (.cells #[.slice none 0 0] 51)).alloc (.cells #[.slice none 0 0] 51)).alloc (.cells #[.pointer (some ⟨w1.heap.size + 1, 0, none⟩)] 49)) := by
  have hz := hB.size
  have h1 := (((Blk.new w1 51 #[.slice none 0 0]).alloc (.cells #[.slice none 0 0] 51)).alloc (.cells #[.slice none 0 0] 51)).alloc (.cells #[.pointer (some ⟨w1.heap.size + 1, 0, none⟩)] 49)
  have h2 := ((Blk.new (w1.alloc (.cells #[.slice none 0 0] 51)) 51 #[.slice none 0 0]).alloc (.cells #[.slice none 0 0] 51)).alloc (.cells #[.pointer (some ⟨w1.heap.size + 1, 0, none⟩)] 49)
  have h3 := (Blk.new ((w1.alloc (.cells #[.slice none 0 0] 51)).alloc (.cells #[.slice none 0 0] 51)) 51 #[.slice none 0 0]).alloc (.cells #[.pointer (some ⟨w1.heap.size + 1, 0, none⟩)] 49)
  have h4 := Blk.new (((w1.alloc (.cells #[.slice none 0 0] 51)).alloc (.cells #[.slice none 0 0] 51)).alloc (.cells #[.slice none 0 0] 51)) 49 #[.pointer (some ⟨w1.heap.size + 1, 0, none⟩)]
  simp only [World.size_alloc] at h2 h3 h4
  exact ⟨⟨h1, World.ownsRow_nil _ _ _ _, hz⟩, ⟨h2, World.ownsRow_nil _ _ _ _, by omega⟩, ⟨h3, World.ownsRow_nil _ _ _ _, by omega⟩, h4, .inl rfl, .inl rfl, .inl rfl,
    (((hB.alloc hz _).alloc (by simp; omega) _).alloc (by simp; omega) _).alloc (by simp; omega) _, hz, Nat.le_refl _⟩

section
variable {B n : Nat} {va vb vc v' : Value} {La Lb Lc L' : List Int} {w0 w w' : World}
theorem Three.onA (h : Three B n va vb vc La Lb Lc w0 w) (h' : StI B n v' L' w') (m : Mv n va.ownBlock w w') (o : v'.ownBlock = va.ownBlock ∨ v'.ownBlock = some (w.heap.size + 1)) : Three B n v' vb vc L' Lb Lc w0 w' :=
  ⟨h', ⟨m.blk h.b.blk (by omega) (fun e => own_blk_ne h.a.own h.b.blk (by decide) e.symm), m.own h.b.own (own_blk_ne h.b.own h.a.blk (by decide)) (dj_symm h.ab), h.b.base_le⟩,
    ⟨m.blk h.c.blk (by omega) (fun e => own_blk_ne h.a.own h.c.blk (by decide) e.symm), m.own h.c.own (own_blk_ne h.c.own h.a.blk (by decide)) (dj_symm h.ac), h.c.base_le⟩,
    m.blk h.box (by omega) (fun e => own_blk_ne h.a.own h.box (by decide) e.symm),
    dj_push o (dj_symm h.ab) (fun g hg => (h.b.own.lt g hg).2), h.bc, dj_push o (dj_symm h.ac) (fun g hg => (h.c.own.lt g hg).2),
    h.below.trans (m.below h.base (Nat.le_trans h.base0 h.below.size) (fun g hg => (h.a.own.lt g hg).1)), h.base, h.base0⟩
theorem Three.onB (h : Three B n va vb vc La Lb Lc w0 w) (h' : StI B (n + 1) v' L' w') (m : Mv (n + 1) vb.ownBlock w w') (o : v'.ownBlock = vb.ownBlock ∨ v'.ownBlock = some (w.heap.size + 1)) : Three B n va v' vc La L' Lc w0 w' :=
  ⟨⟨m.blk h.a.blk (by omega) (fun e => own_blk_ne h.b.own h.a.blk (by decide) e.symm), m.own h.a.own (own_blk_ne h.a.own h.b.blk (by decide)) h.ab, h.a.base_le⟩, h',
    ⟨m.blk h.c.blk (by omega) (fun e => own_blk_ne h.b.own h.c.blk (by decide) e.symm), m.own h.c.own (own_blk_ne h.c.own h.b.blk (by decide)) (dj_symm h.bc), h.c.base_le⟩,
    m.blk h.box (by omega) (fun e => own_blk_ne h.b.own h.box (by decide) e.symm),
    dj_symm (dj_push o h.ab (fun g hg => (h.a.own.lt g hg).2)), dj_push o (dj_symm h.bc) (fun g hg => (h.c.own.lt g hg).2), h.ac,
    h.below.trans (m.below (by have := h.base; omega) (Nat.le_trans h.base0 h.below.size) (fun g hg => (h.b.own.lt g hg).1)), h.base, h.base0⟩
theorem Three.onC (h : Three B n va vb vc La Lb Lc w0 w) (h' : StI B (n + 1 + 1) v' L' w') (m : Mv (n + 1 + 1) vc.ownBlock w w') (o : v'.ownBlock = vc.ownBlock ∨ v'.ownBlock = some (w.heap.size + 1)) : Three B n va vb v' La Lb L' w0 w' :=
  ⟨⟨m.blk h.a.blk (by omega) (fun e => own_blk_ne h.c.own h.a.blk (by decide) e.symm), m.own h.a.own (own_blk_ne h.a.own h.c.blk (by decide)) h.ac, h.a.base_le⟩,
    ⟨m.blk h.b.blk (by omega) (fun e => own_blk_ne h.c.own h.b.blk (by decide) e.symm), m.own h.b.own (own_blk_ne h.b.own h.c.blk (by decide)) h.bc, h.b.base_le⟩, h',
    m.blk h.box (by omega) (fun e => own_blk_ne h.c.own h.box (by decide) e.symm),
    h.ab, dj_symm (dj_push o h.bc (fun g hg => (h.b.own.lt g hg).2)), dj_symm (dj_push o h.ac (fun g hg => (h.a.own.lt g hg).2)),
    h.below.trans (m.below (by have := h.base; omega) (Nat.le_trans h.base0 h.below.size) (fun g hg => (h.c.own.lt g hg).1)), h.base, h.base0⟩
theorem Three.later (h : Three B n va vb vc La Lb Lc w0 w) (hb : Below w.heap.size w w') : Three B n va vb vc La Lb Lc w0 w' :=
  ⟨h.a.below hb (Nat.le_refl _), h.b.below hb (Nat.le_refl _), h.c.below hb (Nat.le_refl _), h.box.below hb h.box.lt, h.ab, h.bc, h.ac, h.below.trans (hb.mono (Nat.le_trans h.base0 h.below.size)), h.base, h.base0⟩
theorem Three.of_row (h : Three B n va vb vc La Lb Lc w0 w) {row : Option Nat} (hg : w.grownBy w' row) (hr : ∀ r, row = some r → B ≤ r ∧ ∃ o : Obj, w.heap[r]? = some o ∧ o.isCells = false) : Three B n va vb vc La Lb Lc w0 w' :=
  have hr2 := fun r e => (hr r e).2
  ⟨h.a.of_row hg hr2, h.b.of_row hg hr2, h.c.of_row hg hr2, h.box.of_row hg hr2, h.ab, h.bc, h.ac, h.below.trans ((Below.refl B w).grown hg (Nat.le_trans h.base0 h.below.size) (fun r e => (hr r e).1)), h.base, h.base0⟩
end
theorem StI.keepD {base b D : Nat} {v : Value} {L : List Int} {w w' : World} {x : Option (List Deferred)} (h : StI base b v L w) (m : Mv b v.ownBlock w w') (hD : w.heap[D]? = some (.deferred x)) : w'.heap[D]? = some (.deferred x) :=
  m.keep hD (by
    rintro rfl
    have := h.blk
    unfold Blk at this
    rw [hD] at this
    cases this) (own_ne_def h.own hD)

theorem IntsRd.of_at {w : World} {B : Nat} {A : Option Addr} {q : List Int} (h : IntsAt w B A q) : IntsRd w B A q := h
def TurnI (B n g : Nat) (va : Value) (m : List Int) (w0 : World) (pre : List Int) (W : World) : Prop := ∃ vb, Three B n va vb (.slice none 0 0) m pre [] w0 W ∧ Blk W g 49 #[.pointer (some ⟨n, 0, none⟩)]
theorem TurnI.own {B n g z : Nat} {va : Value} {m : List Int} {w0 : World} (hz : B ≤ z) : OwnFrom z (TurnI B n g va m w0) := fun s W W' row hs hg hr => by
  obtain ⟨vb, h, hb⟩ := hs
  exact ⟨vb, h.of_row hg (fun r e => ⟨Nat.le_trans hz (hr r e).1, (hr r e).2⟩), hb.of_row hg (fun r e => (hr r e).2)⟩

set_option maxRecDepth 100000 in
set_option maxHeartbeats 3000000 in
theorem stackTurned_walk (A : Option Addr) (c : Nat) (l : List Int) {w : World} (hq : IntsAt w w.heap.size A l) (hl : l.length * 8 ≤ 140737488351232) (hc : l.length ≤ c) (hw : ∀ i, i < l.length → -9223372036854775808 ≤ keyAt l i ∧ keyAt l i ≤ 9223372036854775807) :
    Calls Try.prog 14 #[.slice A l.length c] w fun e w' => e = .returned (.bool true) ∧ Below w.heap.size w w' := by
  have HQ := Lib.hid hq
  clear hq
  refine (callsIn_wide (n := 3)).1 ?_
  refine callsIn_of_wp_marks Try.func14 rfl trivial ?_ rfl
  simp only [Try.ntmps14, List.size_toArray, List.length_cons, List.length_nil, Nat.reduceAdd, Nat.reduceSub, Array.replicate_succ, Array.replicate_zero, List.push_toArray, List.append_toArray, List.nil_append, List.cons_append]
  gi_wp2_with (fail)
  refine ⟨trivial, ?_⟩
  with_reducible refine (callsIn_wide.2 (known3_any _)).mono ?_
  rintro e w1 ⟨rfl, hB1⟩
  gi_wp2_with (fail)
  refine ⟨trivial, ?_⟩
  with_reducible refine (callsIn_wide.2 (few_any A c 200 200 l _ rfl (by omega) hc (by omega))).mono ?_
  rintro e w2 ⟨rfl, rfl⟩
  have HQ1 := Lib.hid (HQ.out.take 200)
  have hl2 : (l.take 200).length ≤ 200 := by rw [List.length_take]; omega
  have hc2 : (l.take 200).length ≤ c := by rw [List.length_take]; omega
  clear HQ hl hc hw
  generalize l.take 200 = m at HQ1 hl2 hc2 ⊢
  gi_wp2_with (fail)
  have h3 := Three.start hB1
  have hz1 := hB1.size
  generalize w1.heap.size = n at h3 hz1 ⊢
  gi_loopw [24] (fun i wr => ∃ (k : Nat) (va : Value), k ≤ m.length ∧ i = .int .i64 k ∧ Three w.heap.size n va (.slice none 0 0) (.slice none 0 0) (m.take k) [] [] w wr) (fun i _ => m.length - (intOf i).toNat)
  case atStart => exact ⟨0, _, by omega, rfl, by simpa using h3⟩
  case round =>
    obtain ⟨k, va, k1, rfl, h⟩ := hrel
    clear h3 hB1
    by_cases hlt : k < m.length
    · obtain ⟨ad, rfl, hbl, hcc⟩ := (HQ1.out.below h.below).cells (by omega)
      have hx0 := hcc k hlt
      have ht := Lib.hid (show m.take (k + 1) = m.take k ++ [keyAt m k] by rw [List.take_add_one, List.getElem?_eq_getElem hlt]; simp [keyAt, List.getD_eq_getElem?_getD, hlt])
      obtain ⟨x, hx⟩ : ∃ x, keyAt m k = x := ⟨_, rfl⟩
      rw [hx] at hx0 ht
      have H := Lib.hid h
      clear hcc hx h
      gi_wp2_with (fail)
      refine ⟨trivial, ?_⟩
      with_reducible refine (callsIn_wide.2 (pushI_any _ _ _ (m.take k) x _ H.out.a (by rw [List.length_take]; omega))).mono ?_
      rintro e w2 ⟨rfl, va', ha', m1, ob⟩
      have H2 := Lib.hid (H.out.onA ha' m1 ob)
      rw [← ht.out] at H2
      clear ha' m1 ob H
      gi_wp2_with (fail)
      go_roundw
      case rel => exact ⟨k + 1, va', by omega, by go_num, H2.out⟩
      case measure => simp [intOf]; omega
    · have ek : k = m.length := by omega
      subst ek
      rw [List.take_of_length_le (Nat.le_refl _)] at h
      have H := Lib.hid h
      clear h
      gi_wp2_with (fail)
      refine ⟨trivial, ?_⟩
      with_reducible refine (allI_in _ _ trivial rfl _ _).mono ?_
      rintro e w2 ⟨rfl, rfl⟩
      gi_wp2_with (fail)
      have h3 := H.out.later ((Below.refl _ wr).alloc (Nat.le_refl _) (.cells #[.pointer (some ⟨n, 0, none⟩)] 49))
      have hbx3 := (Boxed.new wr 49 (.pointer (some ⟨n, 0, none⟩))).cell
      have hbb3 := Blk.new wr 49 #[.pointer (some ⟨n, 0, none⟩)]
      have hsz3 : (wr.alloc (.cells #[.pointer (some ⟨n, 0, none⟩)] 49)).heap.size = wr.heap.size + 1 := by simp
      have hgn : n + 1 + 1 + 1 < wr.heap.size := H.out.box.lt
      have hva := fun g (h : va.ownBlock = some g) => (H.out.a.own.lt g h).2
      clear H
      generalize wr.alloc (.cells #[.pointer (some ⟨n, 0, none⟩)] 49) = W3 at h3 hbx3 hbb3 hsz3 ⊢
      generalize wr.heap.size = g at hbx3 hbb3 hsz3 hgn hva ⊢
      have HZ := Lib.hid hsz3
      clear hsz3
      refine wpIn_rangeFunc_ownG rfl (by omega) (gf := 46) (lb := #[.pointer (some ⟨g, 0, none⟩)]) rfl trivial (enters_of Try.func46 (by kernel_rfl) rfl)
        (allI_stops Fence.wide _ trivial rfl (by omega) g w.heap.size n va m (by omega) W3 (by rw [HZ.out]; omega) hbx3 h3.a) Kp3.trans (Kp3.b (by rw [HZ.out]; omega) (by rw [HZ.out]; omega) (fun g' h => by have := hva g' h; rw [HZ.out]; omega)) (Below.refl _ _) (fun _ => rfl)
        (fun pre W => TurnI w.heap.size n g va m w pre W)
        (fun _ _ _ => False)
        (TurnI.own (by rw [HZ.out]; have := h3.base; omega))
        (fun _ => Own.from (fun s A' B' row hs hg hr => hs) _)
        ⟨_, h3, hbb3⟩
        (fun x => { tmps := #[Value.slice A m.length c, undef, Value.bool false, Value.pointer (some { block := n, off := 0 }), Value.pointer (some { block := n + 1 + 1 + 1, off := 0 }), Value.pointer (some { block := n + 1 + 1, off := 0 }), undef, u7, Value.int IntKind.i64 x, undef, undef, undef, Value.bool true, Value.bool false, Value.slice A l.length c, Value.slice A m.length c, Value.agg #[Value.slice none 0 0], Value.pointer (some { block := n, off := 0 }), Value.agg #[Value.slice none 0 0], Value.pointer (some { block := n + 1, off := 0 }), Value.agg #[Value.slice none 0 0], Value.pointer (some { block := n + 1 + 1, off := 0 }), Value.slice A m.length c, Value.int IntKind.i64 ↑m.length, Value.int IntKind.i64 ↑m.length, Value.bool false, u26, u27, u28, u29, u30, u31, Value.pointer (some { block := n, off := 0 }), Value.func (Fn.func 46) #[] #[Value.pointer (some { block := g, off := 0 })], Value.int IntKind.i64 x, undef, undef, undef, undef, undef, undef, undef, undef, undef, undef, undef, undef, undef, undef, undef, undef, undef, undef, undef, undef, undef, undef, undef, undef, undef, undef, undef, undef, undef, undef, undef, undef, undef, undef, undef, undef, undef, undef, undef, undef, undef, undef, undef], defers := [] }) ?assign ?body ?done ?stop
      case assign =>
        intro l x W K hK
        gi_wp2
        exact hK
      case body =>
        rintro l pre x W ⟨vb, h, hg⟩ hlen
        have hbx := h.box.cell 0
        have H := Lib.hid h
        have HG := Lib.hid hg
        clear h hg
        gi_wp2_with (fail)
        refine ⟨trivial, ?_⟩
        with_reducible refine (CallsIn.inRound l (callsIn_wide.2 (pushI_any _ _ _ pre x _ H.out.b (by omega)))).mono ?_
        rintro e w2 ⟨rfl, vb', hb', m1, ob⟩
        have hKO := KeepsOthers.of_mv m1 H.out.b.blk (own_cells H.out.b.own)
        have hKp : Kp3 g n va.ownBlock W w2 := by
          intro k hk
          rcases hk with rfl | rfl | hk
          · exact m1.block _ HG.out.lt (by omega) (fun e => own_blk_ne H.out.b.own HG.out (by decide) e.symm)
          · exact m1.block _ H.out.a.blk.lt (by omega) (fun e => own_blk_ne H.out.b.own H.out.a.blk (by decide) e.symm)
          · refine m1.block _ (H.out.a.own.lt k hk).2 (fun e => own_blk_ne H.out.a.own H.out.b.blk (by decide) (by rw [hk, e])) (fun e => ?_)
            rcases H.out.ab with h | h
            · rw [h] at hk; cases hk
            · exact h (by rw [hk, e])
        have H2 := H.out.onB hb' m1 ob
        have HG2 := m1.blk HG.out (by omega) (fun e => own_blk_ne H.out.b.own HG.out (by decide) e.symm)
        clear hb' m1 ob H HG
        gi_wp2_with (fail)
        exact ⟨hKO.from _, hKp, ⟨_, H2, HG2⟩⟩
      case stop =>
        rintro D e pre W _ _ hn _
        exact hn.elim
      case done =>
        rintro D ys W hD rfl ⟨vb, h, _⟩ hK
        have hD4 : g + 1 ≤ D := by rw [← HZ.out]; exact hD
        have H := Lib.hid h
        clear h3 hbx3 HZ hD h hva
        gi_wp2_with (fail)
        gi_loopw [9] (fun i wr => ∃ (k : Nat) (vb vc : Value), k ≤ m.length ∧ i = .int .i64 k ∧ Three w.heap.size n va vb vc m (m.drop k).reverse (m.take k) w wr ∧ wr.heap[D]? = some (.deferred (some []))) (fun i _ => m.length - (intOf i).toNat)
        case atStart => exact ⟨0, vb, _, by omega, rfl, H.out, hK⟩
        case round =>
          obtain ⟨k, vb, vc, k1, rfl, h, hK⟩ := hrel
          by_cases hlt : k < m.length
          · obtain ⟨x, hx⟩ : ∃ x, keyAt m k = x := ⟨_, rfl⟩
            have hd := Lib.hid (show (m.drop k).reverse = (m.drop (k + 1)).reverse ++ [x] by rw [← hx, List.drop_eq_getElem_cons hlt]; simp [keyAt, List.getD_eq_getElem?_getD, hlt])
            have ht := Lib.hid (show m.take (k + 1) = m.take k ++ [x] by rw [← hx, List.take_add_one, List.getElem?_eq_getElem hlt]; simp [keyAt, List.getD_eq_getElem?_getD, hlt])
            rw [hd.out] at h
            have HX := Lib.hid hx
            have H := Lib.hid h
            clear h hx
            have hbx := H.out.box.cell 0
            gi_wp2_with (fail)
            refine ⟨trivial, ?_⟩
            with_reducible refine (callsIn_wide.2 (popI_snoc _ _ _ (m.drop (k + 1)).reverse x _ H.out.b (by rw [List.length_reverse, List.length_drop]; omega))).mono ?_
            rintro e w2 ⟨rfl, vb', hb', ob, m1⟩
            have H2 := Lib.hid (H.out.onB hb' m1 (.inl ob))
            have hK2 := H.out.b.keepD m1 hK
            obtain ⟨ad, rfl, hbl, hcc⟩ := (HQ1.out.below H2.out.below).cells (by omega)
            have hx0 := hcc k hlt
            rw [HX.out] at hx0
            clear hb' m1 ob H hK hbx hcc
            gi_wp2_with (fail)
            refine ⟨trivial, ?_⟩
            with_reducible refine (callsIn_wide.2 (pushI_any _ _ _ (m.take k) x _ H2.out.c (by rw [List.length_take]; omega))).mono ?_
            rintro e w3 ⟨rfl, vc', hc', m1, ob⟩
            have H3 := Lib.hid (H2.out.onC hc' m1 ob)
            rw [← ht.out] at H3
            have hK3 := H2.out.c.keepD m1 hK2
            clear hc' m1 ob H2 hK2 hx0
            gi_wp2_with (fail)
            go_roundw
            case rel => exact ⟨k + 1, vb', vc', by omega, by go_num, H3.out, hK3⟩
            case measure => simp [intOf]; omega
          · have ek : k = m.length := by omega
            subst ek
            rw [List.take_of_length_le (Nat.le_refl _), List.drop_of_length_le (Nat.le_refl _)] at h
            have H := Lib.hid h
            clear h
            gi_wp2_with (fail)
            refine ⟨trivial, ?_⟩
            with_reducible refine (callsIn_wide.2 (known3_any _)).mono ?_
            rintro e w2 ⟨rfl, hb⟩
            have H2 := Lib.hid (H.out.later hb)
            have hK2 := (hb.block D (Array.getElem?_eq_some_iff.1 hK).1).trans hK
            clear hb H hK
            gi_wp2_with (fail)
            refine ⟨trivial, ?_⟩
            with_reducible refine (callsIn_wide.2 (same_any _ _ _ m A c _ H2.out.c (IntsRd.of_at ((HQ1.out.below H2.out.below).more H2.out.below.size)) (by omega))).mono ?_
            rintro e w3 ⟨rfl, hb⟩
            have H3 := Lib.hid (H2.out.later hb)
            have hK3 := (hb.block D (Array.getElem?_eq_some_iff.1 hK2).1).trans hK2
            clear hb H2 hK2
            gi_wp2_with (fail)
            refine ⟨trivial, ?_⟩
            with_reducible refine (callsIn_wide.2 (same_any _ _ _ m A c _ H3.out.a (IntsRd.of_at ((HQ1.out.below H3.out.below).more H3.out.below.size)) (by omega))).mono ?_
            rintro e w4 ⟨rfl, hb⟩
            have H4 := Lib.hid (H3.out.later hb)
            have hK4 := (hb.block D (Array.getElem?_eq_some_iff.1 hK3).1).trans hK3
            clear hb H3 hK3
            have hbx := H4.out.box.cell 0
            gi_wp2_with (fail)
            refine ⟨trivial, ?_⟩
            with_reducible refine (callsIn_wide.2 (lenI_any _ _ _ _ _ H4.out.b)).mono ?_
            rintro e w5 ⟨rfl, rfl⟩
            gi_wp2_with (fail)
            have hB9 := H4.out.below.trans (belowK_b (w := w) (Nat.le_refl _) w4 D _ (.deferred none) (by omega) hK4 rfl rfl)
            refine ⟨by simp, .inl ⟨_, _, rfl, run_takeDeferred hK4, ?_⟩⟩
            exact ⟨_, results_tmp rfl _ _ _, rfl, hB9⟩
end Go.Proofs.Ytkfgnacbifiadaa
