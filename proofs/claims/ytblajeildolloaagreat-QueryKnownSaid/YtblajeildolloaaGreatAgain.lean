/- The frame of again. -/
import Derived.Test.YtblajeildolloaaGreatChg
import Derived.Test.YtblajeildolloaaGreatPeek
namespace Go.Proofs.YtblajeildolloaaGreat
set_option linter.unusedVariables false
set_option linter.unusedSimpArgs false
open Go.RowKit

structure AS where
  left : List (Int × Int)
  peek : Option PS
  same : Bool
  done : Bool
def AS.look (s : AS) : AS := match s.left with
  | [] => { s with same := true, done := true }
  | p :: _ => { s with peek := some (PS.init p.1) }
def AS.init (l : List (Int × Int)) : AS := AS.look ⟨l, none, false, false⟩
def AS.step (R : Int → Int) (s : AS) : AS := match s.done, s.peek, s.left with
  | false, some p, x :: l =>
    if (p.step R).next ≠ 3 then { s with peek := some (p.step R) }
    else if (p.step R).word ≠ x.2 then { s with peek := some (p.step R), done := true }
    else AS.look { s with peek := some (p.step R), left := l }
  | _, _, _ => s
def AS.acc (s : AS) : Option Int := match s.done, s.peek with
  | false, some p => p.acc
  | _, _ => none
def spotB (x : Int × Int) : Prop := -9223372036854775808 ≤ x.1 ∧ x.1 ≤ 9223372036854775807 ∧ -9223372036854775808 ≤ x.2 ∧ x.2 ≤ 9223372036854775807
structure AS.Inv (s : AS) : Prop where
  left : ∀ x ∈ s.left, spotB x
  st : s.done = true ∨ s.done = false ∧ ∃ p x l, s.peek = some p ∧ s.left = x :: l ∧ p.Inv ∧ p.next ≠ 3
theorem AS.Inv.look {s : AS} (hl : ∀ x ∈ s.left, spotB x) (hd : s.done = false) : s.look.Inv := by
  rcases s with ⟨left, peek, same, done⟩
  rcases left with _ | ⟨x, l⟩
  · exact ⟨hl, .inl rfl⟩
  · have hx := hl x (by simp)
    exact ⟨hl, .inr ⟨hd, _, _, _, rfl, rfl, PS.Inv.init hx.1 hx.2.1, by simp [PS.init]⟩⟩
theorem AS.Inv.init {l : List (Int × Int)} (h : ∀ x ∈ l, spotB x) : (AS.init l).Inv := AS.Inv.look h rfl
theorem AS.step_done {R : Int → Int} {s : AS} (h : s.done = true) : s.step R = s := by
  unfold AS.step; rw [h]
theorem AS.step_go {R : Int → Int} {s : AS} {p : PS} {x : Int × Int} {l : List (Int × Int)} (h : s.done = false) (hp : s.peek = some p) (hl : s.left = x :: l) (hn : (p.step R).next ≠ 3) : s.step R = { s with peek := some (p.step R) } := by
  unfold AS.step; rw [h, hp, hl]; exact if_pos hn
theorem AS.step_no {R : Int → Int} {s : AS} {p : PS} {x : Int × Int} {l : List (Int × Int)} (h : s.done = false) (hp : s.peek = some p) (hl : s.left = x :: l) (hn : (p.step R).next = 3) (hw : (p.step R).word ≠ x.2) : s.step R = { s with peek := some (p.step R), done := true } := by
  unfold AS.step; rw [h, hp, hl]
  show (if (p.step R).next ≠ 3 then _ else _) = _
  rw [if_neg (by simpa using hn), if_pos hw]
theorem AS.step_on {R : Int → Int} {s : AS} {p : PS} {x : Int × Int} {l : List (Int × Int)} (h : s.done = false) (hp : s.peek = some p) (hl : s.left = x :: l) (hn : (p.step R).next = 3) (hw : (p.step R).word = x.2) : s.step R = AS.look { s with peek := some (p.step R), left := l } := by
  unfold AS.step; rw [h, hp, hl]
  show (if (p.step R).next ≠ 3 then _ else _) = _
  rw [if_neg (by simpa using hn), if_neg (by simpa using hw)]
theorem AS.acc_done {s : AS} (h : s.done = true) : s.acc = none := by unfold AS.acc; rw [h]
theorem AS.acc_go {s : AS} {p : PS} (h : s.done = false) (hp : s.peek = some p) : s.acc = p.acc := by unfold AS.acc; rw [h, hp]
theorem AS.Inv.step {s : AS} (h : s.Inv) {R : Int → Int} (hR : ∀ a, -9223372036854775808 ≤ R a ∧ R a ≤ 9223372036854775807) : (s.step R).Inv := by
  rcases h.st with hd | ⟨hd, p, x, l, hp, hl, hI, hn⟩
  · rw [AS.step_done hd]; exact h
  · by_cases hn2 : (p.step R).next = 3
    · by_cases hw : (p.step R).word = x.2
      · rw [AS.step_on hd hp hl hn2 hw]
        exact AS.Inv.look (fun y hy => h.left y (by rw [hl]; exact List.mem_cons_of_mem _ hy)) hd
      · rw [AS.step_no hd hp hl hn2 hw]
        exact ⟨h.left, .inl rfl⟩
    · rw [AS.step_go hd hp hl hn2]
      exact ⟨h.left, .inr ⟨hd, _, x, l, rfl, hl, hI.step hR, hn2⟩⟩

def PeekO (F : Nat → Prop) (pv : Value) (o : Option PS) (w : World) : Prop := match o with
  | none => pv = .pointer none
  | some p => ∃ pb, pv = .pointer (some ⟨pb, 0, none⟩) ∧ F pb ∧ PeekP pb p w
def LeftP (F : Nat → Prop) (A : Option Addr) (c : Nat) (L : List (Int × Int)) (w : World) : Prop :=
  L.length ≤ c ∧ ∃ v0 L0 k, w.ownsRow 0 114 2 v0 L0.length (cellsP L0) ∧ (∀ g, v0.ownBlock = some g → F g) ∧ L = L0.drop k ∧ (0 < L.length → ∃ g, v0.ownBlock = some g ∧ A = some ⟨g, k * 2, none⟩)
def AgainB (A : Option Addr) (c : Nat) (pv : Value) (s : AS) : Array Value := #[.slice A s.left.length c, pv, .bool s.same, .bool s.done]
structure AgainQ (F : Nat → Prop) (b : Nat) (s : AS) (A : Option Addr) (c : Nat) (pv : Value) (w : World) : Prop where
  fb : F b
  blk : Blk w b 194 #[.slice A s.left.length c, pv, .bool s.same, .bool s.done]
  left : LeftP F A c s.left w
  peek : PeekO F pv s.peek w
def AgainP (F : Nat → Prop) (b : Nat) (s : AS) (w : World) : Prop := ∃ A c pv, AgainQ F b s A c pv w
section
variable {F G : Nat → Prop} {b c : Nat} {s : AS} {A : Option Addr} {pv : Value} {o : Option PS} {L : List (Int × Int)} {w w' : World}
theorem PeekO.mono (h : PeekO F pv o w) (hs : ∀ x, F x → G x) : PeekO G pv o w := by
  cases o with
  | none => exact h
  | some p => obtain ⟨pb, h1, h2, h3⟩ := h; exact ⟨pb, h1, hs _ h2, h3⟩
theorem PeekO.chg (h : PeekO F pv o w) (m : Chg G w w') (hd : ∀ x, F x → G x → False) : PeekO F pv o w' := by
  cases o with
  | none => exact h
  | some p => obtain ⟨pb, h1, h2, h3⟩ := h; exact ⟨pb, h1, h2, m.blk h3 (fun hg => hd _ h2 hg)⟩
theorem LeftP.mono (h : LeftP F A c L w) (hs : ∀ x, F x → G x) : LeftP G A c L w := by
  obtain ⟨h0, v0, L0, k, h1, h2, h3⟩ := h
  exact ⟨h0, v0, L0, k, h1, fun g hg => hs _ (h2 g hg), h3⟩
theorem LeftP.chg (h : LeftP F A c L w) (m : Chg G w w') (hd : ∀ x, (∃ cs, Blk w x 114 cs) → F x → G x → False) : LeftP F A c L w' := by
  obtain ⟨h0, v0, L0, k, h1, h2, h3⟩ := h
  refine ⟨h0, v0, L0, k, m.own h1 (fun g hg hG => hd g ?_ (h2 g hg) hG), h2, h3⟩
  rcases h1.2 with ⟨rfl, _⟩ | ⟨g', cap, cur, rfl, _, hgg, _⟩
  · simp [Value.ownBlock] at hg
  · have : g' = g := by simpa [Value.ownBlock] using hg
    subst this
    exact ⟨_, hgg⟩
theorem LeftP.below (h : LeftP F A c L w) (hb : Below w.heap.size w w') : LeftP F A c L w' := h.chg (G := fun _ => False) (Chg.of_below hb) (fun _ _ _ hg => hg)
theorem LeftP.head {x : Int × Int} {l : List (Int × Int)} (h : LeftP F A c (x :: l) w) : ∃ g k, A = some ⟨g, k * 2, none⟩ ∧ w.cell? ⟨g, k * 2, none⟩ = some (.int .i64 x.1) ∧ w.cell? ⟨g, k * 2 + 1, none⟩ = some (.int .i64 x.2) := by
  obtain ⟨h0, v0, L0, k, h1, h2, h3, h4⟩ := h
  obtain ⟨g, hv, hA⟩ := h4 (by simp)
  have hk : k < L0.length := by
    rcases Nat.lt_or_ge k L0.length with hk | hk
    · exact hk
    · rw [List.drop_eq_nil_of_le hk] at h3; cases h3
  have hx : L0[k]? = some x := by
    have : (L0.drop k)[0]? = some x := by rw [← h3]; rfl
    rw [List.getElem?_drop] at this; exact this
  obtain ⟨g', cap, rfl, _, _⟩ := h1.form (by omega)
  have hg : g' = g := by simpa [Value.ownBlock] using hv
  subst hg
  have e0 : pkey L0 k = x.1 := by unfold pkey; rw [List.getD_eq_getElem?_getD, hx]; rfl
  have e1 : pval L0 k = x.2 := by unfold pval; rw [List.getD_eq_getElem?_getD, hx]; rfl
  refine ⟨g', k, hA, ?_, ?_⟩
  · rw [h1.cellAt (k * 2) (by omega), cellsP_key hk, e0]
  · rw [h1.cellAt (k * 2 + 1) (by omega), cellsP_val hk, e1]
theorem LeftP.tail {x : Int × Int} {l : List (Int × Int)} {g k : Nat} (h : LeftP F (some ⟨g, k * 2, none⟩) c (x :: l) w) : LeftP F (if c = 1 then some ⟨g, k * 2, none⟩ else some ⟨g, k * 2 + 2, none⟩) (c - 1) l w := by
  obtain ⟨h0, v0, L0, k', h1, h2, h3, h4⟩ := h
  obtain ⟨g', hv, hA⟩ := h4 (by simp)
  injection hA with hA
  have hgg : g = g' ∧ k = k' := by injection hA with a b; exact ⟨a, by omega⟩
  obtain ⟨rfl, rfl⟩ := hgg
  simp only [List.length_cons] at h0
  refine ⟨by omega, v0, L0, k + 1, h1, h2, ?_, fun hl => ⟨g, hv, ?_⟩⟩
  · have := congrArg (List.drop 1) h3
    rw [List.drop_drop] at this
    simpa using this
  · rw [if_neg (by omega)]
    simp [Nat.add_mul]
theorem AgainQ.mono (h : AgainQ F b s A c pv w) (hs : ∀ x, F x → G x) : AgainQ G b s A c pv w := ⟨hs _ h.fb, h.blk, h.left.mono hs, h.peek.mono hs⟩
theorem AgainP.mono (h : AgainP F b s w) (hs : ∀ x, F x → G x) : AgainP G b s w := by
  obtain ⟨A, c, pv, h⟩ := h
  exact ⟨A, c, pv, h.mono hs⟩
theorem AgainP.chg (h : AgainP F b s w) (m : Chg G w w') (hd : ∀ x, F x → G x → False) : AgainP F b s w' := by
  obtain ⟨A, c, pv, h⟩ := h
  exact ⟨A, c, pv, h.fb, m.blk h.blk (fun hg => hd _ h.fb hg), h.left.chg m (fun x _ => hd x), h.peek.chg m hd⟩
theorem AgainP.below (h : AgainP F b s w) (hb : Below w.heap.size w w') : AgainP F b s w' := h.chg (G := fun _ => False) (Chg.of_below hb) (fun _ _ hg => hg)
end
section
variable (F : Nat → Prop) (b : Nat) (s : AS) (w : World) (h : AgainP F b s w)
include h
set_option maxHeartbeats 400000 in
theorem doneA_any : Calls Tryz.prog 76 #[.pointer (some ⟨b, 0, none⟩)] w fun e w' => e = .returned (.bool s.done) ∧ w = w' := by
  obtain ⟨A, c, pv, h⟩ := h
  have c3 : w.cell? ⟨b, 3, none⟩ = some (.bool s.done) := h.blk.cell 3
  clear h
  go_enter Tryz.func76, Tryz.ntmps76
  go_wp2_with (fail)
  go_ret
  exact ⟨rfl, rfl⟩
set_option maxHeartbeats 400000 in
theorem sameA_any : Calls Tryz.prog 78 #[.pointer (some ⟨b, 0, none⟩)] w fun e w' => e = .returned (.bool s.same) ∧ w = w' := by
  obtain ⟨A, c, pv, h⟩ := h
  have c2 : w.cell? ⟨b, 2, none⟩ = some (.bool s.same) := h.blk.cell 2
  clear h
  go_enter Tryz.func78, Tryz.ntmps78
  go_wp2_with (fail)
  go_ret
  exact ⟨rfl, rfl⟩
set_option maxHeartbeats 1000000 in
theorem lookA_any : Calls Tryz.prog 143 #[.pointer (some ⟨b, 0, none⟩)] w fun e w' => e = .returned (.tuple #[]) ∧ AgainP (fun x => F x ∨ w.heap.size ≤ x) b s.look w' ∧ Chg (fun x => x = b) w w' := by
  obtain ⟨A, c, pv, h⟩ := h
  rcases s with ⟨left, peek, same, done⟩
  have hl := h.left
  rcases left with _ | ⟨x, l⟩
  · have c0 : w.cell? ⟨b, 0, none⟩ = some (.slice A 0 c) := h.blk.cell 0
    have c2 : w.cell? ⟨b, 2, none⟩ = some (.bool same) := h.blk.cell 2
    have c3 : w.cell? ⟨b, 3, none⟩ = some (.bool done) := h.blk.cell 3
    have f2 := h.blk.frozen 2
    have f3 := h.blk.frozen 3
    have hO : Chg (fun x => x = b) w ((w.setCell ⟨b, 2, none⟩ (.bool true)).setCell ⟨b, 3, none⟩ (.bool true)) := Chg.trans (F := fun x => x = b) (Chg.of_mv (F := fun x => x = b) (Mv.set1 _ _ _ _) rfl) (Chg.of_mv (F := fun x => x = b) (Mv.set1 _ _ _ _) rfl)
    have H : Hid (AgainP (fun x => F x ∨ w.heap.size ≤ x) b ⟨[], peek, true, true⟩ ((w.setCell ⟨b, 2, none⟩ (.bool true)).setCell ⟨b, 3, none⟩ (.bool true))) := Lib.hid (by
      refine ⟨A, c, pv, .inl h.fb, (h.blk.set_ 2 _).set_ 3 _, ?_, ?_⟩
      · refine (h.left.chg hO (fun y ⟨cs, hb⟩ _ e => ?_)).mono (fun _ => .inl)
        subst e
        exact hb.ne_ h.blk (by decide) rfl
      · have hp := h.peek
        cases peek with
        | none => exact hp
        | some p => obtain ⟨pb, h1, h2, h3⟩ := hp; exact ⟨pb, h1, .inl h2, hO.blk h3 (fun e => h3.blk.ne_ h.blk (by decide) e)⟩)
    have HO := Lib.hid hO
    clear hO
    clear h hl
    go_enter Tryz.func143, Tryz.ntmps143
    go_wp2_with (fail)
    refine bodyPost_ret (results_none rfl _ _ _) rfl ?_
    exact ⟨rfl, H.out, HO.out⟩
  · obtain ⟨g, k, rfl, hx1, hx2⟩ := hl.head
    have c0 : w.cell? ⟨b, 0, none⟩ = some (.slice (some ⟨g, k * 2, none⟩) (l.length + 1) c) := h.blk.cell 0
    have H := Lib.hid h
    clear h hl hx2
    go_enter Tryz.func143, Tryz.ntmps143
    go_wp2_with (fail)
    with_reducible refine (newPk_any x.1 _).mono ?_
    rintro e w1 ⟨rfl, hp, hb, hz⟩
    have hB1 := H.out.blk.below hb H.out.blk.lt
    have c1 : w1.cell? ⟨b, 1, none⟩ = some pv := hB1.cell 1
    have f1 := hB1.frozen 1
    have hO : Chg (fun x => x = b) w1 (w1.setCell ⟨b, 1, none⟩ (.pointer (some ⟨w.heap.size, 0, none⟩))) := Chg.of_mv (Mv.set1 _ _ _ _) rfl
    have HA : Hid (AgainP (fun x => F x ∨ w.heap.size ≤ x) b ⟨x :: l, some (PS.init x.1), same, done⟩ (w1.setCell ⟨b, 1, none⟩ (.pointer (some ⟨w.heap.size, 0, none⟩)))) := Lib.hid (by
      refine ⟨_, c, .pointer (some ⟨w.heap.size, 0, none⟩), .inl H.out.fb, hB1.set_ 1 _, ?_, ?_⟩
      · refine ((H.out.left.below hb).chg hO (fun y ⟨cs, hb⟩ _ e => ?_)).mono (fun _ => .inl)
        subst e
        exact hb.ne_ hB1 (by decide) rfl
      · exact ⟨w.heap.size, rfl, .inr (Nat.le_refl _), hO.blk hp (fun e => hp.blk.ne_ hB1 (by decide) e)⟩)
    have HO := Lib.hid (Chg.trans (F := fun x => x = b) (Chg.of_below hb) hO)
    clear hp hb hz hB1 hO H
    go_wp2_with (fail)
    go_end0
    exact ⟨rfl, HA.out, HO.out⟩
end
def NewAPost (L : List (Int × Int)) (w : World) (e : Ending) (w' : World) : Prop := ∃ b, e = .returned (.pointer (some ⟨b, 0, none⟩)) ∧ AgainP (fun x => w.heap.size ≤ x) b (AS.init L) w' ∧ Below w.heap.size w w'
set_option maxHeartbeats 1000000 in
theorem newA_any (A : Option Addr) (c N : Nat) (L : List (Int × Int)) (w : World) (hN : N = L.length) (h : PairsAt w w.heap.size A L) (hl : L.length ≤ 1000000) :
    Calls Tryz.prog 74 #[.slice A N c] w (NewAPost L w) := by
  have HN := Lib.hid hN
  have H := Lib.hid h
  clear hN h
  go_enter Tryz.func74, Tryz.ntmps74
  go_wp2_with (fail)
  with_reducible refine (cloneS_any A c N L _ HN.out H.out hl).mono ?_
  rintro e w1 ⟨v, rfl, hO, hb⟩
  obtain ⟨A1, c1, rfl⟩ := own_shape hO
  have hle : L.length ≤ c1 := own_cap hO
  have hP : AgainP (fun x => w.heap.size ≤ x) w1.heap.size ⟨L, none, false, false⟩ (w1.alloc (.cells #[.slice A1 L.length c1, .pointer none, .bool false, .bool false] 194)) := by
    have ha := (Below.refl w1.heap.size w1).alloc (Nat.le_refl _) (.cells #[.slice A1 L.length c1, .pointer none, .bool false, .bool false] 194)
    refine ⟨A1, c1, .pointer none, hb.size, Blk.new _ _ _, ?_, rfl⟩
    refine LeftP.below ⟨hle, _, L, 0, own_base hO (Nat.zero_le _), fun g hg => (hO.lt g hg).1, rfl, fun hp => ?_⟩ ha
    obtain ⟨g, cap, hv, _, _⟩ := hO.form hp
    injection hv with hA
    exact ⟨g, by rw [hA]; rfl, by rw [hA]⟩
  have HP := Lib.hid hP
  have hB1 := hb.alloc (Nat.le_of_lt (Nat.lt_succ_of_le hb.size) |> fun _ => hb.size) (.cells #[.slice A1 L.length c1, .pointer none, .bool false, .bool false] 194)
  have hz := hb.size
  have hsz : (w1.alloc (.cells #[.slice A1 L.length c1, .pointer none, .bool false, .bool false] 194)).heap.size = w1.heap.size + 1 := by simp
  have SZ := Lib.hid hsz
  clear hO hb hP H HN hsz
  go_wp2_with (fail)
  with_reducible refine (lookA_any _ _ _ _ HP.out).mono ?_
  rintro e w2 ⟨rfl, h2, o2⟩
  have HP2 : Hid (AgainP (fun x => w.heap.size ≤ x) w1.heap.size (AS.init L) w2) := Lib.hid (h2.mono (fun x hx => by
    rcases hx with h | h
    · exact h
    · rw [SZ.out] at h; omega))
  have hB2 := hB1.trans (o2.below (B := w.heap.size) (fun x hx => by subst hx; exact hz) (by rw [SZ.out]; omega))
  clear h2 o2 HP
  go_wp2_with (fail)
  go_ret
  exact ⟨_, rfl, HP2.out, hB2⟩
def APost (F : Nat → Prop) (b bm : Nat) (s : AS) (B : Nat) (v : Value) (C : List Int) (size count odd ref : Int) (w : World) (e : Ending) (w' : World) : Prop :=
  e = .returned (.bool (s.step (rdC C)).done) ∧ AgainP (fun x => F x ∨ w.heap.size ≤ x) b (s.step (rdC C)) w' ∧ MemP B bm v C size (cntO s.acc count) (oddO C s.acc odd) ref w' ∧ Chg (fun x => F x ∨ x = bm) w w'
set_option maxRecDepth 100000 in
set_option maxHeartbeats 1000000 in
theorem stepA_any (F : Nat → Prop) (b bm : Nat) (s : AS) (B : Nat) (v : Value) (C : List Int) (size count odd ref : Int) (w : World) (h : AgainP F b s w) (hm : MemP B bm v C size count odd ref w) (hI : s.Inv) (hC : C.length ≤ 1000000) (hw : ∀ i, i < C.length → -9223372036854775808 ≤ keyAt C i ∧ keyAt C i ≤ 9223372036854775807) :
    Calls Tryz.prog 77 #[.pointer (some ⟨b, 0, none⟩), .pointer (some ⟨bm, 0, none⟩)] w (APost F b bm s B v C size count odd ref w) := by
  rcases hI.st with hd | ⟨hd, p, x, l, hp, hl, hpI, hn⟩
  · have hs := Lib.hid (AS.step_done (R := rdC C) hd)
    have ha := Lib.hid (AS.acc_done hd)
    have HH := Lib.hid h
    obtain ⟨A, c, pv, h⟩ := h
    have c3 : w.cell? ⟨b, 3, none⟩ = some (.bool true) := by rw [← hd]; exact h.blk.cell 3
    have HM := Lib.hid hm
    have HD := Lib.hid hd
    clear hm hd
    clear h hI
    go_enter Tryz.func77, Tryz.ntmps77
    go_wp2_with (fail)
    go_ret
    unfold APost
    rw [hs.out, ha.out]
    exact ⟨ret_bool HD.out.symm, HH.out.mono (fun _ => .inl), HM.out, Chg.refl _ _⟩
  · obtain ⟨A, c, pv, h⟩ := h
    rcases s with ⟨left, peek, same, done⟩
    simp only at hd hp hl
    subst hd hp hl
    have hA := Lib.hid (AS.acc_go (s := ⟨x :: l, some p, same, false⟩) rfl rfl)
    obtain ⟨pb, rfl, hFp, hP⟩ := h.peek
    have c1 : w.cell? ⟨b, 1, none⟩ = some (.pointer (some ⟨pb, 0, none⟩)) := h.blk.cell 1
    have c3 : w.cell? ⟨b, 3, none⟩ = some (.bool false) := h.blk.cell 3
    have hxb := hI.left x (by simp)
    have H := Lib.hid h
    have HP := Lib.hid hP
    have HM := Lib.hid hm
    clear h hP hm
    clear hI hn
    go_enter Tryz.func77, Tryz.ntmps77
    go_wp2_with (fail)
    with_reducible refine (stepPk_any pb bm p B v C size count odd ref _ HP.out HM.out hpI hC hw).mono ?_
    rintro e w1 ⟨rfl, hP1, hm1, o1⟩
    have hB1 : Blk w1 b 194 #[.slice A (x :: l).length c, .pointer (some ⟨pb, 0, none⟩), .bool same, .bool false] := o1.blk H.out.blk (by
      simp
      exact ⟨fun e => H.out.blk.ne_ HP.out.blk (by decide) e, fun e => H.out.blk.ne_ HM.out.blk (by decide) e⟩)
    have hL1 : LeftP F A c (x :: l) w1 := H.out.left.chg (Chg.of_only (F := fun y => y = pb ∨ y = bm) o1 (by simp)) (fun y ⟨cs, hb⟩ _ hy => by
      rcases hy with rfl | rfl
      · exact hb.ne_ HP.out.blk (by decide) rfl
      · exact hb.ne_ HM.out.blk (by decide) rfl)
    have O1 : Hid (Chg (fun x => F x ∨ x = bm) w w1) := Lib.hid (Chg.of_only o1 (by simp; exact .inl hFp))
    have HM1 := Lib.hid hm1
    have hne : b ≠ bm := hB1.ne_ hm1.blk (by decide)
    have hvb := own_blk_not hm1.own hB1 (by decide)
    have hz1 := o1.size
    have hFb := H.out.fb
    clear o1 hm1 H HP HM c1 c3
    obtain ⟨p1, hp1⟩ : ∃ p1, p.step (rdC C) = p1 := ⟨_, rfl⟩
    rw [hp1] at hP1 ⊢
    have HP1 := Lib.hid hP1
    by_cases h3 : p1.next = 3
    · have e3 : (p1.next == 3) = true := by simpa using h3
      have hpI1 := hpI.step (rdC_bd hw)
      rw [hp1] at hpI1
      obtain ⟨g, k, rfl, hx1, hx2⟩ := hL1.head
      have c0 : w1.cell? ⟨b, 0, none⟩ = some (.slice (some ⟨g, k * 2, none⟩) (l.length + 1) c) := hB1.cell 0
      have c1 : w1.cell? ⟨b, 1, none⟩ = some (.pointer (some ⟨pb, 0, none⟩)) := hB1.cell 1
      have HB1 := Lib.hid hB1
      have HL1 := Lib.hid hL1
      rw [e3]
      clear e3 hB1 hL1 hP1 hx1 hpI
      by_cases hword : p1.word = x.2
      · have hs := Lib.hid (AS.step_on (R := rdC C) (s := ⟨x :: l, some p, same, false⟩) rfl rfl rfl (by rw [hp1]; exact h3) (by rw [hp1]; exact hword))
        have ew : (p1.word != x.2) = false := by simpa using hword
        have HP1X := Lib.hid hp1
        clear hword h3 hp1
        go_wp2_with (fail)
        go_quiet ((go_at_call 120; exact quiet_left (wordPk_any pb p1 _ (HP1.out.blk.drewN _))))
        rename_i nq
        have hD := drawn_bl (Drawn.of w1 nq) w1.heap.size
        have hB2 := HB1.out.below hD HB1.out.lt
        have hL2 := HL1.out.below hD
        have hP2 : PeekP pb p1 (w1.drewN nq) := HP1.out
        have HM2 := Lib.hid (HM1.out.below hD)
        have O2 : Hid (Chg (fun x => F x ∨ x = bm) w (w1.drewN nq)) := Lib.hid (O1.out.trans (Chg.of_below hD))
        have hz2 : w.heap.size ≤ (w1.drewN nq).heap.size := hz1
        clear c0 c1 hx2 hD HB1 HL1 HP1 HM1 O1 hz1
        generalize w1.drewN nq = w2 at hB2 hL2 hP2 HM2 O2 hz2 ⊢
        have c0 : w2.cell? ⟨b, 0, none⟩ = some (.slice (some ⟨g, k * 2, none⟩) (l.length + 1) c) := hB2.cell 0
        have f0 := hB2.frozen 0
        have hlc : l.length + 1 ≤ c := hL2.1
        have hLt := hL2.tail
        by_cases hc1 : c = 1
        · subst hc1
          have hln : l = [] := List.eq_nil_of_length_eq_zero (by omega)
          subst hln
          rw [if_pos rfl] at hLt
          have o3 := Chg.of_mv (F := fun y => y = b) (Mv.set1 w2 b 0 (.slice (some ⟨g, k * 2, none⟩) 0 0)) rfl
          have HX : Hid (AgainP F b ⟨[], some p1, same, false⟩ (w2.setCell ⟨b, 0, none⟩ (.slice (some ⟨g, k * 2, none⟩) 0 0))) := Lib.hid ⟨_, 0, _, hFb, hB2.set_ 0 _, hLt.chg o3 (fun y ⟨cs, hb⟩ _ hy => hb.ne_ hB2 (by decide) hy), pb, rfl, hFp, o3.blk hP2 (fun e => hP2.blk.ne_ hB2 (by decide) e)⟩
          have HM3 := Lib.hid (HM2.out.chg o3 (fun e => hne e.symm) (fun y hy e => hvb y hy e))
          have O3 : Hid (Chg (fun x => F x ∨ x = bm) w (w2.setCell ⟨b, 0, none⟩ (.slice (some ⟨g, k * 2, none⟩) 0 0))) := Lib.hid (O2.out.trans (o3.mono (fun y hy => .inl (hy ▸ hFb))))
          have SZ := Lib.hid (show (w2.setCell ⟨b, 0, none⟩ (.slice (some ⟨g, k * 2, none⟩) 0 0)).heap.size = w2.heap.size by simp)
          clear hB2 hL2 hP2 HM2 O2 o3 hLt
          go_wp2_with (fail)
          with_reducible refine (lookA_any _ _ _ _ HX.out).mono ?_
          rintro e w3 ⟨rfl, h3, o3⟩
          have HX3 : Hid (AgainP (fun y => F y ∨ w.heap.size ≤ y) b (AS.look ⟨[], some p1, same, false⟩) w3) := Lib.hid (h3.mono (fun y hy => by
            rcases hy with h | h
            · exact .inl h
            · rw [SZ.out] at h; exact .inr (by omega)))
          have HM4 := Lib.hid (HM3.out.chg o3 (fun e => hne e.symm) (fun y hy e => hvb y hy e))
          have O4 : Hid (Chg (fun x => F x ∨ x = bm) w w3) := Lib.hid (O3.out.trans (o3.mono (fun y hy => .inl (hy ▸ hFb))))
          clear h3 o3 HX HM3 O3 c0 f0
          obtain ⟨s4, hs4⟩ : ∃ s4, AS.look ⟨[], some p1, same, false⟩ = s4 := ⟨_, rfl⟩
          rw [hs4] at HX3
          have HS4 := Lib.hid hs4
          clear hs4
          obtain ⟨A4, c4', pv4, hq4⟩ := HX3.out
          have c3 : w3.cell? ⟨b, 3, none⟩ = some (.bool s4.done) := hq4.blk.cell 3
          clear hq4
          go_wp2_with (fail)
          go_ret
          unfold APost
          rw [hs.out, hA.out, HP1X.out, HS4.out]
          exact ⟨rfl, HX3.out, HM4.out, O4.out⟩
        · rw [if_neg hc1] at hLt
          have o3 := Chg.of_mv (F := fun y => y = b) (Mv.set1 w2 b 0 (.slice (some ⟨g, k * 2 + 2, none⟩) l.length (c - 1))) rfl
          have HX : Hid (AgainP F b ⟨l, some p1, same, false⟩ (w2.setCell ⟨b, 0, none⟩ (.slice (some ⟨g, k * 2 + 2, none⟩) l.length (c - 1)))) := Lib.hid ⟨_, (c - 1), _, hFb, hB2.set_ 0 _, hLt.chg o3 (fun y ⟨cs, hb⟩ _ hy => hb.ne_ hB2 (by decide) hy), pb, rfl, hFp, o3.blk hP2 (fun e => hP2.blk.ne_ hB2 (by decide) e)⟩
          have HM3 := Lib.hid (HM2.out.chg o3 (fun e => hne e.symm) (fun y hy e => hvb y hy e))
          have O3 : Hid (Chg (fun x => F x ∨ x = bm) w (w2.setCell ⟨b, 0, none⟩ (.slice (some ⟨g, k * 2 + 2, none⟩) l.length (c - 1)))) := Lib.hid (O2.out.trans (o3.mono (fun y hy => .inl (hy ▸ hFb))))
          have SZ := Lib.hid (show (w2.setCell ⟨b, 0, none⟩ (.slice (some ⟨g, k * 2 + 2, none⟩) l.length (c - 1))).heap.size = w2.heap.size by simp)
          clear hB2 hL2 hP2 HM2 O2 o3 hLt
          go_wp2_with (fail)
          with_reducible refine (lookA_any _ _ _ _ HX.out).mono ?_
          rintro e w3 ⟨rfl, h3, o3⟩
          have HX3 : Hid (AgainP (fun y => F y ∨ w.heap.size ≤ y) b (AS.look ⟨l, some p1, same, false⟩) w3) := Lib.hid (h3.mono (fun y hy => by
            rcases hy with h | h
            · exact .inl h
            · rw [SZ.out] at h; exact .inr (by omega)))
          have HM4 := Lib.hid (HM3.out.chg o3 (fun e => hne e.symm) (fun y hy e => hvb y hy e))
          have O4 : Hid (Chg (fun x => F x ∨ x = bm) w w3) := Lib.hid (O3.out.trans (o3.mono (fun y hy => .inl (hy ▸ hFb))))
          clear h3 o3 HX HM3 O3 c0 f0
          obtain ⟨s4, hs4⟩ : ∃ s4, AS.look ⟨l, some p1, same, false⟩ = s4 := ⟨_, rfl⟩
          rw [hs4] at HX3
          have HS4 := Lib.hid hs4
          clear hs4
          obtain ⟨A4, c4', pv4, hq4⟩ := HX3.out
          have c3 : w3.cell? ⟨b, 3, none⟩ = some (.bool s4.done) := hq4.blk.cell 3
          clear hq4
          go_wp2_with (fail)
          go_ret
          unfold APost
          rw [hs.out, hA.out, HP1X.out, HS4.out]
          exact ⟨rfl, HX3.out, HM4.out, O4.out⟩
      · have hs := Lib.hid (AS.step_no (R := rdC C) (s := ⟨x :: l, some p, same, false⟩) rfl rfl rfl (by rw [hp1]; exact h3) (by rw [hp1]; exact hword))
        have ew : (p1.word != x.2) = true := by simpa using hword
        have HP1X := Lib.hid hp1
        clear hword h3 hp1
        go_wp2_with (fail)
        go_quiet ((go_at_call 120; exact quiet_left (wordPk_any pb p1 _ (HP1.out.blk.drewN _))))
        rename_i nq
        have hD := drawn_bl (Drawn.of w1 nq) w1.heap.size
        have hB2 := HB1.out.below hD HB1.out.lt
        have hL2 := HL1.out.below hD
        have hP2 : PeekP pb p1 (w1.drewN nq) := HP1.out
        have HM2 := Lib.hid (HM1.out.below hD)
        have O2 : Hid (Chg (fun x => F x ∨ x = bm) w (w1.drewN nq)) := Lib.hid (O1.out.trans (Chg.of_below hD))
        clear c0 c1 hx2 hD HB1 HL1 HP1 HM1 O1 hz1
        generalize w1.drewN nq = w2 at hB2 hL2 hP2 HM2 O2 ⊢
        have f3 := hB2.frozen 3
        have c3 : w2.cell? ⟨b, 3, none⟩ = some (.bool false) := hB2.cell 3
        have o3 := Chg.of_mv (F := fun y => y = b) (Mv.set1 w2 b 3 (.bool true)) rfl
        have HX : Hid (AgainP (fun y => F y ∨ w.heap.size ≤ y) b ⟨x :: l, some p1, same, true⟩ (w2.setCell ⟨b, 3, none⟩ (.bool true))) := Lib.hid ⟨_, c, _, .inl hFb, hB2.set_ 3 _, (hL2.chg o3 (fun y ⟨cs, hb⟩ _ hy => hb.ne_ hB2 (by decide) hy)).mono (fun _ => .inl), pb, rfl, .inl hFp, o3.blk hP2 (fun e => hP2.blk.ne_ hB2 (by decide) e)⟩
        have HM3 := Lib.hid (HM2.out.chg o3 (fun e => hne e.symm) (fun y hy e => hvb y hy e))
        have O3 : Hid (Chg (fun x => F x ∨ x = bm) w (w2.setCell ⟨b, 3, none⟩ (.bool true))) := Lib.hid (O2.out.trans (o3.mono (fun y hy => .inl (hy ▸ hFb))))
        clear hB2 hL2 hP2 HM2 O2 o3
        go_wp2_with (fail)
        go_ret
        unfold APost
        rw [hs.out, hA.out, HP1X.out]
        exact ⟨rfl, HX.out, HM3.out, O3.out⟩
    · have e3 : (p1.next == 3) = false := by simpa using h3
      have c3 : w1.cell? ⟨b, 3, none⟩ = some (.bool false) := hB1.cell 3
      have hs := Lib.hid (AS.step_go (R := rdC C) (s := ⟨x :: l, some p, same, false⟩) rfl rfl rfl (by rw [hp1]; exact h3))
      have HX : Hid (AgainP (fun y => F y ∨ w.heap.size ≤ y) b ⟨x :: l, some p1, same, false⟩ w1) := Lib.hid ⟨A, c, _, .inl hFb, hB1, hL1.mono (fun _ => .inl), pb, rfl, .inl hFp, hP1⟩
      have HP1X := Lib.hid hp1
      rw [e3]
      clear e3 hB1 hL1 hP1 hp1
      go_wp2_with (fail)
      go_ret
      unfold APost
      rw [hs.out, hA.out, HP1X.out]
      exact ⟨rfl, HX.out, HM1.out, O1.out⟩
end Go.Proofs.YtblajeildolloaaGreat
