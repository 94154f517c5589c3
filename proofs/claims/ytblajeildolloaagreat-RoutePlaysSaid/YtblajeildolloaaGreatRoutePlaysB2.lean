/- Part 2 of what the statement of RoutePlays needs: Again, SeekM, WalkM, Seek, MemW, Levels, Push, Walk, SeekT, WalkAll, MathP, MathQ, PlantM, SeekRun, Root, PartD. No condition. -/
import Derived.Test.YtblajeildolloaaGreatRoutePlaysB1
import Derived.StillTailTactics
import Derived.Deep.RegionHeld3
import Derived.Deep.RegionLaw
import Derived.Deep.QuietTactic
import Derived.BigQuiet
import Derived.RegionTactic
import Derived.ChangeAlike
/- The frame of again. -/
namespace Go.Proofs.YtblajeildolloaaGreat
set_option linter.unusedVariables false
set_option linter.unusedSimpArgs false
open Go.RowKit

structure AS where
  left : List (Int × Int)
  peek : Option PS
  same : Bool
  done : Bool
def AS.look (s : AS) : AS := match s.left with
  | [] => { s with same := true, done := true }
  | p :: _ => { s with peek := some (PS.init p.1) }
def AS.init (l : List (Int × Int)) : AS := AS.look ⟨l, none, false, false⟩
def AS.step (R : Int → Int) (s : AS) : AS := match s.done, s.peek, s.left with
  | false, some p, x :: l =>
    if (p.step R).next ≠ 3 then { s with peek := some (p.step R) }
    else if (p.step R).word ≠ x.2 then { s with peek := some (p.step R), done := true }
    else AS.look { s with peek := some (p.step R), left := l }
  | _, _, _ => s
def AS.acc (s : AS) : Option Int := match s.done, s.peek with
  | false, some p => p.acc
  | _, _ => none
def spotB (x : Int × Int) : Prop := -9223372036854775808 ≤ x.1 ∧ x.1 ≤ 9223372036854775807 ∧ -9223372036854775808 ≤ x.2 ∧ x.2 ≤ 9223372036854775807
structure AS.Inv (s : AS) : Prop where
  left : ∀ x ∈ s.left, spotB x
  st : s.done = true ∨ s.done = false ∧ ∃ p x l, s.peek = some p ∧ s.left = x :: l ∧ p.Inv ∧ p.next ≠ 3
theorem AS.Inv.look {s : AS} (hl : ∀ x ∈ s.left, spotB x) (hd : s.done = false) : s.look.Inv := by
  rcases s with ⟨left, peek, same, done⟩
  rcases left with _ | ⟨x, l⟩
  · exact ⟨hl, .inl rfl⟩
  · have hx := hl x (by simp)
    exact ⟨hl, .inr ⟨hd, _, _, _, rfl, rfl, PS.Inv.init hx.1 hx.2.1, by simp [PS.init]⟩⟩
theorem AS.Inv.init {l : List (Int × Int)} (h : ∀ x ∈ l, spotB x) : (AS.init l).Inv := AS.Inv.look h rfl
theorem AS.step_done {R : Int → Int} {s : AS} (h : s.done = true) : s.step R = s := by
  unfold AS.step; rw [h]
theorem AS.step_go {R : Int → Int} {s : AS} {p : PS} {x : Int × Int} {l : List (Int × Int)} (h : s.done = false) (hp : s.peek = some p) (hl : s.left = x :: l) (hn : (p.step R).next ≠ 3) : s.step R = { s with peek := some (p.step R) } := by
  unfold AS.step; rw [h, hp, hl]; exact if_pos hn
theorem AS.step_no {R : Int → Int} {s : AS} {p : PS} {x : Int × Int} {l : List (Int × Int)} (h : s.done = false) (hp : s.peek = some p) (hl : s.left = x :: l) (hn : (p.step R).next = 3) (hw : (p.step R).word ≠ x.2) : s.step R = { s with peek := some (p.step R), done := true } := by
  unfold AS.step; rw [h, hp, hl]
  show (if (p.step R).next ≠ 3 then _ else _) = _
  rw [if_neg (by simpa using hn), if_pos hw]
theorem AS.step_on {R : Int → Int} {s : AS} {p : PS} {x : Int × Int} {l : List (Int × Int)} (h : s.done = false) (hp : s.peek = some p) (hl : s.left = x :: l) (hn : (p.step R).next = 3) (hw : (p.step R).word = x.2) : s.step R = AS.look { s with peek := some (p.step R), left := l } := by
  unfold AS.step; rw [h, hp, hl]
  show (if (p.step R).next ≠ 3 then _ else _) = _
  rw [if_neg (by simpa using hn), if_neg (by simpa using hw)]
theorem AS.acc_done {s : AS} (h : s.done = true) : s.acc = none := by unfold AS.acc; rw [h]
theorem AS.acc_go {s : AS} {p : PS} (h : s.done = false) (hp : s.peek = some p) : s.acc = p.acc := by unfold AS.acc; rw [h, hp]
theorem AS.Inv.step {s : AS} (h : s.Inv) {R : Int → Int} (hR : ∀ a, -9223372036854775808 ≤ R a ∧ R a ≤ 9223372036854775807) : (s.step R).Inv := by
  rcases h.st with hd | ⟨hd, p, x, l, hp, hl, hI, hn⟩
  · rw [AS.step_done hd]; exact h
  · by_cases hn2 : (p.step R).next = 3
    · by_cases hw : (p.step R).word = x.2
      · rw [AS.step_on hd hp hl hn2 hw]
        exact AS.Inv.look (fun y hy => h.left y (by rw [hl]; exact List.mem_cons_of_mem _ hy)) hd
      · rw [AS.step_no hd hp hl hn2 hw]
        exact ⟨h.left, .inl rfl⟩
    · rw [AS.step_go hd hp hl hn2]
      exact ⟨h.left, .inr ⟨hd, _, x, l, rfl, hl, hI.step hR, hn2⟩⟩

def PeekO (F : Nat → Prop) (pv : Value) (o : Option PS) (w : World) : Prop := match o with
  | none => pv = .pointer none
  | some p => ∃ pb, pv = .pointer (some ⟨pb, 0, none⟩) ∧ F pb ∧ PeekP pb p w
def LeftP (F : Nat → Prop) (A : Option Addr) (c : Nat) (L : List (Int × Int)) (w : World) : Prop :=
  L.length ≤ c ∧ ∃ v0 L0 k, w.ownsRow 0 114 2 v0 L0.length (cellsP L0) ∧ (∀ g, v0.ownBlock = some g → F g) ∧ L = L0.drop k ∧ (0 < L.length → ∃ g, v0.ownBlock = some g ∧ A = some ⟨g, k * 2, none⟩)
def AgainB (A : Option Addr) (c : Nat) (pv : Value) (s : AS) : Array Value := #[.slice A s.left.length c, pv, .bool s.same, .bool s.done]
structure AgainQ (F : Nat → Prop) (b : Nat) (s : AS) (A : Option Addr) (c : Nat) (pv : Value) (w : World) : Prop where
  fb : F b
  blk : Blk w b 194 #[.slice A s.left.length c, pv, .bool s.same, .bool s.done]
  left : LeftP F A c s.left w
  peek : PeekO F pv s.peek w
def AgainP (F : Nat → Prop) (b : Nat) (s : AS) (w : World) : Prop := ∃ A c pv, AgainQ F b s A c pv w
section
variable {F G : Nat → Prop} {b c : Nat} {s : AS} {A : Option Addr} {pv : Value} {o : Option PS} {L : List (Int × Int)} {w w' : World}
theorem PeekO.mono (h : PeekO F pv o w) (hs : ∀ x, F x → G x) : PeekO G pv o w := by
  cases o with
  | none => exact h
  | some p => obtain ⟨pb, h1, h2, h3⟩ := h; exact ⟨pb, h1, hs _ h2, h3⟩
theorem PeekO.chg (h : PeekO F pv o w) (m : Chg G w w') (hd : ∀ x, F x → G x → False) : PeekO F pv o w' := by
  cases o with
  | none => exact h
  | some p => obtain ⟨pb, h1, h2, h3⟩ := h; exact ⟨pb, h1, h2, m.blk h3 (fun hg => hd _ h2 hg)⟩
theorem LeftP.mono (h : LeftP F A c L w) (hs : ∀ x, F x → G x) : LeftP G A c L w := by
  obtain ⟨h0, v0, L0, k, h1, h2, h3⟩ := h
  exact ⟨h0, v0, L0, k, h1, fun g hg => hs _ (h2 g hg), h3⟩
theorem LeftP.chg (h : LeftP F A c L w) (m : Chg G w w') (hd : ∀ x, (∃ cs, Blk w x 114 cs) → F x → G x → False) : LeftP F A c L w' := by
  obtain ⟨h0, v0, L0, k, h1, h2, h3⟩ := h
  refine ⟨h0, v0, L0, k, m.own h1 (fun g hg hG => hd g ?_ (h2 g hg) hG), h2, h3⟩
  rcases h1.2 with ⟨rfl, _⟩ | ⟨g', cap, cur, rfl, _, hgg, _⟩
  · simp [Value.ownBlock] at hg
  · have : g' = g := by simpa [Value.ownBlock] using hg
    subst this
    exact ⟨_, hgg⟩
theorem LeftP.below (h : LeftP F A c L w) (hb : Below w.heap.size w w') : LeftP F A c L w' := h.chg (G := fun _ => False) (Chg.of_below hb) (fun _ _ _ hg => hg)
theorem LeftP.head {x : Int × Int} {l : List (Int × Int)} (h : LeftP F A c (x :: l) w) : ∃ g k, A = some ⟨g, k * 2, none⟩ ∧ w.cell? ⟨g, k * 2, none⟩ = some (.int .i64 x.1) ∧ w.cell? ⟨g, k * 2 + 1, none⟩ = some (.int .i64 x.2) := by
  obtain ⟨h0, v0, L0, k, h1, h2, h3, h4⟩ := h
  obtain ⟨g, hv, hA⟩ := h4 (by simp)
  have hk : k < L0.length := by
    rcases Nat.lt_or_ge k L0.length with hk | hk
    · exact hk
    · rw [List.drop_eq_nil_of_le hk] at h3; cases h3
  have hx : L0[k]? = some x := by
    have : (L0.drop k)[0]? = some x := by rw [← h3]; rfl
    rw [List.getElem?_drop] at this; exact this
  obtain ⟨g', cap, rfl, _, _⟩ := h1.form (by omega)
  have hg : g' = g := by simpa [Value.ownBlock] using hv
  subst hg
  have e0 : pkey L0 k = x.1 := by unfold pkey; rw [List.getD_eq_getElem?_getD, hx]; rfl
  have e1 : pval L0 k = x.2 := by unfold pval; rw [List.getD_eq_getElem?_getD, hx]; rfl
  refine ⟨g', k, hA, ?_, ?_⟩
  · rw [h1.cellAt (k * 2) (by omega), cellsP_key hk, e0]
  · rw [h1.cellAt (k * 2 + 1) (by omega), cellsP_val hk, e1]
theorem LeftP.tail {x : Int × Int} {l : List (Int × Int)} {g k : Nat} (h : LeftP F (some ⟨g, k * 2, none⟩) c (x :: l) w) : LeftP F (if c = 1 then some ⟨g, k * 2, none⟩ else some ⟨g, k * 2 + 2, none⟩) (c - 1) l w := by
  obtain ⟨h0, v0, L0, k', h1, h2, h3, h4⟩ := h
  obtain ⟨g', hv, hA⟩ := h4 (by simp)
  injection hA with hA
  have hgg : g = g' ∧ k = k' := by injection hA with a b; exact ⟨a, by omega⟩
  obtain ⟨rfl, rfl⟩ := hgg
  simp only [List.length_cons] at h0
  refine ⟨by omega, v0, L0, k + 1, h1, h2, ?_, fun hl => ⟨g, hv, ?_⟩⟩
  · have := congrArg (List.drop 1) h3
    rw [List.drop_drop] at this
    simpa using this
  · rw [if_neg (by omega)]
    simp [Nat.add_mul]
theorem AgainQ.mono (h : AgainQ F b s A c pv w) (hs : ∀ x, F x → G x) : AgainQ G b s A c pv w := ⟨hs _ h.fb, h.blk, h.left.mono hs, h.peek.mono hs⟩
theorem AgainP.mono (h : AgainP F b s w) (hs : ∀ x, F x → G x) : AgainP G b s w := by
  obtain ⟨A, c, pv, h⟩ := h
  exact ⟨A, c, pv, h.mono hs⟩
theorem AgainP.chg (h : AgainP F b s w) (m : Chg G w w') (hd : ∀ x, F x → G x → False) : AgainP F b s w' := by
  obtain ⟨A, c, pv, h⟩ := h
  exact ⟨A, c, pv, h.fb, m.blk h.blk (fun hg => hd _ h.fb hg), h.left.chg m (fun x _ => hd x), h.peek.chg m hd⟩
theorem AgainP.below (h : AgainP F b s w) (hb : Below w.heap.size w w') : AgainP F b s w' := h.chg (G := fun _ => False) (Chg.of_below hb) (fun _ _ hg => hg)
end
section
variable (F : Nat → Prop) (b : Nat) (s : AS) (w : World) (h : AgainP F b s w)
include h
set_option maxHeartbeats 400000 in
theorem doneA_any : Calls Tryz.prog 76 #[.pointer (some ⟨b, 0, none⟩)] w fun e w' => e = .returned (.bool s.done) ∧ w = w' := by
  obtain ⟨A, c, pv, h⟩ := h
  have c3 : w.cell? ⟨b, 3, none⟩ = some (.bool s.done) := h.blk.cell 3
  clear h
  go_enter Tryz.func76, Tryz.ntmps76
  go_wp2_with (fail)
  go_ret
  exact ⟨rfl, rfl⟩
set_option maxHeartbeats 400000 in
theorem sameA_any : Calls Tryz.prog 78 #[.pointer (some ⟨b, 0, none⟩)] w fun e w' => e = .returned (.bool s.same) ∧ w = w' := by
  obtain ⟨A, c, pv, h⟩ := h
  have c2 : w.cell? ⟨b, 2, none⟩ = some (.bool s.same) := h.blk.cell 2
  clear h
  go_enter Tryz.func78, Tryz.ntmps78
  go_wp2_with (fail)
  go_ret
  exact ⟨rfl, rfl⟩
set_option maxHeartbeats 1000000 in
theorem lookA_any : Calls Tryz.prog 143 #[.pointer (some ⟨b, 0, none⟩)] w fun e w' => e = .returned (.tuple #[]) ∧ AgainP (fun x => F x ∨ w.heap.size ≤ x) b s.look w' ∧ Chg (fun x => x = b) w w' := by
  obtain ⟨A, c, pv, h⟩ := h
  rcases s with ⟨left, peek, same, done⟩
  have hl := h.left
  rcases left with _ | ⟨x, l⟩
  · have c0 : w.cell? ⟨b, 0, none⟩ = some (.slice A 0 c) := h.blk.cell 0
    have c2 : w.cell? ⟨b, 2, none⟩ = some (.bool same) := h.blk.cell 2
    have c3 : w.cell? ⟨b, 3, none⟩ = some (.bool done) := h.blk.cell 3
    have f2 := h.blk.frozen 2
    have f3 := h.blk.frozen 3
    have hO : Chg (fun x => x = b) w ((w.setCell ⟨b, 2, none⟩ (.bool true)).setCell ⟨b, 3, none⟩ (.bool true)) := Chg.trans (F := fun x => x = b) (Chg.of_mv (F := fun x => x = b) (Mv.set1 _ _ _ _) rfl) (Chg.of_mv (F := fun x => x = b) (Mv.set1 _ _ _ _) rfl)
    have H : Hid (AgainP (fun x => F x ∨ w.heap.size ≤ x) b ⟨[], peek, true, true⟩ ((w.setCell ⟨b, 2, none⟩ (.bool true)).setCell ⟨b, 3, none⟩ (.bool true))) := Lib.hid (by
      refine ⟨A, c, pv, .inl h.fb, (h.blk.set_ 2 _).set_ 3 _, ?_, ?_⟩
      · refine (h.left.chg hO (fun y ⟨cs, hb⟩ _ e => ?_)).mono (fun _ => .inl)
        subst e
        exact hb.ne_ h.blk (by decide) rfl
      · have hp := h.peek
        cases peek with
        | none => exact hp
        | some p => obtain ⟨pb, h1, h2, h3⟩ := hp; exact ⟨pb, h1, .inl h2, hO.blk h3 (fun e => h3.blk.ne_ h.blk (by decide) e)⟩)
    have HO := Lib.hid hO
    clear hO
    clear h hl
    go_enter Tryz.func143, Tryz.ntmps143
    go_wp2_with (fail)
    refine bodyPost_ret (results_none rfl _ _ _) rfl ?_
    exact ⟨rfl, H.out, HO.out⟩
  · obtain ⟨g, k, rfl, hx1, hx2⟩ := hl.head
    have c0 : w.cell? ⟨b, 0, none⟩ = some (.slice (some ⟨g, k * 2, none⟩) (l.length + 1) c) := h.blk.cell 0
    have H := Lib.hid h
    clear h hl hx2
    go_enter Tryz.func143, Tryz.ntmps143
    go_wp2_with (fail)
    with_reducible refine (newPk_any x.1 _).mono ?_
    rintro e w1 ⟨rfl, hp, hb, hz⟩
    have hB1 := H.out.blk.below hb H.out.blk.lt
    have c1 : w1.cell? ⟨b, 1, none⟩ = some pv := hB1.cell 1
    have f1 := hB1.frozen 1
    have hO : Chg (fun x => x = b) w1 (w1.setCell ⟨b, 1, none⟩ (.pointer (some ⟨w.heap.size, 0, none⟩))) := Chg.of_mv (Mv.set1 _ _ _ _) rfl
    have HA : Hid (AgainP (fun x => F x ∨ w.heap.size ≤ x) b ⟨x :: l, some (PS.init x.1), same, done⟩ (w1.setCell ⟨b, 1, none⟩ (.pointer (some ⟨w.heap.size, 0, none⟩)))) := Lib.hid (by
      refine ⟨_, c, .pointer (some ⟨w.heap.size, 0, none⟩), .inl H.out.fb, hB1.set_ 1 _, ?_, ?_⟩
      · refine ((H.out.left.below hb).chg hO (fun y ⟨cs, hb⟩ _ e => ?_)).mono (fun _ => .inl)
        subst e
        exact hb.ne_ hB1 (by decide) rfl
      · exact ⟨w.heap.size, rfl, .inr (Nat.le_refl _), hO.blk hp (fun e => hp.blk.ne_ hB1 (by decide) e)⟩)
    have HO := Lib.hid (Chg.trans (F := fun x => x = b) (Chg.of_below hb) hO)
    clear hp hb hz hB1 hO H
    go_wp2_with (fail)
    go_end0
    exact ⟨rfl, HA.out, HO.out⟩
end
def NewAPost (L : List (Int × Int)) (w : World) (e : Ending) (w' : World) : Prop := ∃ b, e = .returned (.pointer (some ⟨b, 0, none⟩)) ∧ AgainP (fun x => w.heap.size ≤ x) b (AS.init L) w' ∧ Below w.heap.size w w'
set_option maxHeartbeats 1000000 in
theorem newA_any (A : Option Addr) (c N : Nat) (L : List (Int × Int)) (w : World) (hN : N = L.length) (h : PairsAt w w.heap.size A L) (hl : L.length ≤ 1000000) :
    Calls Tryz.prog 74 #[.slice A N c] w (NewAPost L w) := by
  have HN := Lib.hid hN
  have H := Lib.hid h
  clear hN h
  go_enter Tryz.func74, Tryz.ntmps74
  go_wp2_with (fail)
  with_reducible refine (cloneS_any A c N L _ HN.out H.out hl).mono ?_
  rintro e w1 ⟨v, rfl, hO, hb⟩
  obtain ⟨A1, c1, rfl⟩ := own_shape hO
  have hle : L.length ≤ c1 := own_cap hO
  have hP : AgainP (fun x => w.heap.size ≤ x) w1.heap.size ⟨L, none, false, false⟩ (w1.alloc (.cells #[.slice A1 L.length c1, .pointer none, .bool false, .bool false] 194)) := by
    have ha := (Below.refl w1.heap.size w1).alloc (Nat.le_refl _) (.cells #[.slice A1 L.length c1, .pointer none, .bool false, .bool false] 194)
    refine ⟨A1, c1, .pointer none, hb.size, Blk.new _ _ _, ?_, rfl⟩
    refine LeftP.below ⟨hle, _, L, 0, own_base hO (Nat.zero_le _), fun g hg => (hO.lt g hg).1, rfl, fun hp => ?_⟩ ha
    obtain ⟨g, cap, hv, _, _⟩ := hO.form hp
    injection hv with hA
    exact ⟨g, by rw [hA]; rfl, by rw [hA]⟩
  have HP := Lib.hid hP
  have hB1 := hb.alloc (Nat.le_of_lt (Nat.lt_succ_of_le hb.size) |> fun _ => hb.size) (.cells #[.slice A1 L.length c1, .pointer none, .bool false, .bool false] 194)
  have hz := hb.size
  have hsz : (w1.alloc (.cells #[.slice A1 L.length c1, .pointer none, .bool false, .bool false] 194)).heap.size = w1.heap.size + 1 := by simp
  have SZ := Lib.hid hsz
  clear hO hb hP H HN hsz
  go_wp2_with (fail)
  with_reducible refine (lookA_any _ _ _ _ HP.out).mono ?_
  rintro e w2 ⟨rfl, h2, o2⟩
  have HP2 : Hid (AgainP (fun x => w.heap.size ≤ x) w1.heap.size (AS.init L) w2) := Lib.hid (h2.mono (fun x hx => by
    rcases hx with h | h
    · exact h
    · rw [SZ.out] at h; omega))
  have hB2 := hB1.trans (o2.below (B := w.heap.size) (fun x hx => by subst hx; exact hz) (by rw [SZ.out]; omega))
  clear h2 o2 HP
  go_wp2_with (fail)
  go_ret
  exact ⟨_, rfl, HP2.out, hB2⟩
def APost (F : Nat → Prop) (b bm : Nat) (s : AS) (B : Nat) (v : Value) (C : List Int) (size count odd ref : Int) (w : World) (e : Ending) (w' : World) : Prop :=
  e = .returned (.bool (s.step (rdC C)).done) ∧ AgainP (fun x => F x ∨ w.heap.size ≤ x) b (s.step (rdC C)) w' ∧ MemP B bm v C size (cntO s.acc count) (oddO C s.acc odd) ref w' ∧ Chg (fun x => F x ∨ x = bm) w w'
set_option maxRecDepth 100000 in
set_option maxHeartbeats 1000000 in
theorem stepA_any (F : Nat → Prop) (b bm : Nat) (s : AS) (B : Nat) (v : Value) (C : List Int) (size count odd ref : Int) (w : World) (h : AgainP F b s w) (hm : MemP B bm v C size count odd ref w) (hI : s.Inv) (hC : C.length ≤ 1000000) (hw : ∀ i, i < C.length → -9223372036854775808 ≤ keyAt C i ∧ keyAt C i ≤ 9223372036854775807) :
    Calls Tryz.prog 77 #[.pointer (some ⟨b, 0, none⟩), .pointer (some ⟨bm, 0, none⟩)] w (APost F b bm s B v C size count odd ref w) := by
  rcases hI.st with hd | ⟨hd, p, x, l, hp, hl, hpI, hn⟩
  · have hs := Lib.hid (AS.step_done (R := rdC C) hd)
    have ha := Lib.hid (AS.acc_done hd)
    have HH := Lib.hid h
    obtain ⟨A, c, pv, h⟩ := h
    have c3 : w.cell? ⟨b, 3, none⟩ = some (.bool true) := by rw [← hd]; exact h.blk.cell 3
    have HM := Lib.hid hm
    have HD := Lib.hid hd
    clear hm hd
    clear h hI
    go_enter Tryz.func77, Tryz.ntmps77
    go_wp2_with (fail)
    go_ret
    unfold APost
    rw [hs.out, ha.out]
    exact ⟨ret_bool HD.out.symm, HH.out.mono (fun _ => .inl), HM.out, Chg.refl _ _⟩
  · obtain ⟨A, c, pv, h⟩ := h
    rcases s with ⟨left, peek, same, done⟩
    simp only at hd hp hl
    subst hd hp hl
    have hA := Lib.hid (AS.acc_go (s := ⟨x :: l, some p, same, false⟩) rfl rfl)
    obtain ⟨pb, rfl, hFp, hP⟩ := h.peek
    have c1 : w.cell? ⟨b, 1, none⟩ = some (.pointer (some ⟨pb, 0, none⟩)) := h.blk.cell 1
    have c3 : w.cell? ⟨b, 3, none⟩ = some (.bool false) := h.blk.cell 3
    have hxb := hI.left x (by simp)
    have H := Lib.hid h
    have HP := Lib.hid hP
    have HM := Lib.hid hm
    clear h hP hm
    clear hI hn
    go_enter Tryz.func77, Tryz.ntmps77
    go_wp2_with (fail)
    with_reducible refine (stepPk_any pb bm p B v C size count odd ref _ HP.out HM.out hpI hC hw).mono ?_
    rintro e w1 ⟨rfl, hP1, hm1, o1⟩
    have hB1 : Blk w1 b 194 #[.slice A (x :: l).length c, .pointer (some ⟨pb, 0, none⟩), .bool same, .bool false] := o1.blk H.out.blk (by
      simp
      exact ⟨fun e => H.out.blk.ne_ HP.out.blk (by decide) e, fun e => H.out.blk.ne_ HM.out.blk (by decide) e⟩)
    have hL1 : LeftP F A c (x :: l) w1 := H.out.left.chg (Chg.of_only (F := fun y => y = pb ∨ y = bm) o1 (by simp)) (fun y ⟨cs, hb⟩ _ hy => by
      rcases hy with rfl | rfl
      · exact hb.ne_ HP.out.blk (by decide) rfl
      · exact hb.ne_ HM.out.blk (by decide) rfl)
    have O1 : Hid (Chg (fun x => F x ∨ x = bm) w w1) := Lib.hid (Chg.of_only o1 (by simp; exact .inl hFp))
    have HM1 := Lib.hid hm1
    have hne : b ≠ bm := hB1.ne_ hm1.blk (by decide)
    have hvb := own_blk_not hm1.own hB1 (by decide)
    have hz1 := o1.size
    have hFb := H.out.fb
    clear o1 hm1 H HP HM c1 c3
    obtain ⟨p1, hp1⟩ : ∃ p1, p.step (rdC C) = p1 := ⟨_, rfl⟩
    rw [hp1] at hP1 ⊢
    have HP1 := Lib.hid hP1
    by_cases h3 : p1.next = 3
    · have e3 : (p1.next == 3) = true := by simpa using h3
      have hpI1 := hpI.step (rdC_bd hw)
      rw [hp1] at hpI1
      obtain ⟨g, k, rfl, hx1, hx2⟩ := hL1.head
      have c0 : w1.cell? ⟨b, 0, none⟩ = some (.slice (some ⟨g, k * 2, none⟩) (l.length + 1) c) := hB1.cell 0
      have c1 : w1.cell? ⟨b, 1, none⟩ = some (.pointer (some ⟨pb, 0, none⟩)) := hB1.cell 1
      have HB1 := Lib.hid hB1
      have HL1 := Lib.hid hL1
      rw [e3]
      clear e3 hB1 hL1 hP1 hx1 hpI
      by_cases hword : p1.word = x.2
      · have hs := Lib.hid (AS.step_on (R := rdC C) (s := ⟨x :: l, some p, same, false⟩) rfl rfl rfl (by rw [hp1]; exact h3) (by rw [hp1]; exact hword))
        have ew : (p1.word != x.2) = false := by simpa using hword
        have HP1X := Lib.hid hp1
        clear hword h3 hp1
        go_wp2_with (fail)
        go_quiet ((go_at_call 120; exact quiet_left (wordPk_any pb p1 _ (HP1.out.blk.drewN _))))
        rename_i nq
        have hD := drawn_bl (Drawn.of w1 nq) w1.heap.size
        have hB2 := HB1.out.below hD HB1.out.lt
        have hL2 := HL1.out.below hD
        have hP2 : PeekP pb p1 (w1.drewN nq) := HP1.out
        have HM2 := Lib.hid (HM1.out.below hD)
        have O2 : Hid (Chg (fun x => F x ∨ x = bm) w (w1.drewN nq)) := Lib.hid (O1.out.trans (Chg.of_below hD))
        have hz2 : w.heap.size ≤ (w1.drewN nq).heap.size := hz1
        clear c0 c1 hx2 hD HB1 HL1 HP1 HM1 O1 hz1
        generalize w1.drewN nq = w2 at hB2 hL2 hP2 HM2 O2 hz2 ⊢
        have c0 : w2.cell? ⟨b, 0, none⟩ = some (.slice (some ⟨g, k * 2, none⟩) (l.length + 1) c) := hB2.cell 0
        have f0 := hB2.frozen 0
        have hlc : l.length + 1 ≤ c := hL2.1
        have hLt := hL2.tail
        by_cases hc1 : c = 1
        · subst hc1
          have hln : l = [] := List.eq_nil_of_length_eq_zero (by omega)
          subst hln
          rw [if_pos rfl] at hLt
          have o3 := Chg.of_mv (F := fun y => y = b) (Mv.set1 w2 b 0 (.slice (some ⟨g, k * 2, none⟩) 0 0)) rfl
          have HX : Hid (AgainP F b ⟨[], some p1, same, false⟩ (w2.setCell ⟨b, 0, none⟩ (.slice (some ⟨g, k * 2, none⟩) 0 0))) := Lib.hid ⟨_, 0, _, hFb, hB2.set_ 0 _, hLt.chg o3 (fun y ⟨cs, hb⟩ _ hy => hb.ne_ hB2 (by decide) hy), pb, rfl, hFp, o3.blk hP2 (fun e => hP2.blk.ne_ hB2 (by decide) e)⟩
          have HM3 := Lib.hid (HM2.out.chg o3 (fun e => hne e.symm) (fun y hy e => hvb y hy e))
          have O3 : Hid (Chg (fun x => F x ∨ x = bm) w (w2.setCell ⟨b, 0, none⟩ (.slice (some ⟨g, k * 2, none⟩) 0 0))) := Lib.hid (O2.out.trans (o3.mono (fun y hy => .inl (hy ▸ hFb))))
          have SZ := Lib.hid (show (w2.setCell ⟨b, 0, none⟩ (.slice (some ⟨g, k * 2, none⟩) 0 0)).heap.size = w2.heap.size by simp)
          clear hB2 hL2 hP2 HM2 O2 o3 hLt
          go_wp2_with (fail)
          with_reducible refine (lookA_any _ _ _ _ HX.out).mono ?_
          rintro e w3 ⟨rfl, h3, o3⟩
          have HX3 : Hid (AgainP (fun y => F y ∨ w.heap.size ≤ y) b (AS.look ⟨[], some p1, same, false⟩) w3) := Lib.hid (h3.mono (fun y hy => by
            rcases hy with h | h
            · exact .inl h
            · rw [SZ.out] at h; exact .inr (by omega)))
          have HM4 := Lib.hid (HM3.out.chg o3 (fun e => hne e.symm) (fun y hy e => hvb y hy e))
          have O4 : Hid (Chg (fun x => F x ∨ x = bm) w w3) := Lib.hid (O3.out.trans (o3.mono (fun y hy => .inl (hy ▸ hFb))))
          clear h3 o3 HX HM3 O3 c0 f0
          obtain ⟨s4, hs4⟩ : ∃ s4, AS.look ⟨[], some p1, same, false⟩ = s4 := ⟨_, rfl⟩
          rw [hs4] at HX3
          have HS4 := Lib.hid hs4
          clear hs4
          obtain ⟨A4, c4', pv4, hq4⟩ := HX3.out
          have c3 : w3.cell? ⟨b, 3, none⟩ = some (.bool s4.done) := hq4.blk.cell 3
          clear hq4
          go_wp2_with (fail)
          go_ret
          unfold APost
          rw [hs.out, hA.out, HP1X.out, HS4.out]
          exact ⟨rfl, HX3.out, HM4.out, O4.out⟩
        · rw [if_neg hc1] at hLt
          have o3 := Chg.of_mv (F := fun y => y = b) (Mv.set1 w2 b 0 (.slice (some ⟨g, k * 2 + 2, none⟩) l.length (c - 1))) rfl
          have HX : Hid (AgainP F b ⟨l, some p1, same, false⟩ (w2.setCell ⟨b, 0, none⟩ (.slice (some ⟨g, k * 2 + 2, none⟩) l.length (c - 1)))) := Lib.hid ⟨_, (c - 1), _, hFb, hB2.set_ 0 _, hLt.chg o3 (fun y ⟨cs, hb⟩ _ hy => hb.ne_ hB2 (by decide) hy), pb, rfl, hFp, o3.blk hP2 (fun e => hP2.blk.ne_ hB2 (by decide) e)⟩
          have HM3 := Lib.hid (HM2.out.chg o3 (fun e => hne e.symm) (fun y hy e => hvb y hy e))
          have O3 : Hid (Chg (fun x => F x ∨ x = bm) w (w2.setCell ⟨b, 0, none⟩ (.slice (some ⟨g, k * 2 + 2, none⟩) l.length (c - 1)))) := Lib.hid (O2.out.trans (o3.mono (fun y hy => .inl (hy ▸ hFb))))
          have SZ := Lib.hid (show (w2.setCell ⟨b, 0, none⟩ (.slice (some ⟨g, k * 2 + 2, none⟩) l.length (c - 1))).heap.size = w2.heap.size by simp)
          clear hB2 hL2 hP2 HM2 O2 o3 hLt
          go_wp2_with (fail)
          with_reducible refine (lookA_any _ _ _ _ HX.out).mono ?_
          rintro e w3 ⟨rfl, h3, o3⟩
          have HX3 : Hid (AgainP (fun y => F y ∨ w.heap.size ≤ y) b (AS.look ⟨l, some p1, same, false⟩) w3) := Lib.hid (h3.mono (fun y hy => by
            rcases hy with h | h
            · exact .inl h
            · rw [SZ.out] at h; exact .inr (by omega)))
          have HM4 := Lib.hid (HM3.out.chg o3 (fun e => hne e.symm) (fun y hy e => hvb y hy e))
          have O4 : Hid (Chg (fun x => F x ∨ x = bm) w w3) := Lib.hid (O3.out.trans (o3.mono (fun y hy => .inl (hy ▸ hFb))))
          clear h3 o3 HX HM3 O3 c0 f0
          obtain ⟨s4, hs4⟩ : ∃ s4, AS.look ⟨l, some p1, same, false⟩ = s4 := ⟨_, rfl⟩
          rw [hs4] at HX3
          have HS4 := Lib.hid hs4
          clear hs4
          obtain ⟨A4, c4', pv4, hq4⟩ := HX3.out
          have c3 : w3.cell? ⟨b, 3, none⟩ = some (.bool s4.done) := hq4.blk.cell 3
          clear hq4
          go_wp2_with (fail)
          go_ret
          unfold APost
          rw [hs.out, hA.out, HP1X.out, HS4.out]
          exact ⟨rfl, HX3.out, HM4.out, O4.out⟩
      · have hs := Lib.hid (AS.step_no (R := rdC C) (s := ⟨x :: l, some p, same, false⟩) rfl rfl rfl (by rw [hp1]; exact h3) (by rw [hp1]; exact hword))
        have ew : (p1.word != x.2) = true := by simpa using hword
        have HP1X := Lib.hid hp1
        clear hword h3 hp1
        go_wp2_with (fail)
        go_quiet ((go_at_call 120; exact quiet_left (wordPk_any pb p1 _ (HP1.out.blk.drewN _))))
        rename_i nq
        have hD := drawn_bl (Drawn.of w1 nq) w1.heap.size
        have hB2 := HB1.out.below hD HB1.out.lt
        have hL2 := HL1.out.below hD
        have hP2 : PeekP pb p1 (w1.drewN nq) := HP1.out
        have HM2 := Lib.hid (HM1.out.below hD)
        have O2 : Hid (Chg (fun x => F x ∨ x = bm) w (w1.drewN nq)) := Lib.hid (O1.out.trans (Chg.of_below hD))
        clear c0 c1 hx2 hD HB1 HL1 HP1 HM1 O1 hz1
        generalize w1.drewN nq = w2 at hB2 hL2 hP2 HM2 O2 ⊢
        have f3 := hB2.frozen 3
        have c3 : w2.cell? ⟨b, 3, none⟩ = some (.bool false) := hB2.cell 3
        have o3 := Chg.of_mv (F := fun y => y = b) (Mv.set1 w2 b 3 (.bool true)) rfl
        have HX : Hid (AgainP (fun y => F y ∨ w.heap.size ≤ y) b ⟨x :: l, some p1, same, true⟩ (w2.setCell ⟨b, 3, none⟩ (.bool true))) := Lib.hid ⟨_, c, _, .inl hFb, hB2.set_ 3 _, (hL2.chg o3 (fun y ⟨cs, hb⟩ _ hy => hb.ne_ hB2 (by decide) hy)).mono (fun _ => .inl), pb, rfl, .inl hFp, o3.blk hP2 (fun e => hP2.blk.ne_ hB2 (by decide) e)⟩
        have HM3 := Lib.hid (HM2.out.chg o3 (fun e => hne e.symm) (fun y hy e => hvb y hy e))
        have O3 : Hid (Chg (fun x => F x ∨ x = bm) w (w2.setCell ⟨b, 3, none⟩ (.bool true))) := Lib.hid (O2.out.trans (o3.mono (fun y hy => .inl (hy ▸ hFb))))
        clear hB2 hL2 hP2 HM2 O2 o3
        go_wp2_with (fail)
        go_ret
        unfold APost
        rw [hs.out, hA.out, HP1X.out]
        exact ⟨rfl, HX.out, HM3.out, O3.out⟩
    · have e3 : (p1.next == 3) = false := by simpa using h3
      have c3 : w1.cell? ⟨b, 3, none⟩ = some (.bool false) := hB1.cell 3
      have hs := Lib.hid (AS.step_go (R := rdC C) (s := ⟨x :: l, some p, same, false⟩) rfl rfl rfl (by rw [hp1]; exact h3))
      have HX : Hid (AgainP (fun y => F y ∨ w.heap.size ≤ y) b ⟨x :: l, some p1, same, false⟩ w1) := Lib.hid ⟨A, c, _, .inl hFb, hB1, hL1.mono (fun _ => .inl), pb, rfl, .inl hFp, hP1⟩
      have HP1X := Lib.hid hp1
      rw [e3]
      clear e3 hB1 hL1 hP1 hp1
      go_wp2_with (fail)
      go_ret
      unfold APost
      rw [hs.out, hA.out, HP1X.out]
      exact ⟨rfl, HX.out, HM1.out, O1.out⟩
end Go.Proofs.YtblajeildolloaaGreat

/- The frame of seek as numbers. No program's text. -/
namespace Go.Proofs.YtblajeildolloaaGreat
set_option linter.unusedVariables false
set_option linter.unusedSimpArgs false
open Go.RowKit

def RS.acc (s : RS) : Option Int := if s.next = 6 then none else some s.addr
structure SS where
  next : Int
  k : Int
  n : Int
  route : RS
  peek : Option PS
  at_ : Int
  value : Int
  there : Bool
def SS.enter (s : SS) (n : Int) : SS := { s with next := 0, n := n, route := RS.init n s.k }
def SS.init (k : Int) : SS := ⟨0, k, 1, RS.init 1 k, none, 0, 0, false⟩
def SS.meet (s : SS) (w : Int) : SS :=
  if wKind w = 2 then { s with at_ := wAt w, next := 2 }
  else if wKind w = 3 then SS.enter { s with at_ := wAt w } (wAt w)
  else if wKind w = 4 then { s with at_ := wAt w, next := 4 }
  else { s with at_ := wAt w, next := 5 }
def SS.step (R : Int → Int) (s : SS) : SS :=
  if s.next = 0 then (if (s.route.step R).next = 6 then { s with route := s.route.step R, next := 1, peek := some (PS.init (childAtI s.n (s.route.step R).degree (s.route.step R).child)) } else { s with route := s.route.step R })
  else if s.next = 1 then (match s.peek with
    | some p => if (p.step R).next = 3 then SS.meet { s with peek := some (p.step R) } (p.step R).word else { s with peek := some (p.step R) }
    | none => s)
  else if s.next = 2 then (if R s.at_ = s.k then { s with next := 3 } else { s with next := 5 })
  else if s.next = 3 then { s with value := R (s.at_ + 1), there := true, next := 5 }
  else if s.next = 4 then SS.enter s (wAt (R s.at_))
  else s
def SS.acc (s : SS) : Option Int :=
  if s.next = 0 then s.route.acc
  else if s.next = 1 then (match s.peek with | some p => p.acc | none => none)
  else if s.next = 2 then some s.at_
  else if s.next = 3 then some (s.at_ + 1)
  else if s.next = 4 then some s.at_
  else none
structure SS.Inv (s : SS) : Prop where
  k0 : -9223372036854775808 ≤ s.k
  k1 : s.k ≤ 9223372036854775807
  rt : s.route.Inv
  a0 : 0 ≤ s.at_
  a1 : s.at_ ≤ 65536
  st : (s.next = 0 ∧ s.route.next ≠ 6) ∨ (s.next = 1 ∧ ∃ p, s.peek = some p ∧ p.Inv ∧ p.next ≠ 3) ∨ s.next = 2 ∨ s.next = 3 ∨ s.next = 4 ∨ s.next = 5
theorem childAtI_bd {n d i : Int} : 0 ≤ childAtI n d i ∧ childAtI n d i ≤ 3298534883332 := by
  unfold childAtI
  split
  · rename_i h
    have h1 := nearB_yes h.1
    have h2 := nearB_yes h.2.1
    have h3 := nearB_yes h.2.2
    omega
  · omega
section
variable {s : SS} {R : Int → Int} {p : PS}
theorem SS.step0 (h : s.next = 0) (h6 : (s.route.step R).next ≠ 6) : s.step R = { s with route := s.route.step R } := by
  unfold SS.step; rw [if_pos h, if_neg h6]
theorem SS.step0e (h : s.next = 0) (h6 : (s.route.step R).next = 6) : s.step R = { s with route := s.route.step R, next := 1, peek := some (PS.init (childAtI s.n (s.route.step R).degree (s.route.step R).child)) } := by
  unfold SS.step; rw [if_pos h, if_pos h6]
theorem SS.step1 (h : s.next = 1) (hp : s.peek = some p) (h3 : (p.step R).next ≠ 3) : s.step R = { s with peek := some (p.step R) } := by
  unfold SS.step; rw [if_neg (by omega), if_pos h, hp]; exact if_neg h3
theorem SS.step1e (h : s.next = 1) (hp : s.peek = some p) (h3 : (p.step R).next = 3) : s.step R = SS.meet { s with peek := some (p.step R) } (p.step R).word := by
  unfold SS.step; rw [if_neg (by omega), if_pos h, hp]; exact if_pos h3
theorem SS.step2 (h : s.next = 2) : s.step R = if R s.at_ = s.k then { s with next := 3 } else { s with next := 5 } := by
  unfold SS.step; rw [if_neg (by omega), if_neg (by omega), if_pos h]
theorem SS.step3 (h : s.next = 3) : s.step R = { s with value := R (s.at_ + 1), there := true, next := 5 } := by
  unfold SS.step; rw [if_neg (by omega), if_neg (by omega), if_neg (by omega), if_pos h]
theorem SS.step4 (h : s.next = 4) : s.step R = SS.enter s (wAt (R s.at_)) := by
  unfold SS.step; rw [if_neg (by omega), if_neg (by omega), if_neg (by omega), if_neg (by omega), if_pos h]
theorem SS.step5 (h : s.next = 5) : s.step R = s := by
  unfold SS.step; rw [if_neg (by omega), if_neg (by omega), if_neg (by omega), if_neg (by omega), if_neg (by omega)]
theorem SS.acc0 (h : s.next = 0) : s.acc = s.route.acc := by unfold SS.acc; rw [if_pos h]
theorem SS.acc1 (h : s.next = 1) (hp : s.peek = some p) : s.acc = p.acc := by unfold SS.acc; rw [if_neg (by omega), if_pos h, hp]
theorem SS.acc2 (h : s.next = 2) : s.acc = some s.at_ := by unfold SS.acc; rw [if_neg (by omega), if_neg (by omega), if_pos h]
theorem SS.acc3 (h : s.next = 3) : s.acc = some (s.at_ + 1) := by unfold SS.acc; rw [if_neg (by omega), if_neg (by omega), if_neg (by omega), if_pos h]
theorem SS.acc4 (h : s.next = 4) : s.acc = some s.at_ := by unfold SS.acc; rw [if_neg (by omega), if_neg (by omega), if_neg (by omega), if_neg (by omega), if_pos h]
theorem SS.acc5 (h : s.next = 5) : s.acc = none := by unfold SS.acc; rw [if_neg (by omega), if_neg (by omega), if_neg (by omega), if_neg (by omega), if_neg (by omega)]
structure SS.Inv0 (s : SS) : Prop where
  k0 : -9223372036854775808 ≤ s.k
  k1 : s.k ≤ 9223372036854775807
  rt : s.route.Inv
  a0 : 0 ≤ s.at_
  a1 : s.at_ ≤ 65536
theorem SS.Inv.inv0 (h : s.Inv) : s.Inv0 := ⟨h.k0, h.k1, h.rt, h.a0, h.a1⟩
theorem SS.Inv.enter (h : s.Inv0) {n : Int} (h0 : 0 ≤ n) (h1 : n ≤ 65536) : (s.enter n).Inv :=
  ⟨h.k0, h.k1, RS.Inv.init (by omega) (by omega) h.k0 h.k1, h.a0, h.a1, .inl ⟨rfl, by simp [SS.enter, RS.init]⟩⟩
theorem SS.Inv.init {k : Int} (k0 : -9223372036854775808 ≤ k) (k1 : k ≤ 9223372036854775807) : (SS.init k).Inv :=
  ⟨k0, k1, RS.Inv.init (by omega) (by omega) k0 k1, by simp [SS.init], by simp [SS.init], .inl ⟨rfl, by simp [SS.init, RS.init]⟩⟩
theorem SS.Inv.meet (h : s.Inv0) (w : Int) : (s.meet w).Inv := by
  have b := wAt_bd w
  unfold SS.meet
  split
  · exact ⟨h.k0, h.k1, h.rt, b.1, b.2, .inr (.inr (.inl rfl))⟩
  · split
    · exact SS.Inv.enter (s := { s with at_ := wAt w }) ⟨h.k0, h.k1, h.rt, b.1, b.2⟩ b.1 b.2
    · split
      · exact ⟨h.k0, h.k1, h.rt, b.1, b.2, .inr (.inr (.inr (.inr (.inl rfl))))⟩
      · exact ⟨h.k0, h.k1, h.rt, b.1, b.2, .inr (.inr (.inr (.inr (.inr rfl))))⟩
theorem SS.Inv.step (h : s.Inv) (hR : ∀ a, -9223372036854775808 ≤ R a ∧ R a ≤ 9223372036854775807) : (s.step R).Inv := by
  rcases h.st with ⟨h0, h6⟩ | ⟨h1, p, hp, hI, h3⟩ | h2 | h3 | h4 | h5
  · have hr := h.rt.step hR
    by_cases e6 : (s.route.step R).next = 6
    · rw [SS.step0e h0 e6]
      have := childAtI_bd (n := s.n) (d := (s.route.step R).degree) (i := (s.route.step R).child)
      exact ⟨h.k0, h.k1, hr, h.a0, h.a1, .inr (.inl ⟨rfl, _, rfl, PS.Inv.init (by omega) (by omega), by simp [PS.init]⟩)⟩
    · rw [SS.step0 h0 e6]
      exact ⟨h.k0, h.k1, hr, h.a0, h.a1, .inl ⟨h0, e6⟩⟩
  · have hp2 := hI.step hR
    by_cases e3 : (p.step R).next = 3
    · rw [SS.step1e h1 hp e3]
      exact SS.Inv.meet (s := { s with peek := some (p.step R) }) ⟨h.k0, h.k1, h.rt, h.a0, h.a1⟩ _
    · rw [SS.step1 h1 hp e3]
      exact ⟨h.k0, h.k1, h.rt, h.a0, h.a1, .inr (.inl ⟨h1, _, rfl, hp2, e3⟩)⟩
  · rw [SS.step2 h2]
    split
    · exact ⟨h.k0, h.k1, h.rt, h.a0, h.a1, .inr (.inr (.inr (.inl rfl)))⟩
    · exact ⟨h.k0, h.k1, h.rt, h.a0, h.a1, .inr (.inr (.inr (.inr (.inr rfl))))⟩
  · rw [SS.step3 h3]
    exact ⟨h.k0, h.k1, h.rt, h.a0, h.a1, .inr (.inr (.inr (.inr (.inr rfl))))⟩
  · rw [SS.step4 h4]
    exact SS.Inv.enter h.inv0 (wAt_bd _).1 (wAt_bd _).2
  · rw [SS.step5 h5]; exact h
end
end Go.Proofs.YtblajeildolloaaGreat

/- The frame of walk as numbers. No program's text. -/
namespace Go.Proofs.YtblajeildolloaaGreat
set_option linter.unusedVariables false
set_option linter.unusedSimpArgs false
open Go.RowKit

/-- What a route tells: a child that there is. -/
structure RS.Ch (s : RS) : Prop where
  ch : s.next = 6 → 0 ≤ s.child ∧ (s.child = 0 ∨ s.child < s.degree)
  d1 : s.degree ≤ 9223372036854775807
theorem RS.Ch.init (n k : Int) : (RS.init n k).Ch := ⟨fun h => by simp [RS.init] at h, by simp [RS.init]⟩
theorem RS.Ch.up {s : RS} (h : s.Ch) (d0 : 2 ≤ s.degree) (i : Int) : (s.up i).Ch := by
  have := h.d1
  unfold RS.up
  split
  · exact ⟨fun _ => ⟨by simp; omega, .inr (by simp; omega)⟩, h.d1⟩
  · exact ⟨fun e => by simp at e, h.d1⟩
theorem RS.Ch.down {s : RS} (h : s.Ch) (d0 : 2 ≤ s.degree) (i : Int) : (s.down i).Ch := by
  unfold RS.down
  split
  · exact ⟨fun _ => ⟨by simp, .inr (by simp; omega)⟩, h.d1⟩
  · exact ⟨fun e => by simp at e, h.d1⟩
theorem RS.Ch.ende {s : RS} (h : s.Ch) (c : Int) (h0 : 0 ≤ c) (h1 : c = 0 ∨ c < s.degree) : (s.ende c).Ch := ⟨fun _ => ⟨h0, h1⟩, h.d1⟩
theorem RS.Ch.key {s : RS} (h : s.Ch) (hI : s.Inv) (h0 : s.next ≠ 0) (h6 : s.next ≠ 6) (q : Int) : (s.key q).Ch := by
  have st : 1 ≤ s.next ∧ s.next ≤ 5 ∧ 2 ≤ s.degree ∧ s.degree ≤ 9223372036854775807 ∧ 1 ≤ s.i ∧ s.i ≤ s.degree - 1 := by rcases hI.st with h | h | h <;> first | exact absurd h h0 | exact absurd h h6 | exact h
  obtain ⟨a1, a2, d0, d1, i0, i1⟩ := st
  unfold RS.key
  split
  · split
    · exact ⟨fun _ => ⟨by simp, .inl rfl⟩, h.d1⟩
    · split
      · exact ⟨fun _ => ⟨by simp, .inr (by simp; omega)⟩, h.d1⟩
      · exact ⟨fun e => by simp at e, h.d1⟩
  · split
    · split
      · unfold RS.guess
        split
        · exact ⟨fun e => by simp at e, h.d1⟩
        · exact h.up d0 2
      · exact h.ende _ (by omega) (.inr (by omega))
    · split
      · split
        · exact h.down d0 _
        · exact h.up d0 _
      · split
        · split
          · exact h.ende _ (by omega) (.inr (by omega))
          · exact h.up d0 _
        · split
          · split
            · exact h.down d0 _
            · exact h.ende _ (by omega) (.inr (by omega))
          · omega
theorem RS.Ch.step {s : RS} (h : s.Ch) (hI : s.Inv) {R : Int → Int} (hR : ∀ a, -9223372036854775808 ≤ R a ∧ R a ≤ 9223372036854775807) : (s.step R).Ch := by
  by_cases h0 : s.next = 0
  · rw [RS.step0 h0]
    have := hR s.n
    split
    · exact ⟨fun _ => ⟨by simp, .inl rfl⟩, by simp; omega⟩
    · exact ⟨fun e => by simp at e, by simp; omega⟩
  · by_cases h6 : s.next = 6
    · rw [RS.step_done h6]; exact h
    · rw [RS.stepK h0 h6]; exact h.key hI h0 h6 _

structure WS where
  next : Int
  lo : Int
  hi : Int
  back : Bool
  values : Bool
  most : Int
  n : Int
  route : RS
  peek : Option PS
  levels : List (Int × Int × Int)
  at_ : Int
  key : Int
  pairs : List (Int × Int)
  spots : List (Int × Int)
def WS.start (s : WS) : Int := if s.back = true then s.hi else s.lo
def WS.enter (s : WS) (n : Int) : WS := { s with next := 0, n := n, route := RS.init n s.start }
def WS.init (lo hi : Int) (back : Bool) (most : Int) (values : Bool) : WS := ⟨0, lo, hi, back, values, most, 1, RS.init 1 (if back = true then hi else lo), none, [], 0, 0, [], []⟩
def WS.top (s : WS) : Int × Int × Int := s.levels.headD (0, 0, 0)
def WS.slot (s : WS) : Int := childAtI s.top.1 s.top.2.1 s.top.2.2
def WS.look (s : WS) : WS := { s with next := 1, peek := some (PS.init s.slot) }
/-- Has a level a further child? -/
def more (back : Bool) (l : Int × Int × Int) : Bool := if back = true then decide (0 < l.2.2) else decide (l.2.2 + 1 < l.2.1)
def popTo (back : Bool) : List (Int × Int × Int) → List (Int × Int × Int)
  | [] => []
  | l :: ls => if more back l = true then l :: ls else popTo back ls
def WS.onward (s : WS) : WS := { s with levels := popTo s.back s.levels, next := if popTo s.back s.levels = [] then 6 else 5 }
def WS.ahead (s : WS) : Int := if s.back = true then keyAtI s.top.1 s.top.2.2 else keyAtI s.top.1 (s.top.2.2 + 1)
def WS.bound (s : WS) (q : Int) : WS :=
  if s.back = true then (if s.lo < q then WS.look { s with levels := (s.top.1, s.top.2.1, s.top.2.2 - 1) :: s.levels.tail } else WS.onward { s with levels := s.levels.tail })
  else (if q ≤ s.hi then WS.look { s with levels := (s.top.1, s.top.2.1, s.top.2.2 + 1) :: s.levels.tail } else WS.onward { s with levels := s.levels.tail })
def WS.full (s : WS) : Bool := decide (0 < s.most) && decide (s.most ≤ (s.pairs.length : Int))
def WS.found (s : WS) (v : Int) : WS :=
  if WS.full { s with pairs := s.pairs ++ [(s.key, v)] } = true then { s with pairs := s.pairs ++ [(s.key, v)], next := 6 } else WS.onward { s with pairs := s.pairs ++ [(s.key, v)] }
def WS.meet (s : WS) (w : Int) : WS :=
  if wKind w = 2 then { s with at_ := wAt w, next := 2 }
  else if wKind w = 3 then WS.enter { s with at_ := wAt w } (wAt w)
  else if wKind w = 4 then { s with at_ := wAt w, next := 4 }
  else WS.onward { s with at_ := wAt w }
def WS.step (R : Int → Int) (s : WS) : WS :=
  if s.next = 0 then (if (s.route.step R).next = 6 then WS.look { s with route := s.route.step R, levels := (s.n, (s.route.step R).degree, (s.route.step R).child) :: s.levels } else { s with route := s.route.step R })
  else if s.next = 1 then (match s.peek with
    | some p => if (p.step R).next = 3 then WS.meet { s with peek := some (p.step R), spots := s.spots ++ [(s.slot, (p.step R).word)] } (p.step R).word else { s with peek := some (p.step R) }
    | none => s)
  else if s.next = 2 then (if R s.at_ < s.lo ∨ s.hi < R s.at_ then WS.onward { s with key := R s.at_ } else if s.values = true then { s with key := R s.at_, next := 3 } else WS.found { s with key := R s.at_ } 0)
  else if s.next = 3 then WS.found s (R (s.at_ + 1))
  else if s.next = 4 then WS.enter s (wAt (R s.at_))
  else if s.next = 5 then WS.bound s (R s.ahead)
  else s
def WS.acc (s : WS) : Option Int :=
  if s.next = 0 then s.route.acc
  else if s.next = 1 then (match s.peek with | some p => p.acc | none => none)
  else if s.next = 2 then some s.at_
  else if s.next = 3 then some (s.at_ + 1)
  else if s.next = 4 then some s.at_
  else if s.next = 5 then some s.ahead
  else none
def levelB (l : Int × Int × Int) : Prop := 0 ≤ l.2.2 ∧ (l.2.2 = 0 ∨ l.2.2 < l.2.1) ∧ l.2.1 ≤ 9223372036854775807
structure WS.Inv0 (s : WS) : Prop where
  lo0 : -9223372036854775808 ≤ s.lo
  lo1 : s.lo ≤ 9223372036854775807
  hi0 : -9223372036854775808 ≤ s.hi
  hi1 : s.hi ≤ 9223372036854775807
  most0 : -9223372036854775808 ≤ s.most
  most1 : s.most ≤ 9223372036854775807
  rt : s.route.Inv
  ch : s.route.Ch
  lv : ∀ l ∈ s.levels, levelB l
  a0 : 0 ≤ s.at_
  a1 : s.at_ ≤ 65536
structure WS.Inv (s : WS) : Prop extends s.Inv0 where
  st : (s.next = 0 ∧ s.route.next ≠ 6) ∨ (s.next = 1 ∧ s.levels ≠ [] ∧ ∃ p, s.peek = some p ∧ p.Inv ∧ p.next ≠ 3) ∨ s.next = 2 ∨ s.next = 3 ∨ s.next = 4 ∨ (s.next = 5 ∧ ∃ l ls, s.levels = l :: ls ∧ more s.back l = true) ∨ s.next = 6
theorem popTo_mem {back : Bool} : ∀ {L : List (Int × Int × Int)} {l}, l ∈ popTo back L → l ∈ L
  | [], l, h => h
  | x :: L, l, h => by
    unfold popTo at h
    split at h
    · exact h
    · exact List.mem_cons_of_mem _ (popTo_mem h)
theorem popTo_head {back : Bool} : ∀ {L : List (Int × Int × Int)}, popTo back L ≠ [] → ∃ l ls, popTo back L = l :: ls ∧ more back l = true
  | [], h => absurd rfl h
  | x :: L, h => by
    unfold popTo at h ⊢
    split
    · rename_i hm; exact ⟨x, L, rfl, hm⟩
    · rename_i hm; rw [if_neg hm] at h; exact popTo_head h
theorem popTo_len (back : Bool) : ∀ L : List (Int × Int × Int), (popTo back L).length ≤ L.length
  | [] => Nat.le_refl _
  | x :: L => by
    unfold popTo
    split
    · exact Nat.le_refl _
    · have := popTo_len back L; simp; omega
section
variable {s : WS} {R : Int → Int} {p : PS}
theorem WS.Inv0.start (h : s.Inv0) : -9223372036854775808 ≤ s.start ∧ s.start ≤ 9223372036854775807 := by
  unfold WS.start; split
  · exact ⟨h.hi0, h.hi1⟩
  · exact ⟨h.lo0, h.lo1⟩
theorem WS.Inv.enter (h : s.Inv0) {n : Int} (h0 : 0 ≤ n) (h1 : n ≤ 65536) : (s.enter n).Inv :=
  ⟨⟨h.lo0, h.lo1, h.hi0, h.hi1, h.most0, h.most1, RS.Inv.init (by omega) (by omega) h.start.1 h.start.2, RS.Ch.init _ _, h.lv, h.a0, h.a1⟩, .inl ⟨rfl, by simp [WS.enter, RS.init]⟩⟩
theorem WS.Inv.init {lo hi most : Int} {back values : Bool} (a : -9223372036854775808 ≤ lo) (b : lo ≤ 9223372036854775807) (c : -9223372036854775808 ≤ hi) (d : hi ≤ 9223372036854775807) (e : -9223372036854775808 ≤ most) (f : most ≤ 9223372036854775807) : (WS.init lo hi back most values).Inv :=
  ⟨⟨a, b, c, d, e, f, RS.Inv.init (by omega) (by omega) (by split <;> omega) (by split <;> omega), RS.Ch.init _ _, by simp [WS.init], by simp [WS.init], by simp [WS.init]⟩, .inl ⟨rfl, by simp [WS.init, RS.init]⟩⟩
theorem WS.Inv.look (h : s.Inv0) (hl : s.levels ≠ []) : s.look.Inv := by
  have := childAtI_bd (n := s.top.1) (d := s.top.2.1) (i := s.top.2.2)
  exact ⟨⟨h.lo0, h.lo1, h.hi0, h.hi1, h.most0, h.most1, h.rt, h.ch, h.lv, h.a0, h.a1⟩, .inr (.inl ⟨rfl, hl, _, rfl, PS.Inv.init (by unfold WS.slot; omega) (by unfold WS.slot; omega), by simp [PS.init]⟩)⟩
theorem WS.Inv.onward (h : s.Inv0) : s.onward.Inv := by
  refine ⟨⟨h.lo0, h.lo1, h.hi0, h.hi1, h.most0, h.most1, h.rt, h.ch, fun l hl => h.lv l (popTo_mem hl), h.a0, h.a1⟩, ?_⟩
  by_cases e : popTo s.back s.levels = []
  · exact .inr (.inr (.inr (.inr (.inr (.inr (by unfold WS.onward; exact if_pos e))))))
  · exact .inr (.inr (.inr (.inr (.inr (.inl ⟨by unfold WS.onward; exact if_neg e, popTo_head e⟩)))))
theorem WS.Inv0.pairs (h : s.Inv0) (l : List (Int × Int)) : WS.Inv0 { s with pairs := l } := ⟨h.lo0, h.lo1, h.hi0, h.hi1, h.most0, h.most1, h.rt, h.ch, h.lv, h.a0, h.a1⟩
theorem WS.Inv0.key (h : s.Inv0) (k : Int) : WS.Inv0 { s with key := k } := ⟨h.lo0, h.lo1, h.hi0, h.hi1, h.most0, h.most1, h.rt, h.ch, h.lv, h.a0, h.a1⟩
theorem WS.Inv.found (h : s.Inv0) (v : Int) : (s.found v).Inv := by
  unfold WS.found
  split
  · exact ⟨⟨h.lo0, h.lo1, h.hi0, h.hi1, h.most0, h.most1, h.rt, h.ch, h.lv, h.a0, h.a1⟩, .inr (.inr (.inr (.inr (.inr (.inr rfl)))))⟩
  · exact WS.Inv.onward (h.pairs _)
theorem WS.Inv.meet (h : s.Inv0) (w : Int) : (s.meet w).Inv := by
  have b := wAt_bd w
  have h' : WS.Inv0 { s with at_ := wAt w } := ⟨h.lo0, h.lo1, h.hi0, h.hi1, h.most0, h.most1, h.rt, h.ch, h.lv, b.1, b.2⟩
  unfold WS.meet
  split
  · exact ⟨⟨h.lo0, h.lo1, h.hi0, h.hi1, h.most0, h.most1, h.rt, h.ch, h.lv, b.1, b.2⟩, .inr (.inr (.inl rfl))⟩
  · split
    · exact WS.Inv.enter h' b.1 b.2
    · split
      · exact ⟨⟨h.lo0, h.lo1, h.hi0, h.hi1, h.most0, h.most1, h.rt, h.ch, h.lv, b.1, b.2⟩, .inr (.inr (.inr (.inr (.inl rfl))))⟩
      · exact WS.Inv.onward h'
theorem WS.Inv.bound (h : s.Inv0) (l : Int × Int × Int) (ls : List (Int × Int × Int)) (hl : s.levels = l :: ls) (hm : more s.back l = true) (q : Int) : (s.bound q).Inv := by
  have hb := h.lv l (by rw [hl]; simp)
  have htop : s.top = l := by unfold WS.top; rw [hl]; rfl
  have htl : s.levels.tail = ls := by rw [hl]; rfl
  have hls : ∀ x ∈ ls, levelB x := fun x hx => h.lv x (by rw [hl]; exact List.mem_cons_of_mem _ hx)
  have h' : ∀ L : List (Int × Int × Int), (∀ x ∈ L, levelB x) → WS.Inv0 { s with levels := L } := fun L hL => ⟨h.lo0, h.lo1, h.hi0, h.hi1, h.most0, h.most1, h.rt, h.ch, hL, h.a0, h.a1⟩
  unfold WS.bound
  rw [htop, htl]
  unfold more at hm
  obtain ⟨b1, b2, b3⟩ := hb
  split
  · rename_i hbk
    rw [if_pos hbk] at hm
    have hm2 := of_decide_eq_true hm
    split
    · refine WS.Inv.look (h' _ (fun x hx => ?_)) (by simp)
      rcases List.mem_cons.1 hx with rfl | hx
      · exact ⟨by simp; omega, .inr (by simp; omega), b3⟩
      · exact hls x hx
    · exact WS.Inv.onward (h' _ hls)
  · rename_i hbk
    rw [if_neg hbk] at hm
    have hm2 := of_decide_eq_true hm
    split
    · refine WS.Inv.look (h' _ (fun x hx => ?_)) (by simp)
      rcases List.mem_cons.1 hx with rfl | hx
      · exact ⟨by simp; omega, .inr (by simp; omega), b3⟩
      · exact hls x hx
    · exact WS.Inv.onward (h' _ hls)
theorem WS.step0 (h : s.next = 0) (h6 : (s.route.step R).next ≠ 6) : s.step R = { s with route := s.route.step R } := by
  unfold WS.step; rw [if_pos h, if_neg h6]
theorem WS.step0e (h : s.next = 0) (h6 : (s.route.step R).next = 6) : s.step R = WS.look { s with route := s.route.step R, levels := (s.n, (s.route.step R).degree, (s.route.step R).child) :: s.levels } := by
  unfold WS.step; rw [if_pos h, if_pos h6]
theorem WS.step1 (h : s.next = 1) (hp : s.peek = some p) (h3 : (p.step R).next ≠ 3) : s.step R = { s with peek := some (p.step R) } := by
  unfold WS.step; rw [if_neg (by omega), if_pos h, hp]; exact if_neg h3
theorem WS.step1e (h : s.next = 1) (hp : s.peek = some p) (h3 : (p.step R).next = 3) : s.step R = WS.meet { s with peek := some (p.step R), spots := s.spots ++ [(s.slot, (p.step R).word)] } (p.step R).word := by
  unfold WS.step; rw [if_neg (by omega), if_pos h, hp]; exact if_pos h3
theorem WS.step2 (h : s.next = 2) : s.step R = if R s.at_ < s.lo ∨ s.hi < R s.at_ then WS.onward { s with key := R s.at_ } else if s.values = true then { s with key := R s.at_, next := 3 } else WS.found { s with key := R s.at_ } 0 := by
  unfold WS.step; rw [if_neg (by omega), if_neg (by omega), if_pos h]
theorem WS.step3 (h : s.next = 3) : s.step R = WS.found s (R (s.at_ + 1)) := by
  unfold WS.step; rw [if_neg (by omega), if_neg (by omega), if_neg (by omega), if_pos h]
theorem WS.step4 (h : s.next = 4) : s.step R = WS.enter s (wAt (R s.at_)) := by
  unfold WS.step; rw [if_neg (by omega), if_neg (by omega), if_neg (by omega), if_neg (by omega), if_pos h]
theorem WS.step5 (h : s.next = 5) : s.step R = WS.bound s (R s.ahead) := by
  unfold WS.step; rw [if_neg (by omega), if_neg (by omega), if_neg (by omega), if_neg (by omega), if_neg (by omega), if_pos h]
theorem WS.step6 (h : s.next = 6) : s.step R = s := by
  unfold WS.step; rw [if_neg (by omega), if_neg (by omega), if_neg (by omega), if_neg (by omega), if_neg (by omega), if_neg (by omega)]
theorem WS.acc0 (h : s.next = 0) : s.acc = s.route.acc := by unfold WS.acc; rw [if_pos h]
theorem WS.acc1 (h : s.next = 1) (hp : s.peek = some p) : s.acc = p.acc := by unfold WS.acc; rw [if_neg (by omega), if_pos h, hp]
theorem WS.acc2 (h : s.next = 2) : s.acc = some s.at_ := by unfold WS.acc; rw [if_neg (by omega), if_neg (by omega), if_pos h]
theorem WS.acc3 (h : s.next = 3) : s.acc = some (s.at_ + 1) := by unfold WS.acc; rw [if_neg (by omega), if_neg (by omega), if_neg (by omega), if_pos h]
theorem WS.acc4 (h : s.next = 4) : s.acc = some s.at_ := by unfold WS.acc; rw [if_neg (by omega), if_neg (by omega), if_neg (by omega), if_neg (by omega), if_pos h]
theorem WS.acc5 (h : s.next = 5) : s.acc = some s.ahead := by unfold WS.acc; rw [if_neg (by omega), if_neg (by omega), if_neg (by omega), if_neg (by omega), if_neg (by omega), if_pos h]
theorem WS.acc6 (h : s.next = 6) : s.acc = none := by unfold WS.acc; rw [if_neg (by omega), if_neg (by omega), if_neg (by omega), if_neg (by omega), if_neg (by omega), if_neg (by omega)]
theorem WS.Inv.step (h : s.Inv) (hR : ∀ a, -9223372036854775808 ≤ R a ∧ R a ≤ 9223372036854775807) : (s.step R).Inv := by
  have i0 := h.toInv0
  have rr := h.rt.step hR
  have rc := h.ch.step h.rt hR
  rcases h.st with ⟨h0, h6⟩ | ⟨h1, hlv, p, hp, hI, h3⟩ | h2 | h3 | h4 | ⟨h5, l, ls, hl, hm⟩ | h6
  · by_cases e6 : (s.route.step R).next = 6
    · rw [WS.step0e h0 e6]
      refine WS.Inv.look ⟨h.lo0, h.lo1, h.hi0, h.hi1, h.most0, h.most1, rr, rc, fun l hl => ?_, h.a0, h.a1⟩ (by simp)
      rcases List.mem_cons.1 hl with rfl | hl
      · have := rc.ch e6
        exact ⟨this.1, this.2, rc.d1⟩
      · exact h.lv l hl
    · rw [WS.step0 h0 e6]
      exact ⟨⟨h.lo0, h.lo1, h.hi0, h.hi1, h.most0, h.most1, rr, rc, h.lv, h.a0, h.a1⟩, .inl ⟨h0, e6⟩⟩
  · have hp2 := hI.step hR
    by_cases e3 : (p.step R).next = 3
    · rw [WS.step1e h1 hp e3]
      exact WS.Inv.meet (s := { s with peek := some (p.step R), spots := s.spots ++ [(s.slot, (p.step R).word)] }) ⟨h.lo0, h.lo1, h.hi0, h.hi1, h.most0, h.most1, h.rt, h.ch, h.lv, h.a0, h.a1⟩ _
    · rw [WS.step1 h1 hp e3]
      exact ⟨⟨h.lo0, h.lo1, h.hi0, h.hi1, h.most0, h.most1, h.rt, h.ch, h.lv, h.a0, h.a1⟩, .inr (.inl ⟨h1, hlv, _, rfl, hp2, e3⟩)⟩
  · rw [WS.step2 h2]
    split
    · exact WS.Inv.onward (i0.key _)
    · split
      · exact ⟨⟨h.lo0, h.lo1, h.hi0, h.hi1, h.most0, h.most1, h.rt, h.ch, h.lv, h.a0, h.a1⟩, .inr (.inr (.inr (.inl rfl)))⟩
      · exact WS.Inv.found (i0.key _) 0
  · rw [WS.step3 h3]
    exact WS.Inv.found i0 _
  · rw [WS.step4 h4]
    exact WS.Inv.enter i0 (wAt_bd _).1 (wAt_bd _).2
  · rw [WS.step5 h5]
    exact WS.Inv.bound i0 l ls hl hm _
  · rw [WS.step6 h6]; exact h
end
end Go.Proofs.YtblajeildolloaaGreat

/- The frame of seek: New, Done, Value, enter, meet, Step. -/
namespace Go.Proofs.YtblajeildolloaaGreat
set_option linter.unusedVariables false
set_option linter.unusedSimpArgs false
open Go.RowKit

def RouteO (F : Nat → Prop) (rv : Value) (r : RS) (w : World) : Prop := ∃ rb, rv = .pointer (some ⟨rb, 0, none⟩) ∧ F rb ∧ RouteP rb r w
structure SeekQ (F : Nat → Prop) (b : Nat) (s : SS) (rv pv : Value) (w : World) : Prop where
  fb : F b
  blk : Blk w b 162 #[.int .i64 s.next, .int .i64 s.k, .int .i64 s.n, rv, pv, .int .i64 s.at_, .int .i64 s.value, .bool s.there]
  route : RouteO F rv s.route w
  peek : PeekO F pv s.peek w
def SeekP (F : Nat → Prop) (b : Nat) (s : SS) (w : World) : Prop := ∃ rv pv, SeekQ F b s rv pv w
section
variable {F G : Nat → Prop} {b : Nat} {s : SS} {rv pv : Value} {r : RS} {o : Option PS} {w w' : World}
theorem RouteO.mono (h : RouteO F rv r w) (hs : ∀ x, F x → G x) : RouteO G rv r w := by
  obtain ⟨rb, h1, h2, h3⟩ := h; exact ⟨rb, h1, hs _ h2, h3⟩
theorem RouteO.chg (h : RouteO F rv r w) (m : Chg G w w') (hd : ∀ x, F x → G x → False) : RouteO F rv r w' := by
  obtain ⟨rb, h1, h2, h3⟩ := h; exact ⟨rb, h1, h2, m.blk h3 (fun hg => hd _ h2 hg)⟩
theorem RouteO.within (h : RouteO F rv r w) : RouteO (fun x => F x ∧ x < w.heap.size) rv r w := by
  obtain ⟨rb, h1, h2, h3⟩ := h; exact ⟨rb, h1, ⟨h2, h3.blk.lt⟩, h3⟩
/-- Kept where nothing but blocks of other kinds has been turned. -/
theorem RouteO.keep (h : RouteO F rv r w) (m : Chg G w w') (hG : ∀ x, G x → ∃ t cs, Blk w x t cs ∧ t ≠ 136) : RouteO F rv r w' := by
  obtain ⟨rb, h1, h2, h3⟩ := h
  exact ⟨rb, h1, h2, m.blk h3 (fun hg => by obtain ⟨t, cs, hb, ht⟩ := hG _ hg; exact hb.ne_ h3.blk ht rfl)⟩
theorem PeekO.keep (h : PeekO F pv o w) (m : Chg G w w') (hG : ∀ x, G x → ∃ t cs, Blk w x t cs ∧ t ≠ 221) : PeekO F pv o w' := by
  cases o with
  | none => exact h
  | some p =>
    obtain ⟨rb, h1, h2, h3⟩ := h
    exact ⟨rb, h1, h2, m.blk h3 (fun hg => by obtain ⟨t, cs, hb, ht⟩ := hG _ hg; exact hb.ne_ h3.blk ht rfl)⟩
theorem SeekP.mono (h : SeekP F b s w) (hs : ∀ x, F x → G x) : SeekP G b s w := by
  obtain ⟨rv, pv, h⟩ := h
  exact ⟨rv, pv, hs _ h.fb, h.blk, h.route.mono hs, h.peek.mono hs⟩
theorem SeekP.chg (h : SeekP F b s w) (m : Chg G w w') (hd : ∀ x, F x → G x → False) : SeekP F b s w' := by
  obtain ⟨rv, pv, h⟩ := h
  exact ⟨rv, pv, h.fb, m.blk h.blk (fun hg => hd _ h.fb hg), h.route.chg m hd, h.peek.chg m hd⟩
theorem SeekP.below (h : SeekP F b s w) (hb : Below w.heap.size w w') : SeekP F b s w' := h.chg (G := fun _ => False) (Chg.of_below hb) (fun _ _ hg => hg)
theorem SeekP.within (h : SeekP F b s w) : SeekP (fun x => F x ∧ x < w.heap.size) b s w := by
  obtain ⟨rv, pv, h⟩ := h
  refine ⟨rv, pv, ⟨h.fb, h.blk.lt⟩, h.blk, h.route.within, ?_⟩
  have hp := h.peek
  generalize s.peek = o at hp
  cases o with
  | none => exact hp
  | some p => obtain ⟨pb, h1, h2, h3⟩ := hp; exact ⟨pb, h1, ⟨h2, h3.blk.lt⟩, h3⟩
end
section
variable (F : Nat → Prop) (b : Nat) (s : SS) (w : World) (h : SeekP F b s w)
include h
set_option maxHeartbeats 400000 in
theorem doneS_any : Calls Tryz.prog 54 #[.pointer (some ⟨b, 0, none⟩)] w fun e w' => e = .returned (.bool (s.next == 5)) ∧ w = w' := by
  obtain ⟨rv, pv, h⟩ := h
  have c0 : w.cell? ⟨b, 0, none⟩ = some (.int .i64 s.next) := h.blk.cell 0
  clear h
  go_enter Tryz.func54, Tryz.ntmps54
  go_wp2_with (fail)
  go_ret
  exact ⟨rfl, rfl⟩
set_option maxHeartbeats 400000 in
theorem valueS_any : Calls Tryz.prog 55 #[.pointer (some ⟨b, 0, none⟩)] w fun e w' => e = .returned (.tuple #[.int .i64 s.value, .bool s.there]) ∧ Drawn w w' := by
  obtain ⟨rv, pv, h⟩ := h
  have c6 : w.cell? ⟨b, 6, none⟩ = some (.int .i64 s.value) := h.blk.cell 6
  have c7 : w.cell? ⟨b, 7, none⟩ = some (.bool s.there) := h.blk.cell 7
  clear h
  go_enter Tryz.func55, Tryz.ntmps55
  go_wp2_with (fail)
  go_quiet (fail)
  go_wp2_with (fail)
  go_ret2
  exact ⟨rfl, Drawn.of _ _⟩
end
def seekB (next k n : Int) (rv pv : Value) (at_ value : Int) (there : Bool) : Array Value := #[.int .i64 next, .int .i64 k, .int .i64 n, rv, pv, .int .i64 at_, .int .i64 value, .bool there]
set_option maxHeartbeats 1000000 in
theorem enterS_any (b : Nat) (next k n0 at_ value : Int) (there : Bool) (rv pv : Value) (n : Int) (w : World) (h : Blk w b 162 #[.int .i64 next, .int .i64 k, .int .i64 n0, rv, pv, .int .i64 at_, .int .i64 value, .bool there]) (hrv : ∃ a, rv = .pointer a) :
    Calls Tryz.prog 111 #[.pointer (some ⟨b, 0, none⟩), .int .i64 n] w fun e w' => e = .returned (.tuple #[]) ∧ Blk w' b 162 #[.int .i64 0, .int .i64 k, .int .i64 n, .pointer (some ⟨w.heap.size, 0, none⟩), pv, .int .i64 at_, .int .i64 value, .bool there] ∧ RouteP w.heap.size (RS.init n k) w' ∧ Chg (fun x => x = b) w w' := by
  obtain ⟨ra, rfl⟩ := hrv
  have c1 : w.cell? ⟨b, 1, none⟩ = some (.int .i64 k) := h.cell 1
  have H := Lib.hid h
  clear h
  go_enter Tryz.func111, Tryz.ntmps111
  go_wp2_with (fail)
  with_reducible refine (newR_any n k _).mono ?_
  rintro e w1 ⟨rfl, hr, hb⟩
  have hB := H.out.below hb H.out.lt
  have c0 : w1.cell? ⟨b, 0, none⟩ = some (.int .i64 next) := hB.cell 0
  have c2 : w1.cell? ⟨b, 2, none⟩ = some (.int .i64 n0) := hB.cell 2
  have c3 : w1.cell? ⟨b, 3, none⟩ = some (.pointer ra) := hB.cell 3
  have f0 := hB.frozen 0
  have f2 := hB.frozen 2
  have f3 := hB.frozen 3
  have hne : b ≠ w.heap.size := by have := H.out.lt; omega
  have HR := Lib.hid (show RouteP w.heap.size (RS.init n k) (((w1.setCell ⟨b, 0, none⟩ (.int .i64 0)).setCell ⟨b, 2, none⟩ (.int .i64 n)).setCell ⟨b, 3, none⟩ (.pointer (some ⟨w.heap.size, 0, none⟩))) from ((hr.blk.far (p := ⟨b, 0, none⟩) (by simpa using fun e => hne e.symm) _).far (p := ⟨b, 2, none⟩) (by simpa using fun e => hne e.symm) _).far (p := ⟨b, 3, none⟩) (by simpa using fun e => hne e.symm) _)
  have HB2 := Lib.hid (((hB.set_ 0 (.int .i64 0)).set_ 2 (.int .i64 n)).set_ 3 (.pointer (some ⟨w.heap.size, 0, none⟩)))
  have HO := Lib.hid ((Chg.of_below (F := fun x => x = b) hb).trans (Chg.of_mv (F := fun x => x = b) (((Mv.set1 w1 b 0 (.int .i64 0)).trans_ (Mv.set1 _ b 2 (.int .i64 n))).trans_ (Mv.set1 _ b 3 (.pointer (some ⟨w.heap.size, 0, none⟩)))) rfl))
  clear hr hb hB H c1 hne
  go_wp2_with (fail)
  go_end0
  exact ⟨rfl, HB2.out, HR.out, HO.out⟩
def NewSPost (k : Int) (w : World) (e : Ending) (w' : World) : Prop := e = .returned (.pointer (some ⟨w.heap.size, 0, none⟩)) ∧ SeekP (fun x => w.heap.size ≤ x) w.heap.size (SS.init k) w' ∧ Below w.heap.size w w'
set_option maxHeartbeats 400000 in
theorem newS_any (k : Int) (w : World) : Calls Tryz.prog 49 #[.int .i64 k] w (NewSPost k w) := by
  have h0 := Blk.new w 162 #[.int .i64 0, .int .i64 k, .int .i64 0, .pointer none, .pointer none, .int .i64 0, .int .i64 0, .bool false]
  have hb0 := (Below.refl w.heap.size w).alloc (Nat.le_refl _) (.cells #[.int .i64 0, .int .i64 k, .int .i64 0, .pointer none, .pointer none, .int .i64 0, .int .i64 0, .bool false] 162)
  have hz0 : (w.alloc (.cells #[.int .i64 0, .int .i64 k, .int .i64 0, .pointer none, .pointer none, .int .i64 0, .int .i64 0, .bool false] 162)).heap.size = w.heap.size + 1 := by simp
  have H0 := Lib.hid h0
  have HB0 := Lib.hid hb0
  have HZ := Lib.hid hz0
  clear h0 hb0 hz0
  go_enter Tryz.func49, Tryz.ntmps49
  go_wp2_with (fail)
  generalize w.alloc (.cells #[.int .i64 0, .int .i64 k, .int .i64 0, .pointer none, .pointer none, .int .i64 0, .int .i64 0, .bool false] 162) = w1 at H0 HB0 HZ ⊢
  with_reducible refine (enterS_any w.heap.size 0 k 0 0 0 false (.pointer none) (.pointer none) 1 _ H0.out ⟨_, rfl⟩).mono ?_
  rintro e w2 ⟨rfl, hb, hr, ho⟩
  have HS : Hid (SeekP (fun x => w.heap.size ≤ x) w.heap.size (SS.init k) w2) := Lib.hid ⟨_, _, Nat.le_refl _, hb, ⟨_, rfl, by rw [HZ.out]; omega, hr⟩, rfl⟩
  have HB := Lib.hid (HB0.out.trans (ho.below (B := w.heap.size) (fun x hx => by omega) (by rw [HZ.out]; omega)))
  clear hb hr ho
  go_wp2_with (fail)
  go_ret
  exact ⟨rfl, HS.out, HB.out⟩
set_option maxHeartbeats 1000000 in
theorem meetS_any (F : Nat → Prop) (b : Nat) (s : SS) (x : Int) (w : World) (h : SeekP F b s w) (x0 : -9223372036854775808 ≤ x) (x1 : x ≤ 9223372036854775807) :
    Calls Tryz.prog 119 #[.pointer (some ⟨b, 0, none⟩), .int .i64 x] w fun e w' => e = .returned (.tuple #[]) ∧ SeekP (fun y => F y ∨ w.heap.size ≤ y) b (s.meet x) w' ∧ Chg (fun y => y = b) w w' := by
  obtain ⟨rv, pv, h⟩ := h
  obtain ⟨rb, rfl, hFr, hr⟩ := h.route
  have c0 : w.cell? ⟨b, 0, none⟩ = some (.int .i64 s.next) := h.blk.cell 0
  have c5 : w.cell? ⟨b, 5, none⟩ = some (.int .i64 s.at_) := h.blk.cell 5
  have f0 := h.blk.frozen 0
  have f5 := h.blk.frozen 5
  have o5 := Chg.of_mv (F := fun y => y = b) (Mv.set1 w b 5 (.int .i64 (wAt x))) rfl
  have h5 : SeekQ F b { s with at_ := wAt x } (.pointer (some ⟨rb, 0, none⟩)) pv (w.setCell ⟨b, 5, none⟩ (.int .i64 (wAt x))) := ⟨h.fb, h.blk.set_ 5 _, h.route.keep o5 (fun y hy => by subst hy; exact ⟨_, _, h.blk, by decide⟩), h.peek.keep o5 (fun y hy => by subst hy; exact ⟨_, _, h.blk, by decide⟩)⟩
  have hz5 : (w.setCell ⟨b, 5, none⟩ (.int .i64 (wAt x))).heap.size = w.heap.size := by simp
  have H5 := Lib.hid h5
  have O5 := Lib.hid o5
  have HZ := Lib.hid hz5
  clear o5 h5 hz5 hr h
  have fin : ∀ n : Int, SeekP (fun y => F y ∨ w.heap.size ≤ y) b { s with at_ := wAt x, next := n } ((w.setCell ⟨b, 5, none⟩ (.int .i64 (wAt x))).setCell ⟨b, 0, none⟩ (.int .i64 n)) ∧ Chg (fun y => y = b) w ((w.setCell ⟨b, 5, none⟩ (.int .i64 (wAt x))).setCell ⟨b, 0, none⟩ (.int .i64 n)) := fun n => by
    have o := Chg.of_mv (F := fun y => y = b) (Mv.set1 (w.setCell ⟨b, 5, none⟩ (.int .i64 (wAt x))) b 0 (.int .i64 n)) rfl
    exact ⟨⟨_, _, .inl H5.out.fb, H5.out.blk.set_ 0 _, (H5.out.route.keep o (fun y hy => by subst hy; exact ⟨_, _, H5.out.blk, by decide⟩)).mono (fun _ => .inl), (H5.out.peek.keep o (fun y hy => by subst hy; exact ⟨_, _, H5.out.blk, by decide⟩)).mono (fun _ => .inl)⟩, O5.out.trans o⟩
  have FIN := Lib.hid fin
  clear fin
  by_cases k2 : wKind x = 2
  · have HM := Lib.hid (show s.meet x = { s with at_ := wAt x, next := 2 } from if_pos k2)
    have e2 : (wKind x == 2) = true := by simpa using k2
    clear k2
    go_enter Tryz.func119, Tryz.ntmps119
    go_wp2_with (fail)
    with_reducible refine (refAt_any x _ x0 x1).mono ?_
    rintro e w1 ⟨rfl, rfl⟩
    go_wp2_with (fail)
    with_reducible refine (kind_any x _ x0 x1).mono ?_
    rintro e w1 ⟨rfl, rfl⟩
    go_wp2_with (fail)
    go_end0
    rw [HM.out]
    exact ⟨rfl, FIN.out 2⟩
  · have e2 : (wKind x == 2) = false := by simpa using k2
    by_cases k3 : wKind x = 3
    · have HM := Lib.hid (show s.meet x = SS.enter { s with at_ := wAt x } (wAt x) by unfold SS.meet; rw [if_neg k2, if_pos k3])
      have e3 : (wKind x == 3) = true := by simpa using k3
      clear k2 k3
      go_enter Tryz.func119, Tryz.ntmps119
      go_wp2_with (fail)
      with_reducible refine (refAt_any x _ x0 x1).mono ?_
      rintro e w1 ⟨rfl, rfl⟩
      go_wp2_with (fail)
      with_reducible refine (kind_any x _ x0 x1).mono ?_
      rintro e w1 ⟨rfl, rfl⟩
      go_wp2_with (fail)
      with_reducible refine (enterS_any b _ _ _ _ _ _ _ _ (wAt x) _ H5.out.blk ⟨_, rfl⟩).mono ?_
      rintro e w2 ⟨rfl, hb, hr, ho⟩
      have HX : Hid (SeekP (fun y => F y ∨ w.heap.size ≤ y) b (SS.enter { s with at_ := wAt x } (wAt x)) w2) := Lib.hid ⟨_, _, .inl H5.out.fb, hb, ⟨_, rfl, .inr (by rw [HZ.out]; omega), hr⟩, (H5.out.peek.keep ho (fun y hy => by subst hy; exact ⟨_, _, H5.out.blk, by decide⟩)).mono (fun _ => .inl)⟩
      have HO := Lib.hid (O5.out.trans ho)
      clear hb hr ho
      go_wp2_with (fail)
      go_end0
      rw [HM.out]
      exact ⟨rfl, HX.out, HO.out⟩
    · have e3 : (wKind x == 3) = false := by simpa using k3
      by_cases k4 : wKind x = 4
      · have HM := Lib.hid (show s.meet x = { s with at_ := wAt x, next := 4 } by unfold SS.meet; rw [if_neg k2, if_neg k3, if_pos k4])
        have e4 : (wKind x == 4) = true := by simpa using k4
        clear k2 k3 k4
        go_enter Tryz.func119, Tryz.ntmps119
        go_wp2_with (fail)
        with_reducible refine (refAt_any x _ x0 x1).mono ?_
        rintro e w1 ⟨rfl, rfl⟩
        go_wp2_with (fail)
        with_reducible refine (kind_any x _ x0 x1).mono ?_
        rintro e w1 ⟨rfl, rfl⟩
        go_wp2_with (fail)
        go_end0
        rw [HM.out]
        exact ⟨rfl, FIN.out 4⟩
      · have HM := Lib.hid (show s.meet x = { s with at_ := wAt x, next := 5 } by unfold SS.meet; rw [if_neg k2, if_neg k3, if_neg k4])
        have e4 : (wKind x == 4) = false := by simpa using k4
        clear k2 k3 k4
        go_enter Tryz.func119, Tryz.ntmps119
        go_wp2_with (fail)
        with_reducible refine (refAt_any x _ x0 x1).mono ?_
        rintro e w1 ⟨rfl, rfl⟩
        go_wp2_with (fail)
        with_reducible refine (kind_any x _ x0 x1).mono ?_
        rintro e w1 ⟨rfl, rfl⟩
        go_wp2_with (fail)
        go_end0
        rw [HM.out]
        exact ⟨rfl, FIN.out 5⟩
end Go.Proofs.YtblajeildolloaaGreat

/- The program's memory: Write, At, Make of either kind. -/
namespace Go.Proofs.YtblajeildolloaaGreat
set_option linter.unusedVariables false
set_option linter.unusedSimpArgs false
open Go.RowKit

def wrC (C : List Int) (a x : Int) : List Int := if 1 ≤ a ∧ a ≤ C.length then C.set (a.toNat - 1) x else C
theorem wrC_len (C : List Int) (a x : Int) : (wrC C a x).length = C.length := by unfold wrC; split <;> simp
theorem wrC_bd {C : List Int} {a x : Int} (hC : ∀ y ∈ C, -9223372036854775808 ≤ y ∧ y ≤ 9223372036854775807) (x0 : -9223372036854775808 ≤ x) (x1 : x ≤ 9223372036854775807) : ∀ y ∈ wrC C a x, -9223372036854775808 ≤ y ∧ y ≤ 9223372036854775807 := fun y hy => by
  unfold wrC at hy
  split at hy
  · rcases List.mem_or_eq_of_mem_set hy with h | h
    · exact hC y h
    · rw [h]; exact ⟨x0, x1⟩
  · exact hC y hy
set_option maxHeartbeats 1000000 in
theorem write_any (B b : Nat) (v : Value) (C : List Int) (size count odd ref a x : Int) (w : World) (h : MemP B b v C size count odd ref w) (hC : C.length ≤ 1000000) (a0 : -9223372036854775808 ≤ a) (a1 : a ≤ 9223372036854775807) :
    Calls Tryz.prog 40 #[.pointer (some ⟨b, 0, none⟩), .int .i64 a, .int .i64 x] w fun e w' => e = .returned (.tuple #[]) ∧ MemP B b v (wrC C a x) size (bump count) (if 1 ≤ a ∧ a ≤ C.length then odd else bump odd) ref w' ∧ Mv b v.ownBlock w w' := by
  by_cases ha : 1 ≤ a ∧ a ≤ C.length
  · obtain ⟨k, rfl⟩ : ∃ k : Nat, a = k := ⟨a.toNat, by omega⟩
    have HR := Lib.hid (show wrC C k x = C.set (k - 1) x from if_pos ha)
    rw [if_pos ha]
    have HH := Lib.hid h
    obtain ⟨k1, k2⟩ := ha
    clear h
    go_enter Tryz.func40, Tryz.ntmps40
    go_wp2_with (fail)
    with_reducible refine (cell_in B b v C size count odd ref k w HH.out hC (by omega) (by omega)).mono ?_
    rintro e w1 ⟨g, rfl, hv, h1, m1⟩
    obtain ⟨g', c, rfl, _, _⟩ := h1.own.form (by omega)
    have hg : g' = g := by simpa [Value.ownBlock] using hv
    subst hg
    have hx : w1.cell? ⟨g', k - 1, none⟩ = some (.int .i64 (keyAt C (k - 1))) := by
      rw [h1.own.cellAt (k - 1) (by simp; omega)]
      rw [List.getElem?_map, List.getElem?_eq_getElem (by omega)]
      simp [keyAt, List.getD_eq_getElem?_getD, List.getElem?_eq_getElem (show k - 1 < C.length by omega)]
    have hf := h1.own.frozenAt (k - 1)
    obtain ⟨hs, hs2⟩ := h1.own.stored (k - 1) (.int .i64 x)
    have hne : b ≠ g' := fun e => h1.apart (by simp [Value.ownBlock, e])
    have HM : Hid (MemP B b (.slice (some ⟨g', 0, none⟩) C.length c) (C.set (k - 1) x) size (bump count) odd ref (w1.setCell ⟨g', k - 1, none⟩ (.int .i64 x))) := Lib.hid ⟨h1.blk.far (p := ⟨g', k - 1, none⟩) hne _, (by rw [List.length_set, List.map_set]; exact hs), h1.base⟩
    have HV : Hid (Mv b (some g') w (w1.setCell ⟨g', k - 1, none⟩ (.int .i64 x))) := Lib.hid ((m1.wide _).trans_ ⟨rfl, rfl, rfl, by simp, fun i _ _ hi => Below.heap_setCell w1 _ _ i (fun e => hi (by simpa using e))⟩)
    clear h1 m1 hv hs hs2 hne
    go_wp2_with (fail)
    go_end0
    rw [HR.out]
    exact ⟨rfl, HM.out, HV.out⟩
  · have HR := Lib.hid (show wrC C a x = C from if_neg ha)
    rw [if_neg ha]
    have HH := Lib.hid h
    clear h
    go_enter Tryz.func40, Tryz.ntmps40
    go_wp2_with (fail)
    with_reducible refine (cell_out B b v C size count odd ref a w HH.out hC a0 a1 (by omega)).mono ?_
    rintro e w1 ⟨rfl, h1, m1⟩
    have H1 := Lib.hid h1
    have M1 := Lib.hid (m1.wide v.ownBlock)
    clear h1 m1 ha
    go_wp2_with (fail)
    go_end0
    rw [HR.out]
    exact ⟨rfl, H1.out, M1.out⟩
set_option maxHeartbeats 1000000 in
theorem memAt_any (B b : Nat) (v : Value) (C : List Int) (size count odd ref a : Int) (w : World) (h : MemP B b v C size count odd ref w) (hC : C.length ≤ 1000000) (a0 : -9223372036854775808 ≤ a) (a1 : a ≤ 9223372036854775807) :
    Calls Tryz.prog 79 #[.pointer (some ⟨b, 0, none⟩), .int .i64 a] w fun e w' => e = .returned (.int .i64 (rdC C a)) ∧ w = w' := by
  by_cases h1 : a < 1
  · have HR := Lib.hid (rdC_out (C := C) (a := a) (.inl h1))
    clear h
    go_enter Tryz.func79, Tryz.ntmps79
    go_wp2_with (fail)
    go_ret
    rw [HR.out]
    exact ⟨rfl, rfl⟩
  · obtain ⟨A, c, rfl⟩ := own_shape h.own
    have c0 : w.cell? ⟨b, 0, none⟩ = some (.slice A C.length c) := h.blk.cell 0
    by_cases h2 : (C.length : Int) < a
    · have HR := Lib.hid (rdC_out (C := C) (a := a) (.inr h2))
      clear h
      go_enter Tryz.func79, Tryz.ntmps79
      go_wp2_with (fail)
      go_ret
      rw [HR.out]
      exact ⟨rfl, rfl⟩
    · obtain ⟨k, rfl⟩ : ∃ k : Nat, a = (k : Int) + 1 := ⟨(a - 1).toNat, by omega⟩
      have HR := Lib.hid (show rdC C ((k : Int) + 1) = keyAt C k from rdC_in (C := C) (a := k + 1) (by omega) (by omega))
      obtain ⟨ad, rfl, _, hc⟩ := (IntsAt.of_own h.own).2.cells (by omega)
      have hx := hc k (by omega)
      have e1 : (k : Int) + 1 - 1 = k := by omega
      have hk1 : (k : Int) < C.length := by omega
      have hk2 : k < C.length := by omega
      clear h hc
      generalize keyAt C k = x at hx HR
      go_enter Tryz.func79, Tryz.ntmps79
      go_wp2_with (fail)
      go_ret
      rw [HR.out]
      exact ⟨rfl, rfl⟩
end Go.Proofs.YtblajeildolloaaGreat

/- The stack of a walk: levels. -/
namespace Go.Proofs.YtblajeildolloaaGreat
set_option linter.unusedVariables false
set_option linter.unusedSimpArgs false
open Go.RowKit

def cellsL (L : List (Int × Int × Int)) : List Value := L.flatMap fun p => [.int .i64 p.1, .int .i64 p.2.1, .int .i64 p.2.2]
theorem cellsL_len : ∀ L, (cellsL L).length = L.length * 3
  | [] => rfl
  | p :: L => by
    have := cellsL_len L
    simp [cellsL] at this ⊢
    omega
theorem cellsL_append (a b : List (Int × Int × Int)) : cellsL (a ++ b) = cellsL a ++ cellsL b := by simp [cellsL]
theorem cellsL_top (L : List (Int × Int × Int)) (x : Int × Int × Int) : cellsL (x :: L).reverse = cellsL L.reverse ++ [.int .i64 x.1, .int .i64 x.2.1, .int .i64 x.2.2] := by
  rw [List.reverse_cons, cellsL_append]; rfl
theorem info_level : (Tryz.prog.info? 184).map (fun i => (i.zero, i.size, i.bytes)) = some (some (.agg #[.int .i64 0, .int .i64 0, .int .i64 0]), 3, 24) := by kernel_rfl
/-- The row of levels, the top last. -/
def LvP (F : Nat → Prop) (lv : Value) (L : List (Int × Int × Int)) (w : World) : Prop := w.ownsRow 0 184 3 lv L.length (cellsL L.reverse) ∧ ∀ g, lv.ownBlock = some g → F g
theorem LvP.head {F : Nat → Prop} {lv : Value} {L : List (Int × Int × Int)} {x : Int × Int × Int} {w : World} (h : LvP F lv (x :: L) w) : ∃ g c, lv = .slice (some ⟨g, 0, none⟩) (L.length + 1) c ∧ F g ∧ g < w.heap.size ∧ L.length + 1 ≤ c ∧ w.cell? ⟨g, L.length * 3, none⟩ = some (.int .i64 x.1) ∧ w.cell? ⟨g, L.length * 3 + 1, none⟩ = some (.int .i64 x.2.1) ∧ w.cell? ⟨g, L.length * 3 + 2, none⟩ = some (.int .i64 x.2.2) := by
  obtain ⟨hO, hF⟩ := h
  obtain ⟨g, c, rfl, _, hlt⟩ := hO.form (by simp)
  have hl : (cellsL L.reverse).length = L.length * 3 := by rw [cellsL_len, List.length_reverse]
  have at_ : ∀ j u, [Value.int .i64 x.1, .int .i64 x.2.1, .int .i64 x.2.2][j]? = some u → w.cell? ⟨g, L.length * 3 + j, none⟩ = some u := fun j u hu => by
    have hj : j < 3 := by
      rcases Nat.lt_or_ge j 3 with h | h
      · exact h
      · rw [List.getElem?_eq_none (by simpa using h)] at hu; cases hu
    rw [hO.cellAt (L.length * 3 + j) (by simp; omega), cellsL_top, List.getElem?_append_right (by omega), hl, Nat.add_sub_cancel_left]
    exact hu
  have hc := own_cap hO
  exact ⟨g, c, by simp, hF g (by simp [Value.ownBlock]), hlt, by simpa using hc, at_ 0 _ rfl, at_ 1 _ rfl, at_ 2 _ rfl⟩
def TopPost (x : Int × Int × Int) (ok : Bool) (w : World) (e : Ending) (w' : World) : Prop := e = .returned (.tuple #[.agg #[.int .i64 x.1, .int .i64 x.2.1, .int .i64 x.2.2], .bool ok]) ∧ Below w.heap.size w w'
set_option maxHeartbeats 1000000 in
theorem topL_nil (b o : Nat) (lv : Value) (w : World) (F : Nat → Prop) (hc : w.cell? ⟨b, o, none⟩ = some lv) (h : LvP F lv [] w) :
    Calls Tryz.prog 183 #[.pointer (some ⟨b, o, none⟩)] w (TopPost (0, 0, 0) false w) := by
  obtain ⟨A, c, rfl⟩ := own_shape h.1
  have hlt : b < w.heap.size := World.block_lt_of_cell? w _ hc
  clear h
  go_enter Tryz.func183, Tryz.ntmps183
  go_wp2_with (fail)
  exact bodyPost_ret (v := .tuple #[.agg #[.int .i64 0, .int .i64 0, .int .i64 0], .bool false]) (by simp [results, Tryz.results183, go_sem]) rfl ⟨rfl, ((Below.refl _ _).alloc (Nat.le_refl _) _).alloc (by simp) _⟩
set_option maxHeartbeats 1000000 in
theorem topL_cons (b o : Nat) (lv : Value) (x : Int × Int × Int) (L : List (Int × Int × Int)) (w : World) (F : Nat → Prop) (hc : w.cell? ⟨b, o, none⟩ = some lv) (h : LvP F lv (x :: L) w) (hl : L.length ≤ 1000000) :
    Calls Tryz.prog 183 #[.pointer (some ⟨b, o, none⟩)] w (TopPost x true w) := by
  obtain ⟨g, c, rfl, _, hlt, hlc, c0, c1, c2⟩ := h.head
  have hbl : b < w.heap.size := World.block_lt_of_cell? w _ hc
  have n1 := World.new_ne w ⟨b, o, none⟩ hc
  have n2 := World.new_ne w _ c0
  have e1 : ((L.length : Int) + 1 == 0) = false := by rw [beq_eq_false_iff_ne]; omega
  have e2 : (L.length : Int) + 1 - 1 = L.length := by omega
  have e3 : (0 : Int) ≤ L.length := by omega
  have e4 : (L.length : Int) < (L.length : Int) + 1 := by omega
  have ew : IntKind.i64.wrap ((L.length : Int) + 1 - 1) = L.length := by rw [e2]; exact IntWalk.i64_in _ ⟨by omega, by omega⟩
  have ew2 : IntKind.i64.wrap (L.length : Int) = L.length := IntWalk.i64_in _ ⟨by omega, by omega⟩
  clear h
  go_enter Tryz.func183, Tryz.ntmps183
  go_wp2_with (fail)
  go_region_held3 (fun w' => w'.cell? ⟨b, o, none⟩ = some (.slice (some ⟨g, 0, none⟩) (L.length + 1) c) ∧ w'.cell? ⟨g, L.length * 3, none⟩ = some (.int .i64 x.1) ∧ w'.cell? ⟨g, L.length * 3 + 1, none⟩ = some (.int .i64 x.2.1) ∧ w'.cell? ⟨g, L.length * 3 + 2, none⟩ = some (.int .i64 x.2.2)) (go_keep) (fail)
  have hB : Below w.heap.size w (w.alloc (.cells #[.int .i64 x.1, .int .i64 x.2.1, .int .i64 x.2.2] 184)).drew := belowD ((Below.refl w.heap.size w).alloc (Nat.le_refl _) _) 1
  go_wp2_with (fail)
  exact bodyPost_ret (v := .tuple #[.agg #[.int .i64 x.1, .int .i64 x.2.1, .int .i64 x.2.2], .bool true]) (by simp [results, Tryz.results183, go_sem]) rfl ⟨rfl, hB⟩
def PopPost (F : Nat → Prop) (b o : Nat) (T : TypeId) (cs : Array Value) (lv : Value) (x : Int × Int × Int) (L : List (Int × Int × Int)) (w : World) (e : Ending) (w' : World) : Prop :=
  e = .returned (.tuple #[.agg #[.int .i64 x.1, .int .i64 x.2.1, .int .i64 x.2.2], .bool true]) ∧ ∃ lv', Blk w' b T (cs.setIfInBounds o lv') ∧ LvP F lv' L w' ∧ lv'.ownBlock = lv.ownBlock ∧ Chg (fun y => y = b ∨ lv.ownBlock = some y) w w'
set_option maxHeartbeats 1000000 in
theorem popL_cons (F : Nat → Prop) (b o : Nat) (T : TypeId) (cs : Array Value) (lv : Value) (x : Int × Int × Int) (L : List (Int × Int × Int)) (w : World) (hb : Blk w b T cs) (hT : 184 ≠ T) (ho : cs[o]? = some lv) (h : LvP F lv (x :: L) w) (hl : L.length ≤ 1000000) :
    Calls Tryz.prog 184 #[.pointer (some ⟨b, o, none⟩)] w (PopPost F b o T cs lv x L w) := by
  have hB0 := (Below.refl w.heap.size w).alloc (Nat.le_refl _) (.cells #[.int .i64 0, .int .i64 0, .int .i64 0] 184)
  have HG0 := Lib.hid (own_lt h.1)
  have H0 := Lib.hid (show LvP F lv (x :: L) (w.alloc (.cells #[.int .i64 0, .int .i64 0, .int .i64 0] 184)) from ⟨own_below h.1 hB0, h.2⟩)
  have HBl := Lib.hid (hb.below hB0 hb.lt)
  have c9 : (w.alloc (.cells #[.int .i64 0, .int .i64 0, .int .i64 0] 184)).cell? ⟨b, o, none⟩ = some lv := (HBl.out.cell o).trans ho
  have C9 := Lib.hid c9
  have hR := Blk.new w 184 #[.int .i64 0, .int .i64 0, .int .i64 0]
  have HR := Lib.hid hR
  clear hR
  have hzz : (w.alloc (.cells #[.int .i64 0, .int .i64 0, .int .i64 0] 184)).heap.size = w.heap.size + 1 := by simp
  have HZZ := Lib.hid hzz
  have HO := Lib.hid ho
  have HT := Lib.hid hT
  clear hzz ho hT
  clear h hb c9
  go_enter Tryz.func184, Tryz.ntmps184
  go_wp2_with (fail)
  generalize w.alloc (.cells #[.int .i64 0, .int .i64 0, .int .i64 0] 184) = w0 at H0 HBl C9 HZZ HR hB0 ⊢
  with_reducible refine (topL_cons b o lv x L _ F C9.out H0.out hl).mono ?_
  rintro e w1 ⟨rfl, hb1⟩
  have HB1 := Lib.hid (hB0.trans (hb1.mono (by rw [HZZ.out]; omega)))
  have HL1 := Lib.hid (show LvP F lv (x :: L) w1 from ⟨own_below H0.out.1 hb1, H0.out.2⟩)
  have HBl1 := Lib.hid (HBl.out.below hb1 HBl.out.lt)
  have hz1 := hb1.size
  have HR1 := Lib.hid (HR.out.below hb1 HR.out.lt)
  clear hb1 H0 HBl C9 hB0 HR
  have hx := Blk.new w1 184 #[.int .i64 x.1, .int .i64 x.2.1, .int .i64 x.2.2]
  have ha1 := (Below.refl w1.heap.size w1).alloc (Nat.le_refl _) (.cells #[.int .i64 x.1, .int .i64 x.2.1, .int .i64 x.2.2] 184)
  have hs1 : (w1.alloc (.cells #[.int .i64 x.1, .int .i64 x.2.1, .int .i64 x.2.2] 184)).heap.size = w1.heap.size + 1 := by simp
  have hn := Blk.new (w1.alloc (.cells #[.int .i64 x.1, .int .i64 x.2.1, .int .i64 x.2.2] 184)) 184 #[.int .i64 0, .int .i64 0, .int .i64 0]
  have ha2 := ha1.alloc (by rw [hs1]; omega) (.cells #[.int .i64 0, .int .i64 0, .int .i64 0] 184)
  rw [hs1] at hn
  have HX3 := Lib.hid (hx.alloc (.cells #[.int .i64 0, .int .i64 0, .int .i64 0] 184))
  have HN3 := Lib.hid hn
  have HL3 := Lib.hid (show LvP F lv (x :: L) ((w1.alloc (.cells #[.int .i64 x.1, .int .i64 x.2.1, .int .i64 x.2.2] 184)).alloc (.cells #[.int .i64 0, .int .i64 0, .int .i64 0] 184)) from ⟨own_below HL1.out.1 ha2, HL1.out.2⟩)
  have HBl3 := Lib.hid (HBl1.out.below ha2 HBl1.out.lt)
  have HR3 := Lib.hid (HR1.out.below ha2 HR1.out.lt)
  have HB3 := Lib.hid (HB1.out.trans (ha2.mono HB1.out.size))
  have hbw : b < w1.heap.size := HBl1.out.lt
  have hrw : w.heap.size < w1.heap.size := HR1.out.lt
  have hbne : w.heap.size ≠ b := HR1.out.ne_ HBl1.out HT.out
  obtain ⟨g, c, rfl, hFg, hgl, hlc, _, _, _⟩ := HL3.out.head
  have c9 : ((w1.alloc (.cells #[.int .i64 x.1, .int .i64 x.2.1, .int .i64 x.2.2] 184)).alloc (.cells #[.int .i64 0, .int .i64 0, .int .i64 0] 184)).cell? ⟨b, o, none⟩ = some (.slice (some ⟨g, 0, none⟩) (L.length + 1) c) := (HBl3.out.cell o).trans HO.out
  have hbg : g ≠ b := fun e => own_blk_ne HL3.out.1 HBl3.out HT.out (by simp [Value.ownBlock, e])
  have hg0 : g < w.heap.size := HG0.out g rfl
  have hgw : g < w1.heap.size := own_lt HL1.out.1 g rfl
  have e2 : (L.length : Int) + 1 - 1 = L.length := by omega
  have e3 : (0 : Int) ≤ L.length := by omega
  have e4 : (L.length : Int) < (L.length : Int) + 1 := by omega
  have ew2 : IntKind.i64.wrap (L.length : Int) = L.length := IntWalk.i64_in _ ⟨by omega, by omega⟩
  have hlc2 : (L.length : Int) ≤ c := by omega
  clear hx hn ha1 ha2 hs1 HL1 HBl1 HR1 HB1
  go_wp2_with (fail)
  generalize (w1.alloc (.cells #[.int .i64 x.1, .int .i64 x.2.1, .int .i64 x.2.2] 184)).alloc (.cells #[.int .i64 0, .int .i64 0, .int .i64 0] 184) = w3 at HX3 HN3 HL3 HBl3 HR3 HB3 c9 hgl ⊢
  have n0 : w3.cell? ⟨w1.heap.size + 1, 0, none⟩ = some (.int .i64 0) := HN3.out.cell 0
  have n1 : w3.cell? ⟨w1.heap.size + 1, 1, none⟩ = some (.int .i64 0) := HN3.out.cell 1
  have n2 : w3.cell? ⟨w1.heap.size + 1, 2, none⟩ = some (.int .i64 0) := HN3.out.cell 2
  obtain ⟨g', c', hge, _, _, _, k0, k1, k2⟩ := HL3.out.head
  have hgg : g = g' := by injection hge with a; injection a with a; injection a
  subst hgg
  clear hge
  have hgf0 := HL3.out.1.frozenAt (L.length * 3)
  have hgf1 := HL3.out.1.frozenAt (L.length * 3 + 1)
  have hgf2 := HL3.out.1.frozenAt (L.length * 3 + 2)
  generalize w1.heap.size = z at n0 n1 n2 hbw hrw hgw HX3 HN3 hz1 ⊢
  have far : ∀ (q : Nat) (t : TypeId) (us : Array Value), Blk w3 q t us → q ≠ g → Blk (((w3.setCell ⟨g, L.length * 3, none⟩ (.int .i64 0)).setCell ⟨g, L.length * 3 + 1, none⟩ (.int .i64 0)).setCell ⟨g, L.length * 3 + 2, none⟩ (.int .i64 0)) q t us := fun q t us h hq => ((h.far (p := ⟨g, L.length * 3, none⟩) hq _).far (p := ⟨g, L.length * 3 + 1, none⟩) hq _).far (p := ⟨g, L.length * 3 + 2, none⟩) hq _
  have HN5 := Lib.hid (far _ _ _ HN3.out (by omega))
  have HX5 := Lib.hid (far _ _ _ HX3.out (by omega))
  have HR5 := Lib.hid (far _ _ _ HR3.out (by omega))
  have HBl5 := Lib.hid (far _ _ _ HBl3.out (fun e => hbg e.symm))
  have HL5 : Hid (LvP F (.slice (some ⟨g, 0, none⟩) L.length c) L (((w3.setCell ⟨g, L.length * 3, none⟩ (.int .i64 0)).setCell ⟨g, L.length * 3 + 1, none⟩ (.int .i64 0)).setCell ⟨g, L.length * 3 + 2, none⟩ (.int .i64 0))) := Lib.hid ⟨by
    obtain ⟨a1, _⟩ := HL3.out.1.stored (L.length * 3) (.int .i64 0)
    obtain ⟨a2, _⟩ := a1.stored (L.length * 3 + 1) (.int .i64 0)
    obtain ⟨a3, _⟩ := a2.stored (L.length * 3 + 2) (.int .i64 0)
    have hl : (cellsL L.reverse).length = L.length * 3 := by rw [cellsL_len, List.length_reverse]
    have hset : (((cellsL (x :: L).reverse).set (L.length * 3) (.int .i64 0)).set (L.length * 3 + 1) (.int .i64 0)).set (L.length * 3 + 2) (.int .i64 0) = cellsL L.reverse ++ [.int .i64 0, .int .i64 0, .int .i64 0] := by
      rw [cellsL_top, ← hl, List.set_append_right _ _ (by omega), List.set_append_right _ _ (by omega), List.set_append_right _ _ (by omega)]
      simp
    rw [hset] at a3
    exact ownsRow_pop hl a3, fun q hq => HL3.out.2 q hq⟩
  have HC5 : Hid (Chg (fun y => y = b ∨ some g = some y) w3 (((w3.setCell ⟨g, L.length * 3, none⟩ (.int .i64 0)).setCell ⟨g, L.length * 3 + 1, none⟩ (.int .i64 0)).setCell ⟨g, L.length * 3 + 2, none⟩ (.int .i64 0))) := Lib.hid ((Chg.of_mv (Mv.set1 w3 g _ _) (.inr rfl)).trans ((Chg.of_mv (Mv.set1 _ g _ _) (.inr rfl)).trans (Chg.of_mv (Mv.set1 _ g _ _) (.inr rfl))))
  clear far HX3 HN3 HR3 HL3 HBl3
  go_region_held3 (fun w' => w'.cell? ⟨b, o, none⟩ = some (.slice (some ⟨g, 0, none⟩) (L.length + 1) c) ∧ w'.cell? ⟨z + 1, 0, none⟩ = some (.int .i64 0) ∧ w'.cell? ⟨z + 1, 1, none⟩ = some (.int .i64 0) ∧ w'.cell? ⟨z + 1, 2, none⟩ = some (.int .i64 0)) (first | exact ⟨(HBl5.out.cell o).trans HO.out, HN5.out.cell 0, HN5.out.cell 1, HN5.out.cell 2⟩ | go_keep) (fail)
  have HX6 : Hid (Blk (((w3.setCell ⟨g, L.length * 3, none⟩ (.int .i64 0)).setCell ⟨g, L.length * 3 + 1, none⟩ (.int .i64 0)).setCell ⟨g, L.length * 3 + 2, none⟩ (.int .i64 0)).drew z 184 #[.int .i64 x.1, .int .i64 x.2.1, .int .i64 x.2.2]) := Lib.hid HX5.out
  have HR6 : Hid (Blk (((w3.setCell ⟨g, L.length * 3, none⟩ (.int .i64 0)).setCell ⟨g, L.length * 3 + 1, none⟩ (.int .i64 0)).setCell ⟨g, L.length * 3 + 2, none⟩ (.int .i64 0)).drew w.heap.size 184 #[.int .i64 0, .int .i64 0, .int .i64 0]) := Lib.hid HR5.out
  have HBl6 : Hid (Blk (((w3.setCell ⟨g, L.length * 3, none⟩ (.int .i64 0)).setCell ⟨g, L.length * 3 + 1, none⟩ (.int .i64 0)).setCell ⟨g, L.length * 3 + 2, none⟩ (.int .i64 0)).drew b T cs) := Lib.hid HBl5.out
  have HL6 : Hid (LvP F (.slice (some ⟨g, 0, none⟩) L.length c) L (((w3.setCell ⟨g, L.length * 3, none⟩ (.int .i64 0)).setCell ⟨g, L.length * 3 + 1, none⟩ (.int .i64 0)).setCell ⟨g, L.length * 3 + 2, none⟩ (.int .i64 0)).drew) := Lib.hid ⟨own_below HL5.out.1 (drawn_bl (Drawn.of _ 1) _), HL5.out.2⟩
  have HC6 : Hid (Chg (fun y => y = b ∨ some g = some y) w (((w3.setCell ⟨g, L.length * 3, none⟩ (.int .i64 0)).setCell ⟨g, L.length * 3 + 1, none⟩ (.int .i64 0)).setCell ⟨g, L.length * 3 + 2, none⟩ (.int .i64 0)).drew) := Lib.hid ((Chg.of_below HB3.out).trans (HC5.out.trans (Chg.of_below (drawn_bl (Drawn.of _ 1) _))))
  clear HX5 HR5 HBl5 HL5 HC5 HN5 HB3 n0 n1 n2 k0 k1 k2 hgf0 hgf1 hgf2
  generalize (((w3.setCell ⟨g, L.length * 3, none⟩ (.int .i64 0)).setCell ⟨g, L.length * 3 + 1, none⟩ (.int .i64 0)).setCell ⟨g, L.length * 3 + 2, none⟩ (.int .i64 0)).drew = w6 at HX6 HR6 HBl6 HL6 HC6 ⊢
  have c9' : w6.cell? ⟨b, o, none⟩ = some (.slice (some ⟨g, 0, none⟩) (L.length + 1) c) := (HBl6.out.cell o).trans HO.out
  have f9' := HBl6.out.frozen o
  have hzb : z ≠ b := fun e => HX6.out.ne_ HBl6.out HT.out e
  have hzr : z ≠ w.heap.size := by omega
  have HX7 := Lib.hid (HX6.out.far (p := ⟨b, o, none⟩) hzb (.slice (some ⟨g, 0, none⟩) L.length c))
  have HR7 := Lib.hid (HR6.out.far (p := ⟨b, o, none⟩) hbne (.slice (some ⟨g, 0, none⟩) L.length c))
  have HBl7 := Lib.hid (HBl6.out.set_ o (.slice (some ⟨g, 0, none⟩) L.length c))
  have HL7 : Hid (LvP F (.slice (some ⟨g, 0, none⟩) L.length c) L (w6.setCell ⟨b, o, none⟩ (.slice (some ⟨g, 0, none⟩) L.length c))) := Lib.hid ⟨ownsRow_setCell_other HL6.out.1 (a := ⟨b, o, none⟩) (fun e => hbg (by simpa [Value.ownBlock] using e)) _, HL6.out.2⟩
  have HC7 : Hid (Chg (fun y => y = b ∨ some g = some y) w (w6.setCell ⟨b, o, none⟩ (.slice (some ⟨g, 0, none⟩) L.length c))) := Lib.hid (HC6.out.trans (Chg.of_mv (Mv.set1 _ b _ _) (.inl rfl)))
  have x0 : (w6.setCell ⟨b, o, none⟩ (.slice (some ⟨g, 0, none⟩) L.length c)).cell? ⟨z, 0, none⟩ = some (.int .i64 x.1) := HX7.out.cell 0
  have x1 : (w6.setCell ⟨b, o, none⟩ (.slice (some ⟨g, 0, none⟩) L.length c)).cell? ⟨z, 1, none⟩ = some (.int .i64 x.2.1) := HX7.out.cell 1
  have x2 : (w6.setCell ⟨b, o, none⟩ (.slice (some ⟨g, 0, none⟩) L.length c)).cell? ⟨z, 2, none⟩ = some (.int .i64 x.2.2) := HX7.out.cell 2
  have r0 : (w6.setCell ⟨b, o, none⟩ (.slice (some ⟨g, 0, none⟩) L.length c)).cell? ⟨w.heap.size, 0, none⟩ = some (.int .i64 0) := HR7.out.cell 0
  have r1 : (w6.setCell ⟨b, o, none⟩ (.slice (some ⟨g, 0, none⟩) L.length c)).cell? ⟨w.heap.size, 1, none⟩ = some (.int .i64 0) := HR7.out.cell 1
  have r2 : (w6.setCell ⟨b, o, none⟩ (.slice (some ⟨g, 0, none⟩) L.length c)).cell? ⟨w.heap.size, 2, none⟩ = some (.int .i64 0) := HR7.out.cell 2
  have q0 := HR7.out.frozen 0
  have q1 := HR7.out.frozen 1
  have q2 := HR7.out.frozen 2
  clear HX6 HR6 HBl6 HL6 HC6
  go_wp2_with (fail)
  have hRf : Blk ((((w6.setCell ⟨b, o, none⟩ (.slice (some ⟨g, 0, none⟩) L.length c)).setCell ⟨w.heap.size, 0, none⟩ (.int .i64 x.1)).setCell ⟨w.heap.size, 1, none⟩ (.int .i64 x.2.1)).setCell ⟨w.heap.size, 2, none⟩ (.int .i64 x.2.2)) w.heap.size 184 #[.int .i64 x.1, .int .i64 x.2.1, .int .i64 x.2.2] := ((HR7.out.set_ 0 _).set_ 1 _).set_ 2 _
  have hBf : Blk ((((w6.setCell ⟨b, o, none⟩ (.slice (some ⟨g, 0, none⟩) L.length c)).setCell ⟨w.heap.size, 0, none⟩ (.int .i64 x.1)).setCell ⟨w.heap.size, 1, none⟩ (.int .i64 x.2.1)).setCell ⟨w.heap.size, 2, none⟩ (.int .i64 x.2.2)) b T (cs.setIfInBounds o (.slice (some ⟨g, 0, none⟩) L.length c)) := ((HBl7.out.far (p := ⟨w.heap.size, 0, none⟩) (fun e => hbne e.symm) _).far (p := ⟨w.heap.size, 1, none⟩) (fun e => hbne e.symm) _).far (p := ⟨w.heap.size, 2, none⟩) (fun e => hbne e.symm) _
  have hcf : Chg (fun y => y = w.heap.size) (w6.setCell ⟨b, o, none⟩ (.slice (some ⟨g, 0, none⟩) L.length c)) ((((w6.setCell ⟨b, o, none⟩ (.slice (some ⟨g, 0, none⟩) L.length c)).setCell ⟨w.heap.size, 0, none⟩ (.int .i64 x.1)).setCell ⟨w.heap.size, 1, none⟩ (.int .i64 x.2.1)).setCell ⟨w.heap.size, 2, none⟩ (.int .i64 x.2.2)) := (Chg.of_mv (F := fun y => y = w.heap.size) (Mv.set1 _ w.heap.size _ _) rfl).trans ((Chg.of_mv (F := fun y => y = w.heap.size) (Mv.set1 _ w.heap.size _ _) rfl).trans (Chg.of_mv (F := fun y => y = w.heap.size) (Mv.set1 _ w.heap.size _ _) rfl))
  have hLf : LvP F (.slice (some ⟨g, 0, none⟩) L.length c) L ((((w6.setCell ⟨b, o, none⟩ (.slice (some ⟨g, 0, none⟩) L.length c)).setCell ⟨w.heap.size, 0, none⟩ (.int .i64 x.1)).setCell ⟨w.heap.size, 1, none⟩ (.int .i64 x.2.1)).setCell ⟨w.heap.size, 2, none⟩ (.int .i64 x.2.2)) := ⟨hcf.own HL7.out.1 (fun q hq e => by
    have h1 : g = q := by simpa [Value.ownBlock] using hq
    omega), HL7.out.2⟩
  have hCf := HC7.out.grow hcf (fun y hy => .inr (by omega))
  have rc0 := hRf.cell 0
  have rc1 := hRf.cell 1
  have rc2 := hRf.cell 2
  have HBf := Lib.hid hBf
  have HLf := Lib.hid hLf
  have HCf := Lib.hid hCf
  clear hBf hLf hCf
  clear hRf hcf HR7 HBl7 HL7 HC7 HX7 x0 x1 x2 r0 r1 r2 q0 q1 q2 c9' f9'
  generalize ((((w6.setCell ⟨b, o, none⟩ (.slice (some ⟨g, 0, none⟩) L.length c)).setCell ⟨w.heap.size, 0, none⟩ (.int .i64 x.1)).setCell ⟨w.heap.size, 1, none⟩ (.int .i64 x.2.1)).setCell ⟨w.heap.size, 2, none⟩ (.int .i64 x.2.2)) = wf at rc0 rc1 rc2 HBf HLf HCf ⊢
  have rd0 : wf.cell? ⟨w.heap.size, 0, none⟩ = some (.int .i64 x.1) := rc0
  have rd1 : wf.cell? ⟨w.heap.size, 1, none⟩ = some (.int .i64 x.2.1) := rc1
  have rd2 : wf.cell? ⟨w.heap.size, 2, none⟩ = some (.int .i64 x.2.2) := rc2
  exact bodyPost_ret (v := .tuple #[.agg #[.int .i64 x.1, .int .i64 x.2.1, .int .i64 x.2.2], .bool true]) (by simp [results, Tryz.results184, go_sem, rd0, rd1, rd2]) rfl ⟨rfl, _, HBf.out, HLf.out, rfl, HCf.out⟩
end Go.Proofs.YtblajeildolloaaGreat

/- The stack of a walk: Push. -/
namespace Go.Proofs.YtblajeildolloaaGreat
set_option linter.unusedVariables false
set_option linter.unusedSimpArgs false
open Go.RowKit

def PushPost (F : Nat → Prop) (b o : Nat) (T : TypeId) (cs : Array Value) (lv : Value) (x : Int × Int × Int) (L : List (Int × Int × Int)) (w : World) (e : Ending) (w' : World) : Prop :=
  e = .returned (.tuple #[]) ∧ ∃ lv', Blk w' b T (cs.setIfInBounds o lv') ∧ LvP (fun y => F y ∨ w.heap.size ≤ y) lv' (x :: L) w' ∧ Chg (fun y => y = b ∨ lv.ownBlock = some y) w w'
set_option maxRecDepth 100000 in
set_option maxHeartbeats 1000000 in
theorem pushL_any (F : Nat → Prop) (b o : Nat) (T : TypeId) (cs : Array Value) (lv : Value) (n d i : Int) (L : List (Int × Int × Int)) (w : World) (hb : Blk w b T cs) (hT : 184 ≠ T) (ho : cs[o]? = some lv) (h : LvP F lv L w) (hl : L.length ≤ 1000000) :
    Calls Tryz.prog 128 #[.pointer (some ⟨b, o, none⟩), .agg #[.int .i64 n, .int .i64 d, .int .i64 i]] w (PushPost F b o T cs lv (n, d, i) L w) := by
  obtain ⟨i0, hi0, hz0, hz1, hz2⟩ := info_parts info_level
  have ha := (Below.refl w.heap.size w).alloc (Nat.le_refl _) (.cells #[.int .i64 n, .int .i64 d, .int .i64 i] 184)
  have c9 : (w.alloc (.cells #[.int .i64 n, .int .i64 d, .int .i64 i] 184)).cell? ⟨b, o, none⟩ = some lv := ((hb.below ha hb.lt).cell o).trans ho
  have f9 : (w.alloc (.cells #[.int .i64 n, .int .i64 d, .int .i64 i] 184)).frozen? ⟨b, o, none⟩ = false := (hb.below ha hb.lt).frozen o
  have HX := Lib.hid (Blk.new w 184 #[.int .i64 n, .int .i64 d, .int .i64 i])
  have HL := Lib.hid (show LvP F lv L (w.alloc (.cells #[.int .i64 n, .int .i64 d, .int .i64 i] 184)) from ⟨own_below h.1 ha, h.2⟩)
  have HB := Lib.hid (hb.below ha hb.lt)
  have HC : Hid (Chg (fun y => y = b ∨ lv.ownBlock = some y) w (w.alloc (.cells #[.int .i64 n, .int .i64 d, .int .i64 i] 184))) := Lib.hid (Chg.of_below ha)
  have hbl := hb.lt
  have hzs : (w.alloc (.cells #[.int .i64 n, .int .i64 d, .int .i64 i] 184)).heap.size = w.heap.size + 1 := by simp
  have HZ := Lib.hid hzs
  have HT := Lib.hid hT
  have HO := Lib.hid ho
  have HG0 := Lib.hid (own_lt h.1)
  have hsl : lv = lv := rfl
  obtain ⟨A, c, rfl⟩ := own_shape h.1
  clear ha hb h ho hzs hT hsl
  go_enter Tryz.func128, Tryz.ntmps128
  go_wp2_with (fail)
  generalize w.alloc (.cells #[.int .i64 n, .int .i64 d, .int .i64 i] 184) = w1 at c9 f9 HX HL HB HC HZ ⊢
  have x0 : w1.cell? ⟨w.heap.size, 0, none⟩ = some (.int .i64 n) := HX.out.cell 0
  have x1 : w1.cell? ⟨w.heap.size, 1, none⟩ = some (.int .i64 d) := HX.out.cell 1
  have x2 : w1.cell? ⟨w.heap.size, 2, none⟩ = some (.int .i64 i) := HX.out.cell 2
  have n1 := World.new_ne w1 ⟨b, o, none⟩ c9
  have n2 := World.new_ne w1 _ x0
  have hbl1 := HB.out.lt
  have HAl := Lib.hid ((Below.refl w1.heap.size w1).alloc (Nat.le_refl _) (.cells #[.int .i64 n, .int .i64 d, .int .i64 i] 184))
  have HLd : Hid ((w1.alloc (.cells #[.int .i64 n, .int .i64 d, .int .i64 i] 184)).drew.ownsRow 0 184 3 (.slice A L.length c) L.length (cellsL L.reverse)) := Lib.hid (own_below (own_below HL.out.1 HAl.out) (drawn_bl (Drawn.of _ 1) _))
  have HAd : Hid (Below w1.heap.size w1 (w1.alloc (.cells #[.int .i64 n, .int .i64 d, .int .i64 i] 184)).drew) := Lib.hid (HAl.out.trans (drawn_bl (Drawn.of _ 1) _))
  have HRd : Hid (∀ (j : Nat) (u : Value), ([.int .i64 n, .int .i64 d, .int .i64 i] : List Value)[j]? = some u → (w1.alloc (.cells #[.int .i64 n, .int .i64 d, .int .i64 i] 184)).drew.cell? ((⟨w1.heap.size, 0, none⟩ : Addr).add j) = some u) := Lib.hid (fun j u hu => by
    have e : (⟨w1.heap.size, 0, none⟩ : Addr).add j = ⟨w1.heap.size, j, none⟩ := by unfold Addr.add; split <;> simp_all
    rw [e]
    have := (Blk.new w1 184 #[.int .i64 n, .int .i64 d, .int .i64 i]).cell j
    exact this.trans (by simpa using hu))
  have F5 : Hid (∀ w5 : World, (w1.alloc (.cells #[.int .i64 n, .int .i64 d, .int .i64 i] 184)).drew.grownBy w5 (Value.slice A L.length c).ownBlock → Blk w5 b T cs ∧ Blk w5 w.heap.size 184 #[.int .i64 n, .int .i64 d, .int .i64 i] ∧ Chg (fun y => (Value.slice A L.length c).ownBlock = some y) w1 w5) := Lib.hid (fun w5 hg5 => by
    have hc := (Chg.of_below (F := fun y => (Value.slice A L.length c).ownBlock = some y) HAd.out).trans (Chg.of_grown hg5)
    exact ⟨hc.blk HB.out (fun e => own_blk_ne HL.out.1 HB.out HT.out e), hc.blk HX.out (fun e => absurd (HG0.out _ e) (Nat.lt_irrefl _)), hc⟩)
  go_region_law (first | (refine step_append_lies _ (by rfl) _ _ _ (by rfl) 0 184 i0 _ 3 24 Tryz.underlying177 hi0 hz0 hz1 hz2 rfl (by omega) (.slice A L.length c) L.length (cellsL L.reverse) (by rfl) HLd.out ⟨w1.heap.size, 0, none⟩ 1 1 [.int .i64 n, .int .i64 d, .int .i64 i] (by rfl) (by rfl) HRd.out (by simp [Value.oneCell']) (by omega) (by unfold maxLen; omega) (by omega) (by omega) (w1.heap.size + 1) (by simp) ?_; intro gg cap w5 hO5 hg5 hat hlt5; have K5 := Lib.hid (F5.out w5 hg5); have HO5 := Lib.hid hO5; have HV5 := Lib.hid hat; have f5 := K5.out.1.frozen o; have c5 := (K5.out.1.cell o).trans HO.out; clear hO5 hg5 hat hlt5))
  all_goals
    have hLv : LvP (fun y => F y ∨ w.heap.size ≤ y) (.slice (some ⟨gg, 0, none⟩) (L.length + 1) cap) ((n, d, i) :: L) (w5.setCell ⟨b, o, none⟩ (.slice (some ⟨gg, 0, none⟩) (L.length + 1) cap)) := by
      have hO := HO5.out
      refine ⟨?_, fun g hg => ?_⟩
      · have h1 : w5.ownsRow 0 184 3 (.slice (some ⟨gg, 0, none⟩) (L.length + 1) cap) ((n, d, i) :: L).length (cellsL ((n, d, i) :: L).reverse) := by
          rw [cellsL_top]; exact hO
        exact ownsRow_setCell_other h1 (a := ⟨b, o, none⟩) (fun e => own_blk_ne hO K5.out.1 HT.out (by simpa using e)) _
      · have hgg : gg = g := by simpa [Value.ownBlock] using hg
        subst hgg
        rcases HV5.out with e | e
        · exact .inl (HL.out.2 gg e)
        · exact .inr (by have := HZ.out; omega)
    have hCf : Chg (fun y => y = b ∨ (Value.slice A L.length c).ownBlock = some y) w (w5.setCell ⟨b, o, none⟩ (.slice (some ⟨gg, 0, none⟩) (L.length + 1) cap)) := HC.out.trans ((K5.out.2.2.mono (fun y hy => .inr hy)).trans (Chg.of_mv (Mv.set1 _ b _ _) (.inl rfl)))
    have HBf := Lib.hid (K5.out.1.set_ o (.slice (some ⟨gg, 0, none⟩) (L.length + 1) cap))
    have HLv := Lib.hid hLv
    have HCf := Lib.hid hCf
    clear hLv hCf
    go_end0
    exact ⟨rfl, _, HBf.out, HLv.out, HCf.out⟩
end Go.Proofs.YtblajeildolloaaGreat

/- The frame of walk: Done, Pairs, Spots, enter, New, slot, look. -/
namespace Go.Proofs.YtblajeildolloaaGreat
set_option linter.unusedVariables false
set_option linter.unusedSimpArgs false
open Go.RowKit

theorem own_blk {w : World} {base n : Nat} {e : TypeId} {size : Nat} {v : Value} {xs : List Value} (h : w.ownsRow base e size v n xs) {g : Nat} (hg : v.ownBlock = some g) : ∃ cs, Blk w g e cs := by
  rcases h.2 with ⟨rfl, _⟩ | ⟨g', cap, cur, rfl, _, hh, _⟩
  · simp [Value.ownBlock] at hg
  · have : g' = g := by simpa [Value.ownBlock] using hg
    subst this
    exact ⟨_, hh⟩
/-- A row of pairs or spots of the frame's own. -/
def PrP (F : Nat → Prop) (T : TypeId) (v : Value) (L : List (Int × Int)) (w : World) : Prop := w.ownsRow 0 T 2 v L.length (cellsP L) ∧ ∀ g, v.ownBlock = some g → F g
structure WalkQ (F : Nat → Prop) (b : Nat) (s : WS) (rv pv lv prv sv : Value) (w : World) : Prop where
  fb : F b
  blk : Blk w b 181 #[.int .i64 s.next, .int .i64 s.lo, .int .i64 s.hi, .bool s.back, .bool s.values, .int .i64 s.most, .int .i64 s.n, rv, pv, lv, .int .i64 s.at_, .int .i64 s.key, prv, sv]
  route : RouteO F rv s.route w
  peek : PeekO F pv s.peek w
  lev : LvP F lv s.levels w
  prs : PrP F 52 prv s.pairs w
  sps : PrP F 114 sv s.spots w
def WalkP (F : Nat → Prop) (b : Nat) (s : WS) (w : World) : Prop := ∃ rv pv lv prv sv, WalkQ F b s rv pv lv prv sv w
section
variable {F G : Nat → Prop} {b : Nat} {s : WS} {rv pv lv prv sv v : Value} {T : TypeId} {L : List (Int × Int)} {Ls : List (Int × Int × Int)} {w w' : World}
theorem PrP.mono (h : PrP F T v L w) (hs : ∀ x, F x → G x) : PrP G T v L w := ⟨h.1, fun g hg => hs g (h.2 g hg)⟩
theorem PrP.chg (h : PrP F T v L w) (m : Chg G w w') (hd : ∀ x, F x → G x → False) : PrP F T v L w' := ⟨m.own h.1 (fun g hg hG => hd g (h.2 g hg) hG), h.2⟩
theorem PrP.keep (h : PrP F T v L w) (m : Chg G w w') (hG : ∀ x, G x → ∃ t cs, Blk w x t cs ∧ t ≠ T) : PrP F T v L w' := ⟨m.own h.1 (fun g hg hG' => by
  obtain ⟨t, cs, hb, ht⟩ := hG g hG'
  obtain ⟨cs', hb'⟩ := own_blk h.1 hg
  exact hb.ne_ hb' ht rfl), h.2⟩
theorem PrP.within (h : PrP F T v L w) : PrP (fun x => F x ∧ x < w.heap.size) T v L w := ⟨h.1, fun g hg => ⟨h.2 g hg, own_lt h.1 g hg⟩⟩
theorem LvP.mono (h : LvP F lv Ls w) (hs : ∀ x, F x → G x) : LvP G lv Ls w := ⟨h.1, fun g hg => hs g (h.2 g hg)⟩
theorem LvP.chg (h : LvP F lv Ls w) (m : Chg G w w') (hd : ∀ x, F x → G x → False) : LvP F lv Ls w' := ⟨m.own h.1 (fun g hg hG => hd g (h.2 g hg) hG), h.2⟩
theorem LvP.keep (h : LvP F lv Ls w) (m : Chg G w w') (hG : ∀ x, G x → ∃ t cs, Blk w x t cs ∧ t ≠ 184) : LvP F lv Ls w' := ⟨m.own h.1 (fun g hg hG' => by
  obtain ⟨t, cs, hb, ht⟩ := hG g hG'
  obtain ⟨cs', hb'⟩ := own_blk h.1 hg
  exact hb.ne_ hb' ht rfl), h.2⟩
theorem LvP.within (h : LvP F lv Ls w) : LvP (fun x => F x ∧ x < w.heap.size) lv Ls w := ⟨h.1, fun g hg => ⟨h.2 g hg, own_lt h.1 g hg⟩⟩
theorem WalkQ.mono (h : WalkQ F b s rv pv lv prv sv w) (hs : ∀ x, F x → G x) : WalkQ G b s rv pv lv prv sv w := ⟨hs _ h.fb, h.blk, h.route.mono hs, h.peek.mono hs, h.lev.mono hs, h.prs.mono hs, h.sps.mono hs⟩
theorem WalkQ.chg (h : WalkQ F b s rv pv lv prv sv w) (m : Chg G w w') (hd : ∀ x, F x → G x → False) : WalkQ F b s rv pv lv prv sv w' := ⟨h.fb, m.blk h.blk (fun hg => hd _ h.fb hg), h.route.chg m hd, h.peek.chg m hd, h.lev.chg m hd, h.prs.chg m hd, h.sps.chg m hd⟩
theorem WalkQ.below (h : WalkQ F b s rv pv lv prv sv w) (hb : Below w.heap.size w w') : WalkQ F b s rv pv lv prv sv w' := h.chg (G := fun _ => False) (Chg.of_below hb) (fun _ _ hg => hg)
theorem WalkP.mono (h : WalkP F b s w) (hs : ∀ x, F x → G x) : WalkP G b s w := by
  obtain ⟨rv, pv, lv, prv, sv, h⟩ := h; exact ⟨rv, pv, lv, prv, sv, h.mono hs⟩
theorem WalkP.chg (h : WalkP F b s w) (m : Chg G w w') (hd : ∀ x, F x → G x → False) : WalkP F b s w' := by
  obtain ⟨rv, pv, lv, prv, sv, h⟩ := h; exact ⟨rv, pv, lv, prv, sv, h.chg m hd⟩
theorem WalkP.below (h : WalkP F b s w) (hb : Below w.heap.size w w') : WalkP F b s w' := h.chg (G := fun _ => False) (Chg.of_below hb) (fun _ _ hg => hg)
theorem WalkP.within (h : WalkP F b s w) : WalkP (fun x => F x ∧ x < w.heap.size) b s w := by
  obtain ⟨rv, pv, lv, prv, sv, h⟩ := h
  refine ⟨rv, pv, lv, prv, sv, ⟨h.fb, h.blk.lt⟩, h.blk, h.route.within, ?_, h.lev.within, h.prs.within, h.sps.within⟩
  have hp := h.peek
  generalize s.peek = o at hp
  cases o with
  | none => exact hp
  | some p => obtain ⟨pb, h1, h2, h3⟩ := hp; exact ⟨pb, h1, ⟨h2, h3.blk.lt⟩, h3⟩
/-- What hangs on the frame's block, kept where nothing but blocks of other kinds has been turned. -/
theorem WalkQ.rest (h : WalkQ F b s rv pv lv prv sv w) (m : Chg G w w') (hG : ∀ x, G x → ∃ t cs, Blk w x t cs ∧ (t = 181 ∨ t = 134)) : RouteO F rv s.route w' ∧ PeekO F pv s.peek w' ∧ LvP F lv s.levels w' ∧ PrP F 52 prv s.pairs w' ∧ PrP F 114 sv s.spots w' := by
  have k : ∀ T : TypeId, 181 ≠ T → 134 ≠ T → ∀ x, G x → ∃ t cs, Blk w x t cs ∧ t ≠ T := fun T h1 h2 x hx => by
    obtain ⟨t, cs, hb, e | e⟩ := hG x hx
    · exact ⟨t, cs, hb, by rw [e]; exact h1⟩
    · exact ⟨t, cs, hb, by rw [e]; exact h2⟩
  exact ⟨h.route.keep m (k _ (by decide) (by decide)), h.peek.keep m (k _ (by decide) (by decide)), h.lev.keep m (k _ (by decide) (by decide)), h.prs.keep m (k _ (by decide) (by decide)), h.sps.keep m (k _ (by decide) (by decide))⟩
/-- Of its own block alone something has been turned: the frame of the new state, where all but the cells is as it was. -/
theorem WalkQ.own (h : WalkQ F b s rv pv lv prv sv w) (m : Chg (fun y => y = b) w w') {s' : WS} (hb : Blk w' b 181 #[.int .i64 s'.next, .int .i64 s'.lo, .int .i64 s'.hi, .bool s'.back, .bool s'.values, .int .i64 s'.most, .int .i64 s'.n, rv, pv, lv, .int .i64 s'.at_, .int .i64 s'.key, prv, sv]) (h1 : s'.route = s.route) (h2 : s'.peek = s.peek) (h3 : s'.levels = s.levels) (h4 : s'.pairs = s.pairs) (h5 : s'.spots = s.spots) : WalkQ F b s' rv pv lv prv sv w' := by
  obtain ⟨a1, a2, a3, a4, a5⟩ := h.rest m (fun x hx => by subst hx; exact ⟨_, _, h.blk, .inl rfl⟩)
  exact ⟨h.fb, hb, h1 ▸ a1, h2 ▸ a2, h3 ▸ a3, h4 ▸ a4, h5 ▸ a5⟩
end
section
variable (F : Nat → Prop) (b : Nat) (s : WS) (w : World)
set_option maxHeartbeats 400000 in
theorem doneW_any (h : WalkP F b s w) : Calls Tryz.prog 62 #[.pointer (some ⟨b, 0, none⟩)] w fun e w' => e = .returned (.bool (s.next == 6)) ∧ w = w' := by
  obtain ⟨rv, pv, lv, prv, sv, h⟩ := h
  have c0 : w.cell? ⟨b, 0, none⟩ = some (.int .i64 s.next) := h.blk.cell 0
  clear h
  go_enter Tryz.func62, Tryz.ntmps62
  go_wp2_with (fail)
  go_ret
  exact ⟨rfl, rfl⟩
set_option maxHeartbeats 400000 in
theorem pairsW_any (h : WalkP F b s w) (hn : s.next = 6) (hl : s.pairs.length ≤ 1000000) : Calls Tryz.prog 64 #[.pointer (some ⟨b, 0, none⟩)] w (SomeOwnP 52 s.pairs w) := by
  have HH := Lib.hid h
  obtain ⟨rv, pv, lv, prv, sv, h⟩ := h
  obtain ⟨A, c, rfl⟩ := own_shape h.prs.1
  have c12 : w.cell? ⟨b, 12, none⟩ = some (.slice A s.pairs.length c) := h.blk.cell 12
  have HR : Hid (PairsAt w w.heap.size A s.pairs) := Lib.hid (Reads.of_own h.prs.1)
  have e1 : (s.next == 6) = true := by simpa using hn
  clear h hn
  go_enter Tryz.func64, Tryz.ntmps64
  go_wp2_with (fail)
  with_reducible refine (doneW_any F b s _ HH.out).mono ?_
  rintro e w1 ⟨rfl, rfl⟩
  go_wp2_with (fail)
  with_reducible refine (cloneP_any A c _ s.pairs _ rfl HR.out hl).mono ?_
  rintro e w1 ⟨v, rfl, hO, hb⟩
  have HO := Lib.hid hO
  have HB := Lib.hid hb
  clear hO hb
  go_wp2_with (fail)
  go_ret
  exact ⟨v, rfl, HO.out, HB.out⟩
set_option maxHeartbeats 400000 in
theorem spotsW_any (h : WalkP F b s w) (hn : s.next = 6) (hl : s.spots.length ≤ 1000000) : Calls Tryz.prog 66 #[.pointer (some ⟨b, 0, none⟩)] w (SomeOwnP 114 s.spots w) := by
  have HH := Lib.hid h
  obtain ⟨rv, pv, lv, prv, sv, h⟩ := h
  obtain ⟨A, c, rfl⟩ := own_shape h.sps.1
  have c13 : w.cell? ⟨b, 13, none⟩ = some (.slice A s.spots.length c) := h.blk.cell 13
  have HR : Hid (PairsAt w w.heap.size A s.spots) := Lib.hid (Reads.of_own h.sps.1)
  have e1 : (s.next == 6) = true := by simpa using hn
  clear h hn
  go_enter Tryz.func66, Tryz.ntmps66
  go_wp2_with (fail)
  with_reducible refine (doneW_any F b s _ HH.out).mono ?_
  rintro e w1 ⟨rfl, rfl⟩
  go_wp2_with (fail)
  with_reducible refine (cloneS_any A c _ s.spots _ rfl HR.out hl).mono ?_
  rintro e w1 ⟨v, rfl, hO, hb⟩
  have HO := Lib.hid hO
  have HB := Lib.hid hb
  clear hO hb
  go_wp2_with (fail)
  go_ret
  exact ⟨v, rfl, HO.out, HB.out⟩
end
def EnterPost (b : Nat) (s : WS) (pv lv prv sv : Value) (n : Int) (w : World) (e : Ending) (w' : World) : Prop :=
  e = .returned (.tuple #[]) ∧ Blk w' b 181 #[.int .i64 0, .int .i64 s.lo, .int .i64 s.hi, .bool s.back, .bool s.values, .int .i64 s.most, .int .i64 n, .pointer (some ⟨w.heap.size, 0, none⟩), pv, lv, .int .i64 s.at_, .int .i64 s.key, prv, sv] ∧ RouteP w.heap.size (RS.init n s.start) w' ∧ Chg (fun x => x = b) w w'
set_option maxHeartbeats 1000000 in
theorem enterW_raw (b : Nat) (s : WS) (rv pv lv prv sv : Value) (n : Int) (w : World) (h : Blk w b 181 #[.int .i64 s.next, .int .i64 s.lo, .int .i64 s.hi, .bool s.back, .bool s.values, .int .i64 s.most, .int .i64 s.n, rv, pv, lv, .int .i64 s.at_, .int .i64 s.key, prv, sv]) (hrv : ∃ a, rv = .pointer a) :
    Calls Tryz.prog 127 #[.pointer (some ⟨b, 0, none⟩), .int .i64 n] w (EnterPost b s pv lv prv sv n w) := by
  obtain ⟨ra, rfl⟩ := hrv
  have c1 : w.cell? ⟨b, 1, none⟩ = some (.int .i64 s.lo) := h.cell 1
  have c2 : w.cell? ⟨b, 2, none⟩ = some (.int .i64 s.hi) := h.cell 2
  have c3 : w.cell? ⟨b, 3, none⟩ = some (.bool s.back) := h.cell 3
  have H := Lib.hid h
  clear h
  have post : ∀ k : Int, s.start = k → ∀ w1 : World, RouteP w.heap.size (RS.init n k) w1 → Below w.heap.size w w1 → ∃ x0 x6 x7, (w1.cell? ⟨b, 0, none⟩ = some x0 ∧ w1.cell? ⟨b, 6, none⟩ = some x6 ∧ w1.cell? ⟨b, 7, none⟩ = some x7 ∧ w1.frozen? ⟨b, 0, none⟩ = false ∧ w1.frozen? ⟨b, 6, none⟩ = false ∧ w1.frozen? ⟨b, 7, none⟩ = false) ∧ EnterPost b s pv lv prv sv n w (.returned (.tuple #[])) (((w1.setCell ⟨b, 0, none⟩ (.int .i64 0)).setCell ⟨b, 6, none⟩ (.int .i64 n)).setCell ⟨b, 7, none⟩ (.pointer (some ⟨w.heap.size, 0, none⟩))) := by
    intro k hk w1 hr hb
    have hB := H.out.below hb H.out.lt
    have hne : w.heap.size ≠ b := by have := H.out.lt; omega
    refine ⟨_, _, _, ⟨hB.cell 0, hB.cell 6, hB.cell 7, hB.frozen 0, hB.frozen 6, hB.frozen 7⟩, rfl, ((hB.set_ 0 _).set_ 6 _).set_ 7 _, ?_, ?_⟩
    · rw [hk]
      exact ((hr.blk.far (p := ⟨b, 0, none⟩) hne _).far (p := ⟨b, 6, none⟩) hne _).far (p := ⟨b, 7, none⟩) hne _
    · exact (Chg.of_below (F := fun x => x = b) hb).trans (Chg.of_mv (F := fun x => x = b) (((Mv.set1 w1 b 0 _).trans_ (Mv.set1 _ b 6 _)).trans_ (Mv.set1 _ b 7 _)) rfl)
  have POST := Lib.hid post
  clear post
  cases hbk : s.back with
  | true =>
    have HK := Lib.hid (show s.start = s.hi from if_pos hbk)
    rw [hbk] at c3
    clear hbk
    go_enter Tryz.func127, Tryz.ntmps127
    go_wp2_with (fail)
    with_reducible refine (newR_any n s.hi _).mono ?_
    rintro e w1 ⟨rfl, hr, hb⟩
    obtain ⟨x0, x6, x7, ⟨c0, c6, c7, f0, f6, f7⟩, hp⟩ := POST.out s.hi HK.out w1 hr hb
    have HP := Lib.hid hp
    clear hp
    clear hr hb
    go_wp2_with (fail)
    go_end0
    exact HP.out
  | false =>
    have HK := Lib.hid (show s.start = s.lo from if_neg (by rw [hbk]; exact Bool.false_ne_true))
    rw [hbk] at c3
    clear hbk
    go_enter Tryz.func127, Tryz.ntmps127
    go_wp2_with (fail)
    with_reducible refine (newR_any n s.lo _).mono ?_
    rintro e w1 ⟨rfl, hr, hb⟩
    obtain ⟨x0, x6, x7, ⟨c0, c6, c7, f0, f6, f7⟩, hp⟩ := POST.out s.lo HK.out w1 hr hb
    have HP := Lib.hid hp
    clear hp
    clear hr hb
    go_wp2_with (fail)
    go_end0
    exact HP.out
def WPost (F : Nat → Prop) (b : Nat) (s' : WS) (w : World) (e : Ending) (w' : World) : Prop := e = .returned (.tuple #[]) ∧ WalkP (fun x => F x ∨ w.heap.size ≤ x) b s' w' ∧ Chg (fun x => F x) w w'
theorem enterW_any (F : Nat → Prop) (b : Nat) (s : WS) (n : Int) (w : World) (h : WalkP F b s w) :
    Calls Tryz.prog 127 #[.pointer (some ⟨b, 0, none⟩), .int .i64 n] w (WPost F b (s.enter n) w) := by
  obtain ⟨rv, pv, lv, prv, sv, h⟩ := h
  obtain ⟨rb, hrv, _⟩ := h.route
  refine (enterW_raw b s rv pv lv prv sv n w h.blk ⟨_, hrv⟩).mono fun e w' ⟨he, hb, hr, hc⟩ => ⟨he, ?_, hc.mono (fun x hx => hx ▸ h.fb)⟩
  obtain ⟨a1, a2, a3, a4, a5⟩ := h.rest hc (fun x hx => by subst hx; exact ⟨_, _, h.blk, .inl rfl⟩)
  exact ⟨_, pv, lv, prv, sv, .inl h.fb, hb, ⟨_, rfl, .inr (Nat.le_refl _), hr⟩, a2.mono (fun _ => .inl), a3.mono (fun _ => .inl), a4.mono (fun _ => .inl), a5.mono (fun _ => .inl)⟩
def NewWPost (lo hi : Int) (back : Bool) (most : Int) (values : Bool) (w : World) (e : Ending) (w' : World) : Prop := e = .returned (.pointer (some ⟨w.heap.size, 0, none⟩)) ∧ WalkP (fun x => w.heap.size ≤ x) w.heap.size (WS.init lo hi back most values) w' ∧ Below w.heap.size w w'
set_option maxHeartbeats 1000000 in
theorem newW_any (lo hi : Int) (back : Bool) (most : Int) (values : Bool) (w : World) : Calls Tryz.prog 59 #[.int .i64 lo, .int .i64 hi, .bool back, .int .i64 most, .bool values] w (NewWPost lo hi back most values w) := by
  have h0 := Blk.new w 181 #[.int .i64 0, .int .i64 lo, .int .i64 hi, .bool back, .bool values, .int .i64 most, .int .i64 0, .pointer none, .pointer none, .slice none 0 0, .int .i64 0, .int .i64 0, .slice none 0 0, .slice none 0 0]
  have hb0 := (Below.refl w.heap.size w).alloc (Nat.le_refl _) (.cells #[.int .i64 0, .int .i64 lo, .int .i64 hi, .bool back, .bool values, .int .i64 most, .int .i64 0, .pointer none, .pointer none, .slice none 0 0, .int .i64 0, .int .i64 0, .slice none 0 0, .slice none 0 0] 181)
  have hz0 : (w.alloc (.cells #[.int .i64 0, .int .i64 lo, .int .i64 hi, .bool back, .bool values, .int .i64 most, .int .i64 0, .pointer none, .pointer none, .slice none 0 0, .int .i64 0, .int .i64 0, .slice none 0 0, .slice none 0 0] 181)).heap.size = w.heap.size + 1 := by simp
  have H0 := Lib.hid h0
  have HB0 := Lib.hid hb0
  have HZ := Lib.hid hz0
  clear h0 hb0 hz0
  go_enter Tryz.func59, Tryz.ntmps59
  go_wp2_with (fail)
  generalize w.alloc (.cells #[.int .i64 0, .int .i64 lo, .int .i64 hi, .bool back, .bool values, .int .i64 most, .int .i64 0, .pointer none, .pointer none, .slice none 0 0, .int .i64 0, .int .i64 0, .slice none 0 0, .slice none 0 0] 181) = w1 at H0 HB0 HZ ⊢
  with_reducible refine (enterW_raw w.heap.size ⟨0, lo, hi, back, values, most, 0, RS.init 0 0, none, [], 0, 0, [], []⟩ (.pointer none) (.pointer none) (.slice none 0 0) (.slice none 0 0) (.slice none 0 0) 1 _ H0.out ⟨_, rfl⟩).mono ?_
  rintro e w2 ⟨rfl, hb, hr, ho⟩
  have HS : Hid (WalkP (fun x => w.heap.size ≤ x) w.heap.size (WS.init lo hi back most values) w2) := Lib.hid ⟨_, _, _, _, _, Nat.le_refl _, hb, ⟨_, rfl, by rw [HZ.out]; omega, hr⟩, rfl, ⟨World.ownsRow_nil _ _ _ _, fun g hg => by simp [Value.ownBlock] at hg⟩, ⟨World.ownsRow_nil _ _ _ _, fun g hg => by simp [Value.ownBlock] at hg⟩, ⟨World.ownsRow_nil _ _ _ _, fun g hg => by simp [Value.ownBlock] at hg⟩⟩
  have HB := Lib.hid (HB0.out.trans (ho.below (B := w.heap.size) (fun x hx => by omega) (by rw [HZ.out]; omega)))
  clear hb hr ho
  go_wp2_with (fail)
  go_ret
  exact ⟨rfl, HS.out, HB.out⟩
set_option maxHeartbeats 1000000 in
theorem slotW_any (F : Nat → Prop) (b : Nat) (s : WS) (w : World) (h : WalkP F b s w) (hl : s.levels ≠ []) (hll : s.levels.length ≤ 1000000) :
    Calls Tryz.prog 130 #[.pointer (some ⟨b, 0, none⟩)] w fun e w' => e = .returned (.int .i64 s.slot) ∧ Below w.heap.size w w' := by
  obtain ⟨rv, pv, lv, prv, sv, h⟩ := h
  obtain ⟨x, L, hL⟩ := List.exists_cons_of_ne_nil hl
  have hS : s.slot = childAtI x.1 x.2.1 x.2.2 := by unfold WS.slot WS.top; rw [hL]; rfl
  have hlev := h.lev
  rw [hL] at hlev hll
  have c9 : w.cell? ⟨b, 9, none⟩ = some lv := h.blk.cell 9
  have HS := Lib.hid hS
  have HL := Lib.hid hlev
  have C9 := Lib.hid c9
  clear hS hlev c9
  clear h hl hL
  go_enter Tryz.func130, Tryz.ntmps130
  go_wp2_with (fail)
  with_reducible refine (topL_cons b 9 lv x L _ F C9.out HL.out (by simp at hll; omega)).mono ?_
  rintro e w1 ⟨rfl, hb1⟩
  have hx := Blk.new w1 184 #[.int .i64 x.1, .int .i64 x.2.1, .int .i64 x.2.2]
  have hb2 := hb1.alloc hb1.size (.cells #[.int .i64 x.1, .int .i64 x.2.1, .int .i64 x.2.2] 184)
  have x0 : (w1.alloc (.cells #[.int .i64 x.1, .int .i64 x.2.1, .int .i64 x.2.2] 184)).cell? ⟨w1.heap.size, 0, none⟩ = some (.int .i64 x.1) := hx.cell 0
  have x1 : (w1.alloc (.cells #[.int .i64 x.1, .int .i64 x.2.1, .int .i64 x.2.2] 184)).cell? ⟨w1.heap.size, 1, none⟩ = some (.int .i64 x.2.1) := hx.cell 1
  have x2 : (w1.alloc (.cells #[.int .i64 x.1, .int .i64 x.2.1, .int .i64 x.2.2] 184)).cell? ⟨w1.heap.size, 2, none⟩ = some (.int .i64 x.2.2) := hx.cell 2
  have HB2 := Lib.hid hb2
  clear hb2
  clear hb1 hx
  go_wp2_with (fail)
  with_reducible refine (childat_any _ _ _ _).mono ?_
  rintro e w3 ⟨rfl, hb3⟩
  have HB3 := Lib.hid (HB2.out.trans (hb3.mono HB2.out.size))
  clear hb3
  go_wp2_with (fail)
  go_ret
  rw [HS.out]
  exact ⟨rfl, HB3.out⟩
set_option maxHeartbeats 1000000 in
theorem lookW_any (F : Nat → Prop) (b : Nat) (s : WS) (w : World) (h : WalkP F b s w) (hl : s.levels ≠ []) (hll : s.levels.length ≤ 1000000) :
    Calls Tryz.prog 129 #[.pointer (some ⟨b, 0, none⟩)] w (WPost F b s.look w) := by
  have H := Lib.hid h
  clear h
  go_enter Tryz.func129, Tryz.ntmps129
  go_wp2_with (fail)
  with_reducible refine (slotW_any F b s _ H.out hl hll).mono ?_
  rintro e w1 ⟨rfl, hb1⟩
  go_wp2_with (fail)
  with_reducible refine (newPk_any _ _).mono ?_
  rintro e w2 ⟨rfl, hp, hb2, _⟩
  have hb := hb1.trans (hb2.mono hb1.size)
  obtain ⟨rv, pv, lv, prv, sv, h2⟩ := H.out.below hb
  have hpo : ∃ a, pv = .pointer a := by
    have := h2.peek
    generalize s.peek = o at this
    cases o with
    | none => exact ⟨_, this⟩
    | some p => obtain ⟨pb, e, _⟩ := this; exact ⟨_, e⟩
  obtain ⟨pa, rfl⟩ := hpo
  have c0 : w2.cell? ⟨b, 0, none⟩ = some (.int .i64 s.next) := h2.blk.cell 0
  have c8 : w2.cell? ⟨b, 8, none⟩ = some (.pointer pa) := h2.blk.cell 8
  have f0 := h2.blk.frozen 0
  have f8 := h2.blk.frozen 8
  have hz1 := hb1.size
  have o3 : Chg (fun y => y = b) w2 ((w2.setCell ⟨b, 0, none⟩ (.int .i64 1)).setCell ⟨b, 8, none⟩ (.pointer (some ⟨w1.heap.size, 0, none⟩))) := Chg.of_mv (F := fun y => y = b) ((Mv.set1 w2 b 0 _).trans_ (Mv.set1 _ b 8 _)) rfl
  have HX : Hid (WalkP (fun x => F x ∨ w.heap.size ≤ x) b s.look ((w2.setCell ⟨b, 0, none⟩ (.int .i64 1)).setCell ⟨b, 8, none⟩ (.pointer (some ⟨w1.heap.size, 0, none⟩)))) := Lib.hid (by
    obtain ⟨a1, a2, a3, a4, a5⟩ := h2.rest o3 (fun x hx => by subst hx; exact ⟨_, _, h2.blk, .inl rfl⟩)
    exact ⟨rv, _, lv, prv, sv, .inl h2.fb, (h2.blk.set_ 0 _).set_ 8 _, a1.mono (fun _ => .inl), ⟨_, rfl, .inr hz1, o3.blk hp (fun e => hp.blk.ne_ h2.blk (by decide) e)⟩, a3.mono (fun _ => .inl), a4.mono (fun _ => .inl), a5.mono (fun _ => .inl)⟩)
  have HC : Hid (Chg (fun x => F x) w ((w2.setCell ⟨b, 0, none⟩ (.int .i64 1)).setCell ⟨b, 8, none⟩ (.pointer (some ⟨w1.heap.size, 0, none⟩)))) := Lib.hid ((Chg.of_below hb).trans (o3.mono (fun x hx => hx ▸ h2.fb)))
  clear hb1 hp hb2 hb h2 o3 H
  go_wp2_with (fail)
  go_end0
  exact ⟨rfl, HX.out, HC.out⟩
end Go.Proofs.YtblajeildolloaaGreat

/- The frame of seek: Step. -/
namespace Go.Proofs.YtblajeildolloaaGreat
set_option linter.unusedVariables false
set_option linter.unusedSimpArgs false
open Go.RowKit

/-- stepR_any in the words of Chg. -/
theorem stepR2_any (b bm : Nat) (s : RS) (B : Nat) (v : Value) (C : List Int) (size count odd ref : Int) (w : World) (h : RouteP b s w) (hm : MemP B bm v C size count odd ref w) (hI : s.Inv) (hC : C.length ≤ 1000000) (hw : ∀ i, i < C.length → -9223372036854775808 ≤ keyAt C i ∧ keyAt C i ≤ 9223372036854775807) :
    Calls Tryz.prog 30 #[.pointer (some ⟨b, 0, none⟩), .pointer (some ⟨bm, 0, none⟩)] w fun e w' => e = .returned (.bool ((s.step (rdC C)).next == 6)) ∧ RouteP b (s.step (rdC C)) w' ∧ MemP B bm v C size (cntO s.acc count) (oddO C s.acc odd) ref w' ∧ Only [b, bm] w w' :=
  (stepR_any b bm s B v C size count odd ref w h hm hI hC hw).mono fun e w' ⟨h1, h2, h3, h4⟩ => ⟨h1, h2, by
    unfold RS.acc
    by_cases h6 : s.next = 6
    · rw [if_pos h6]; rw [if_pos h6, if_pos (.inl h6)] at h3; exact h3
    · rw [if_neg h6]
      rw [if_neg h6] at h3
      have e : (s.next = 6 ∨ (1 ≤ s.addr ∧ s.addr ≤ C.length)) ↔ (1 ≤ s.addr ∧ s.addr ≤ C.length) := ⟨fun h => h.resolve_left h6, .inr⟩
      simp only [e] at h3
      exact h3, h4⟩
def SPost (F : Nat → Prop) (b bm : Nat) (s : SS) (B : Nat) (v : Value) (C : List Int) (size count odd ref : Int) (w : World) (e : Ending) (w' : World) : Prop :=
  e = .returned (.bool ((s.step (rdC C)).next == 5)) ∧ SeekP (fun x => F x ∨ w.heap.size ≤ x) b (s.step (rdC C)) w' ∧ MemP B bm v C size (cntO s.acc count) (oddO C s.acc odd) ref w' ∧ Chg (fun x => F x ∨ x = bm) w w'
/-- What is left where nothing but the memory's block has been turned. -/
theorem SeekQ.mem {F : Nat → Prop} {b bm : Nat} {s : SS} {B : Nat} {v : Value} {C : List Int} {size count odd ref : Int} {rv pv : Value} {w w1 : World} (hm : MemP B bm v C size count odd ref w) (hq : SeekQ F b s rv pv w) (m : Mv bm none w w1) : SeekQ F b s rv pv w1 := by
  have k := Chg.of_mv (F := fun y => y = bm) m rfl
  exact ⟨hq.fb, k.blk hq.blk (fun e => hq.blk.ne_ hm.blk (by decide) e), hq.route.keep k (fun y hy => by subst hy; exact ⟨_, _, hm.blk, by decide⟩), hq.peek.keep k (fun y hy => by subst hy; exact ⟨_, _, hm.blk, by decide⟩)⟩
set_option maxRecDepth 100000 in
set_option maxHeartbeats 1000000 in
theorem stepS5_any (F : Nat → Prop) (b bm : Nat) (s : SS) (B : Nat) (v : Value) (C : List Int) (size count odd ref : Int) (w : World) (h : SeekP F b s w) (hm : MemP B bm v C size count odd ref w) (hn : s.next = 5) : Calls Tryz.prog 53 #[.pointer (some ⟨b, 0, none⟩), .pointer (some ⟨bm, 0, none⟩)] w (SPost F b bm s B v C size count odd ref w) := by
  have hs := Lib.hid (SS.step5 (R := rdC C) hn)
  have ha := Lib.hid (SS.acc5 hn)
  have HH := Lib.hid h
  obtain ⟨rv, pv, h⟩ := h
  have c0 : w.cell? ⟨b, 0, none⟩ = some (.int .i64 5) := by rw [← hn]; exact h.blk.cell 0
  have HM := Lib.hid hm
  clear hm
  clear h hn
  go_enter Tryz.func53, Tryz.ntmps53
  go_wp2_with (fail)
  with_reducible refine (doneS_any _ _ _ _ HH.out).mono ?_
  rintro e w2 ⟨rfl, rfl⟩
  go_wp2_with (fail)
  go_ret
  unfold SPost
  rw [hs.out, ha.out]
  exact ⟨rfl, HH.out.mono (fun _ => .inl), HM.out, Chg.refl _ _⟩
section
variable (F : Nat → Prop) (b bm : Nat) (s : SS) (B : Nat) (v : Value) (C : List Int) (size count odd ref : Int) (w : World) (h : SeekP F b s w) (hm : MemP B bm v C size count odd ref w) (hI : s.Inv) (hC : C.length ≤ 1000000) (hw : ∀ i, i < C.length → -9223372036854775808 ≤ keyAt C i ∧ keyAt C i ≤ 9223372036854775807)
include h hm hI hC hw
set_option maxRecDepth 100000 in
set_option maxHeartbeats 1000000 in
theorem stepS0_any (hn : s.next = 0) : Calls Tryz.prog 53 #[.pointer (some ⟨b, 0, none⟩), .pointer (some ⟨bm, 0, none⟩)] w (SPost F b bm s B v C size count odd ref w) := by
  obtain ⟨rv, pv, h⟩ := h
  obtain ⟨rb, rfl, hFr, hr⟩ := h.route
  have ha := Lib.hid (SS.acc0 hn)
  have c0 : w.cell? ⟨b, 0, none⟩ = some (.int .i64 0) := by rw [← hn]; exact h.blk.cell 0
  have c3 : w.cell? ⟨b, 3, none⟩ = some (.pointer (some ⟨rb, 0, none⟩)) := h.blk.cell 3
  have hrI := hI.rt
  have H := Lib.hid h
  have HM := Lib.hid hm
  have HR := Lib.hid hr
  have HN := Lib.hid hn
  clear h hm hr hn
  clear hI
  go_enter Tryz.func53, Tryz.ntmps53
  go_wp2_with (fail)
  with_reducible refine (stepR2_any rb bm s.route B v C size count odd ref _ HR.out HM.out hrI hC hw).mono ?_
  rintro e w1 ⟨rfl, hr1, hm1, o1⟩
  have k1 : Chg (fun y => y = rb ∨ y = bm) w w1 := Chg.of_only o1 (by simp)
  have hB1 : Blk w1 b 162 #[.int .i64 s.next, .int .i64 s.k, .int .i64 s.n, .pointer (some ⟨rb, 0, none⟩), pv, .int .i64 s.at_, .int .i64 s.value, .bool s.there] := k1.blk H.out.blk (fun hy => by
    rcases hy with rfl | rfl
    · exact H.out.blk.ne_ HR.out.blk (by decide) rfl
    · exact H.out.blk.ne_ HM.out.blk (by decide) rfl)
  have hp1 : PeekO F pv s.peek w1 := H.out.peek.keep k1 (fun y hy => by
    rcases hy with rfl | rfl
    · exact ⟨_, _, HR.out.blk, by decide⟩
    · exact ⟨_, _, HM.out.blk, by decide⟩)
  have hFb := H.out.fb
  have hne : b ≠ bm := hB1.ne_ hm1.blk (by decide)
  have hvb := own_blk_not hm1.own hB1 (by decide)
  have O1 : Hid (Chg (fun x => F x ∨ x = bm) w w1) := Lib.hid (k1.mono (fun y hy => hy.imp (fun e => by rw [e]; exact hFr) id))
  have HM1 := Lib.hid hm1
  have hz1 := k1.size
  clear k1 o1 hm1 H HM HR c0 c3
  obtain ⟨r1, hr1e⟩ : ∃ r1, s.route.step (rdC C) = r1 := ⟨_, rfl⟩
  rw [hr1e] at hr1 ⊢
  by_cases h6 : r1.next = 6
  · have e6 : (r1.next == 6) = true := by simpa using h6
    have hs := Lib.hid (SS.step0e (R := rdC C) HN.out (by rw [hr1e]; exact h6))
    rw [hr1e] at hs
    have c2 : w1.cell? ⟨b, 2, none⟩ = some (.int .i64 s.n) := hB1.cell 2
    have c3 : w1.cell? ⟨b, 3, none⟩ = some (.pointer (some ⟨rb, 0, none⟩)) := hB1.cell 3
    have HR1 := Lib.hid hr1
    have HB1 := Lib.hid hB1
    rw [e6]
    clear e6 hr1 hB1 hr1e
    go_wp2_with (fail)
    have HRd : Hid (RouteP rb r1 w1.drew) := Lib.hid HR1.out
    have HBd : Hid (Blk w1.drew b 162 #[.int .i64 s.next, .int .i64 s.k, .int .i64 s.n, .pointer (some ⟨rb, 0, none⟩), pv, .int .i64 s.at_, .int .i64 s.value, .bool s.there]) := Lib.hid HB1.out
    go_region_held3 (fun w' => w'.cell? ⟨b, 2, none⟩ = some (.int .i64 s.n) ∧ w'.cell? ⟨b, 3, none⟩ = some (.pointer (some ⟨rb, 0, none⟩))) (first | go_keep | exact ⟨HB2.out.cell 2, HB2.out.cell 3⟩ | exact ⟨HB3.out.cell 2, HB3.out.cell 3⟩ | exact ⟨(HB3.out.set_ 0 _).cell 2, (HB3.out.set_ 0 _).cell 3⟩ | exact ⟨((HB3.out.set_ 0 _).set_ 4 _).cell 2, ((HB3.out.set_ 0 _).set_ 4 _).cell 3⟩) (first | (go_at_call 33; (with_reducible refine (degree_any rb r1 _ HRd.out h6).mono ?_); rintro e wq ⟨rfl, rfl⟩) | (go_at_call 34; (with_reducible refine (child_any rb r1 _ HRd.out).mono ?_); rintro e wq ⟨rfl, rfl⟩) | (go_at_call 117; (with_reducible refine (childat_any _ _ _ _).mono ?_); rintro e w2 ⟨rfl, hb2⟩; have HB2 := Lib.hid (HBd.out.below hb2 HBd.out.lt); have HR2 := Lib.hid (HRd.out.blk.below hb2 HRd.out.blk.lt); have BB2 := Lib.hid hb2; clear hb2) | (go_at_call 116; (with_reducible refine (newPk_any _ _).mono ?_); rintro e w3 ⟨rfl, hp3, hb3, hz3⟩; have HB3 := Lib.hid (HB2.out.below hb3 HB2.out.lt); have c03 := HB3.out.cell 0; have c43 := HB3.out.cell 4; have f03 := HB3.out.frozen 0; have f43 := HB3.out.frozen 4; have HP3 := Lib.hid hp3; have BB3 := Lib.hid hb3; clear hp3 hb3 hz3))
    have hbb : Below w1.heap.size w1 w3 := Below.trans (show Below w1.heap.size w1 w2 from (below_drew BB2.out)) (BB3.out.mono BB2.out.size)
    have hz2 : w1.heap.size ≤ w2.heap.size := BB2.out.size
    have o4 : Chg (fun y => y = b) w1 ((w3.setCell ⟨b, 0, none⟩ (.int .i64 1)).setCell ⟨b, 4, none⟩ (.pointer (some ⟨w2.heap.size, 0, none⟩))) := (Chg.of_below hbb).trans (Chg.of_mv (F := fun y => y = b) ((Mv.set1 w3 b 0 (.int .i64 1)).trans_ (Mv.set1 _ b 4 (.pointer (some ⟨w2.heap.size, 0, none⟩)))) rfl)
    have o5 : Chg (fun y => y = b) w3 ((w3.setCell ⟨b, 0, none⟩ (.int .i64 1)).setCell ⟨b, 4, none⟩ (.pointer (some ⟨w2.heap.size, 0, none⟩))) := Chg.of_mv (F := fun y => y = b) ((Mv.set1 w3 b 0 (.int .i64 1)).trans_ (Mv.set1 _ b 4 (.pointer (some ⟨w2.heap.size, 0, none⟩)))) rfl
    have HX : Hid (SeekP (fun y => F y ∨ w.heap.size ≤ y) b { s with route := r1, next := 1, peek := some (PS.init (childAtI s.n r1.degree r1.child)) } ((w3.setCell ⟨b, 0, none⟩ (.int .i64 1)).setCell ⟨b, 4, none⟩ (.pointer (some ⟨w2.heap.size, 0, none⟩)))) := Lib.hid ⟨_, _, .inl hFb, (HB3.out.set_ 0 _).set_ 4 _, ⟨rb, rfl, .inl hFr, o4.blk HR1.out (fun e => HR1.out.blk.ne_ HB1.out (by decide) e)⟩, ⟨_, rfl, .inr (by omega), o5.blk HP3.out (fun e => HP3.out.blk.ne_ HB3.out (by decide) e)⟩⟩
    have HM4 := Lib.hid (HM1.out.chg o4 (fun e => hne e.symm) (fun y hy e => hvb y hy e))
    have O4 : Hid (Chg (fun x => F x ∨ x = bm) w ((w3.setCell ⟨b, 0, none⟩ (.int .i64 1)).setCell ⟨b, 4, none⟩ (.pointer (some ⟨w2.heap.size, 0, none⟩)))) := Lib.hid (O1.out.trans (o4.mono (fun y hy => .inl (hy ▸ hFb))))
    clear o4 o5 hbb hz2 BB2 BB3 HB2 HR2 HB3 HP3 HR1 HB1 HRd HBd HM1 O1 c03 c43 f03 f43 c2 c3 hp1
    go_wp2_with (fail)
    with_reducible refine (doneS_any _ _ _ _ HX.out).mono ?_
    rintro e w5 ⟨rfl, rfl⟩
    go_wp2_with (fail)
    go_ret
    unfold SPost
    rw [hs.out, ha.out]
    exact ⟨rfl, HX.out, HM4.out, O4.out⟩
  · have e6 : (r1.next == 6) = false := by simpa using h6
    have hs := Lib.hid (SS.step0 (R := rdC C) HN.out (by rw [hr1e]; exact h6))
    rw [hr1e] at hs
    have HX : Hid (SeekP (fun y => F y ∨ w.heap.size ≤ y) b { s with route := r1 } w1) := Lib.hid ⟨_, _, .inl hFb, hB1, ⟨rb, rfl, .inl hFr, hr1⟩, hp1.mono (fun _ => .inl)⟩
    rw [e6]
    clear e6 hB1 hp1 hr1 hr1e
    go_wp2_with (fail)
    with_reducible refine (doneS_any _ _ _ _ HX.out).mono ?_
    rintro e w2 ⟨rfl, rfl⟩
    go_wp2_with (fail)
    go_ret
    unfold SPost
    rw [hs.out, ha.out]
    exact ⟨rfl, HX.out, HM1.out, O1.out⟩
set_option maxRecDepth 100000 in
set_option maxHeartbeats 1000000 in
theorem stepS1_any (hn : s.next = 1) : Calls Tryz.prog 53 #[.pointer (some ⟨b, 0, none⟩), .pointer (some ⟨bm, 0, none⟩)] w (SPost F b bm s B v C size count odd ref w) := by
  obtain ⟨rv, pv, h⟩ := h
  obtain ⟨p, hp, hpI, hp3⟩ : ∃ p, s.peek = some p ∧ p.Inv ∧ p.next ≠ 3 := by
    rcases hI.st with ⟨e, _⟩ | ⟨_, q⟩ | e | e | e | e <;> first | exact q | omega
  have hpk := h.peek
  rw [hp] at hpk
  obtain ⟨pb, rfl, hFp, hP⟩ := hpk
  have ha := Lib.hid (SS.acc1 hn hp)
  have c0 : w.cell? ⟨b, 0, none⟩ = some (.int .i64 1) := by rw [← hn]; exact h.blk.cell 0
  have c4 : w.cell? ⟨b, 4, none⟩ = some (.pointer (some ⟨pb, 0, none⟩)) := h.blk.cell 4
  have H := Lib.hid h
  have HM := Lib.hid hm
  have HP := Lib.hid hP
  have HN := Lib.hid hn
  have HPE := Lib.hid hp
  clear h hm hP hn hp
  clear hI hp3
  go_enter Tryz.func53, Tryz.ntmps53
  go_wp2_with (fail)
  with_reducible refine (stepPk_any pb bm p B v C size count odd ref _ HP.out HM.out hpI hC hw).mono ?_
  rintro e w1 ⟨rfl, hP1, hm1, o1⟩
  have k1 : Chg (fun y => y = pb ∨ y = bm) w w1 := Chg.of_only o1 (by simp)
  have hB1 : Blk w1 b 162 #[.int .i64 s.next, .int .i64 s.k, .int .i64 s.n, rv, .pointer (some ⟨pb, 0, none⟩), .int .i64 s.at_, .int .i64 s.value, .bool s.there] := k1.blk H.out.blk (fun hy => by
    rcases hy with rfl | rfl
    · exact H.out.blk.ne_ HP.out.blk (by decide) rfl
    · exact H.out.blk.ne_ HM.out.blk (by decide) rfl)
  have hr1 : RouteO F rv s.route w1 := H.out.route.keep k1 (fun y hy => by
    rcases hy with rfl | rfl
    · exact ⟨_, _, HP.out.blk, by decide⟩
    · exact ⟨_, _, HM.out.blk, by decide⟩)
  have hFb := H.out.fb
  have hne : b ≠ bm := hB1.ne_ hm1.blk (by decide)
  have hvb := own_blk_not hm1.own hB1 (by decide)
  have O1 : Hid (Chg (fun x => F x ∨ x = bm) w w1) := Lib.hid (k1.mono (fun y hy => hy.imp (fun e => by rw [e]; exact hFp) id))
  have HM1 := Lib.hid hm1
  have hz1 := k1.size
  have hpb := hpI.step (rdC_bd hw)
  clear k1 o1 hm1 H HM HP c0 c4
  obtain ⟨p1, hp1e⟩ : ∃ p1, p.step (rdC C) = p1 := ⟨_, rfl⟩
  rw [hp1e] at hP1 hpb ⊢
  have HX1 : Hid (SeekP F b { s with peek := some p1 } w1) := Lib.hid ⟨_, _, hFb, hB1, hr1, pb, rfl, hFp, hP1⟩
  by_cases h3 : p1.next = 3
  · have e3 : (p1.next == 3) = true := by simpa using h3
    have hs := Lib.hid (SS.step1e (R := rdC C) HN.out HPE.out (by rw [hp1e]; exact h3))
    rw [hp1e] at hs
    have c4 : w1.cell? ⟨b, 4, none⟩ = some (.pointer (some ⟨pb, 0, none⟩)) := hB1.cell 4
    have x0 := hpb.x0
    have x1 := hpb.x1
    have HP1 := Lib.hid hP1
    rw [e3]
    clear e3 hB1 hr1 hP1 hp1e h3 hpI hpb
    go_wp2_with (fail)
    with_reducible refine (wordPk_any pb p1 _ HP1.out).mono ?_
    rintro e w2 ⟨rfl, rfl⟩
    go_wp2_with (fail)
    with_reducible refine (meetS_any F b { s with peek := some p1 } p1.word _ HX1.out x0 x1).mono ?_
    rintro e w3 ⟨rfl, h3, o3⟩
    have HX3 : Hid (SeekP (fun y => F y ∨ w.heap.size ≤ y) b (SS.meet { s with peek := some p1 } p1.word) w3) := Lib.hid (h3.mono (fun y hy => hy.imp id (fun e => by omega)))
    have HM3 := Lib.hid (HM1.out.chg o3 (fun e => hne e.symm) (fun y hy e => hvb y hy e))
    have O3 : Hid (Chg (fun x => F x ∨ x = bm) w w3) := Lib.hid (O1.out.trans (o3.mono (fun y hy => .inl (hy ▸ hFb))))
    clear h3 o3 HM1 O1 HX1
    go_wp2_with (fail)
    with_reducible refine (doneS_any _ _ _ _ HX3.out).mono ?_
    rintro e w5 ⟨rfl, rfl⟩
    go_wp2_with (fail)
    go_ret
    unfold SPost
    rw [hs.out, ha.out]
    exact ⟨rfl, HX3.out, HM3.out, O3.out⟩
  · have e3 : (p1.next == 3) = false := by simpa using h3
    have hs := Lib.hid (SS.step1 (R := rdC C) HN.out HPE.out (by rw [hp1e]; exact h3))
    rw [hp1e] at hs
    have HX : Hid (SeekP (fun y => F y ∨ w.heap.size ≤ y) b { s with peek := some p1 } w1) := Lib.hid (HX1.out.mono (fun _ => .inl))
    rw [e3]
    clear e3 hB1 hr1 hP1 hp1e
    go_wp2_with (fail)
    with_reducible refine (doneS_any _ _ _ _ HX.out).mono ?_
    rintro e w2 ⟨rfl, rfl⟩
    go_wp2_with (fail)
    go_ret
    unfold SPost
    rw [hs.out, ha.out]
    exact ⟨rfl, HX.out, HM1.out, O1.out⟩
set_option maxRecDepth 100000 in
set_option maxHeartbeats 1000000 in
theorem stepS4_any (hn : s.next = 4) : Calls Tryz.prog 53 #[.pointer (some ⟨b, 0, none⟩), .pointer (some ⟨bm, 0, none⟩)] w (SPost F b bm s B v C size count odd ref w) := by
  have hs := Lib.hid (SS.step4 (R := rdC C) hn)
  have ha := Lib.hid (SS.acc4 hn)
  obtain ⟨rv, pv, h⟩ := h
  have c0 : w.cell? ⟨b, 0, none⟩ = some (.int .i64 4) := by rw [← hn]; exact h.blk.cell 0
  have c5 : w.cell? ⟨b, 5, none⟩ = some (.int .i64 s.at_) := h.blk.cell 5
  have a0 := hI.a0
  have a1 := hI.a1
  have HQ := Lib.hid (fun (w1 : World) (m : Mv bm none w w1) => h.mem hm m)
  have hR := rdC_bd hw
  have hFb := h.fb
  obtain ⟨rb, rfl, hFr, hr⟩ := h.route
  have hne : b ≠ bm := h.blk.ne_ hm.blk (by decide)
  have H := Lib.hid h
  have HM := Lib.hid hm
  clear h hm
  clear hI hn hr
  go_enter Tryz.func53, Tryz.ntmps53
  go_wp2_with (fail)
  with_reducible refine (read_any B bm v C size count odd ref s.at_ _ HM.out hC (by omega) (by omega)).mono ?_
  rintro e w2 ⟨rfl, hm2, m2⟩
  have h2 := HQ.out w2 m2
  have hvb := own_blk_not hm2.own h2.blk (by decide)
  have HM2 := Lib.hid hm2.read
  have O2 : Hid (Chg (fun x => F x ∨ x = bm) w w2) := Lib.hid (Chg.of_mv m2 (.inr rfl))
  have hz2 := m2.size
  have H2 := Lib.hid h2
  clear hm2 m2 c0 c5 HM H HQ h2
  have hr := hR s.at_
  obtain ⟨x, hx⟩ : ∃ x, rdC C s.at_ = x := ⟨_, rfl⟩
  rw [hx] at hr hs ⊢
  clear hx
  go_wp2_with (fail)
  with_reducible refine (refAt_any x _ hr.1 hr.2).mono ?_
  rintro e w3 ⟨rfl, rfl⟩
  go_wp2_with (fail)
  with_reducible refine (enterS_any b _ _ _ _ _ _ _ _ (wAt x) _ H2.out.blk ⟨_, rfl⟩).mono ?_
  rintro e w3 ⟨rfl, hb, hr3, ho⟩
  have HX : Hid (SeekP (fun y => F y ∨ w.heap.size ≤ y) b (SS.enter s (wAt x)) w3) := Lib.hid ⟨_, _, .inl hFb, hb, ⟨_, rfl, .inr hz2, hr3⟩, (H2.out.peek.keep ho (fun y hy => by subst hy; exact ⟨_, _, H2.out.blk, by decide⟩)).mono (fun _ => .inl)⟩
  have HM3 := Lib.hid (HM2.out.chg ho (fun e => hne e.symm) (fun y hy e => hvb y hy e))
  have O3 : Hid (Chg (fun x => F x ∨ x = bm) w w3) := Lib.hid (O2.out.trans (ho.mono (fun y hy => .inl (hy ▸ hFb))))
  clear hb hr3 ho H2 HM2 O2
  go_wp2_with (fail)
  with_reducible refine (doneS_any _ _ _ _ HX.out).mono ?_
  rintro e w4 ⟨rfl, rfl⟩
  go_wp2_with (fail)
  go_ret
  unfold SPost
  rw [hs.out, ha.out]
  exact ⟨rfl, HX.out, HM3.out, O3.out⟩
set_option maxRecDepth 100000 in
set_option maxHeartbeats 1000000 in
theorem stepS3_any (hn : s.next = 3) : Calls Tryz.prog 53 #[.pointer (some ⟨b, 0, none⟩), .pointer (some ⟨bm, 0, none⟩)] w (SPost F b bm s B v C size count odd ref w) := by
  have hs := Lib.hid (SS.step3 (R := rdC C) hn)
  have ha := Lib.hid (SS.acc3 hn)
  obtain ⟨rv, pv, h⟩ := h
  have c0 : w.cell? ⟨b, 0, none⟩ = some (.int .i64 3) := by rw [← hn]; exact h.blk.cell 0
  have c5 : w.cell? ⟨b, 5, none⟩ = some (.int .i64 s.at_) := h.blk.cell 5
  have a0 := hI.a0
  have a1 := hI.a1
  have HQ := Lib.hid (fun (w1 : World) (m : Mv bm none w w1) => h.mem hm m)
  have hR := rdC_bd hw
  have hFb := h.fb
  have hne : b ≠ bm := h.blk.ne_ hm.blk (by decide)
  have H := Lib.hid h
  have HM := Lib.hid hm
  clear h hm
  clear hI hn
  go_enter Tryz.func53, Tryz.ntmps53
  go_wp2_with (fail)
  with_reducible refine (read_any B bm v C size count odd ref (s.at_ + 1) _ HM.out hC (by omega) (by omega)).mono ?_
  rintro e w2 ⟨rfl, hm2, m2⟩
  have h2 := HQ.out w2 m2
  have hvb := own_blk_not hm2.own h2.blk (by decide)
  have HM2 := Lib.hid hm2.read
  have O2 : Hid (Chg (fun x => F x ∨ x = bm) w w2) := Lib.hid (Chg.of_mv m2 (.inr rfl))
  clear hm2 m2 c0 c5 HM H HQ
  obtain ⟨x, hx⟩ : ∃ x, rdC C (s.at_ + 1) = x := ⟨_, rfl⟩
  rw [hx] at hs ⊢
  clear hx
  have c0 : w2.cell? ⟨b, 0, none⟩ = some (.int .i64 s.next) := h2.blk.cell 0
  have c6 : w2.cell? ⟨b, 6, none⟩ = some (.int .i64 s.value) := h2.blk.cell 6
  have c7 : w2.cell? ⟨b, 7, none⟩ = some (.bool s.there) := h2.blk.cell 7
  have f0 := h2.blk.frozen 0
  have f6 := h2.blk.frozen 6
  have f7 := h2.blk.frozen 7
  have o3 : Chg (fun y => y = b) w2 (((w2.setCell ⟨b, 6, none⟩ (.int .i64 x)).setCell ⟨b, 7, none⟩ (.bool true)).setCell ⟨b, 0, none⟩ (.int .i64 5)) := Chg.of_mv (F := fun y => y = b) (((Mv.set1 w2 b 6 (.int .i64 x)).trans_ (Mv.set1 _ b 7 (.bool true))).trans_ (Mv.set1 _ b 0 (.int .i64 5))) rfl
  have HX : Hid (SeekP (fun y => F y ∨ w.heap.size ≤ y) b { s with value := x, there := true, next := 5 } (((w2.setCell ⟨b, 6, none⟩ (.int .i64 x)).setCell ⟨b, 7, none⟩ (.bool true)).setCell ⟨b, 0, none⟩ (.int .i64 5))) := Lib.hid ⟨_, _, .inl hFb, ((h2.blk.set_ 6 _).set_ 7 _).set_ 0 _, (h2.route.keep o3 (fun y hy => by subst hy; exact ⟨_, _, h2.blk, by decide⟩)).mono (fun _ => .inl), (h2.peek.keep o3 (fun y hy => by subst hy; exact ⟨_, _, h2.blk, by decide⟩)).mono (fun _ => .inl)⟩
  have HM3 := Lib.hid (HM2.out.chg o3 (fun e => hne e.symm) (fun y hy e => hvb y hy e))
  have O3 : Hid (Chg (fun x => F x ∨ x = bm) w (((w2.setCell ⟨b, 6, none⟩ (.int .i64 x)).setCell ⟨b, 7, none⟩ (.bool true)).setCell ⟨b, 0, none⟩ (.int .i64 5))) := Lib.hid (O2.out.trans (o3.mono (fun y hy => .inl (hy ▸ hFb))))
  clear h2 o3 HM2 O2
  go_wp2_with (fail)
  with_reducible refine (doneS_any _ _ _ _ HX.out).mono ?_
  rintro e w4 ⟨rfl, rfl⟩
  go_wp2_with (fail)
  go_ret
  unfold SPost
  rw [hs.out, ha.out]
  exact ⟨rfl, HX.out, HM3.out, O3.out⟩
set_option maxRecDepth 100000 in
set_option maxHeartbeats 1000000 in
theorem stepS2_any (hn : s.next = 2) : Calls Tryz.prog 53 #[.pointer (some ⟨b, 0, none⟩), .pointer (some ⟨bm, 0, none⟩)] w (SPost F b bm s B v C size count odd ref w) := by
  have hR := rdC_bd hw
  clear hR
  have hs := Lib.hid (SS.step2 (R := rdC C) hn)
  have ha := Lib.hid (SS.acc2 hn)
  obtain ⟨rv, pv, h⟩ := h
  have c0 : w.cell? ⟨b, 0, none⟩ = some (.int .i64 2) := by rw [← hn]; exact h.blk.cell 0
  have f0 := h.blk.frozen 0
  have a0 := hI.a0
  have a1 := hI.a1
  have o1 : Chg (fun y => y = b) w (w.setCell ⟨b, 0, none⟩ (.int .i64 3)) := Chg.of_mv (F := fun y => y = b) (Mv.set1 w b 0 (.int .i64 3)) rfl
  have h1 : SeekQ F b { s with next := 3 } rv pv (w.setCell ⟨b, 0, none⟩ (.int .i64 3)) := ⟨h.fb, h.blk.set_ 0 _, h.route.keep o1 (fun y hy => by subst hy; exact ⟨_, _, h.blk, by decide⟩), h.peek.keep o1 (fun y hy => by subst hy; exact ⟨_, _, h.blk, by decide⟩)⟩
  have hFb := h.fb
  have hne : b ≠ bm := h.blk.ne_ hm.blk (by decide)
  have hm1 := hm.chg o1 (fun e => hne e.symm) (fun y hy e => own_blk_not hm.own h.blk (by decide) y hy e)
  have O1 : Hid (Chg (fun x => F x ∨ x = bm) w (w.setCell ⟨b, 0, none⟩ (.int .i64 3))) := Lib.hid (o1.mono (fun y hy => .inl (hy ▸ hFb)))
  have hz1 : w.heap.size = (w.setCell ⟨b, 0, none⟩ (.int .i64 3)).heap.size := by simp
  have HZ := Lib.hid hz1
  have H1 := Lib.hid h1
  have HM1 := Lib.hid hm1
  clear h1 hm1
  clear hI hn o1 h hm hz1
  go_enter Tryz.func53, Tryz.ntmps53
  go_wp2_with (fail)
  generalize w.setCell ⟨b, 0, none⟩ (.int .i64 3) = w1 at H1 HM1 O1 HZ ⊢
  have HB1 := Lib.hid H1.out.blk
  have HQ : Hid (∀ w2, Mv bm none w1 w2 → SeekQ F b { s with next := 3 } rv pv w2) := Lib.hid (fun w2 m => by
    have k := Chg.of_mv (F := fun y => y = bm) m rfl
    exact ⟨H1.out.fb, k.blk H1.out.blk (fun e => H1.out.blk.ne_ HM1.out.blk (by decide) e), H1.out.route.keep k (fun y hy => by subst hy; exact ⟨_, _, HM1.out.blk, by decide⟩), H1.out.peek.keep k (fun y hy => by subst hy; exact ⟨_, _, HM1.out.blk, by decide⟩)⟩)
  have HMd : Hid (MemP B bm v C size count odd ref w1.drew) := Lib.hid (HM1.out.below (drawn_bl (Drawn.of w1 1) _))
  have c5 : w1.cell? ⟨b, 5, none⟩ = some (.int .i64 s.at_) := H1.out.blk.cell 5
  have c1 : w1.cell? ⟨b, 1, none⟩ = some (.int .i64 s.k) := H1.out.blk.cell 1
  have ew : IntKind.i64.wrap s.at_ = s.at_ := IntWalk.i64_in _ ⟨by omega, by omega⟩
  go_region_held3 (fun w' => w'.cell? ⟨b, 5, none⟩ = some (.int .i64 s.at_) ∧ w'.cell? ⟨b, 1, none⟩ = some (.int .i64 s.k)) (first | go_keep | exact ⟨H2.out.blk.cell 5, H2.out.blk.cell 1⟩) (first | (go_at_call 91; (with_reducible refine (read_any B bm v C size count odd ref s.at_ _ HMd.out hC (by omega) (by omega)).mono ?_); rintro e w2 ⟨rfl, hm2, m2⟩; have H2 := Lib.hid (HQ.out w2 (Mv.after (drawn_bl (Drawn.of w1 1) _) m2)); have HM2 := Lib.hid hm2.read; have O2 : Hid (Chg (fun x => F x ∨ x = bm) w w2) := Lib.hid (O1.out.trans (Chg.of_mv (Mv.after (drawn_bl (Drawn.of w1 1) _) m2) (.inr rfl))); clear hm2 m2))
  have hz2 := O2.out.size
  clear HMd HM1 O1 HB1 HQ c5 c1 ew
  obtain ⟨x, hx⟩ : ∃ x, rdC C s.at_ = x := ⟨_, rfl⟩
  rw [hx] at hs ⊢
  clear hx
  by_cases hk : x = s.k
  · have e1 : (x != s.k) = false := by simpa using hk
    have HX : Hid (SeekP (fun y => F y ∨ w.heap.size ≤ y) b { s with next := 3 } w2) := Lib.hid (SeekP.mono ⟨_, _, H2.out⟩ (fun _ => .inl))
    have HK := Lib.hid hk
    clear hk
    clear H2 H1
    go_wp2_with (fail)
    with_reducible refine (doneS_any _ _ _ _ HX.out).mono ?_
    rintro e w4 ⟨rfl, rfl⟩
    go_wp2_with (fail)
    go_ret
    unfold SPost
    rw [hs.out, ha.out, if_pos HK.out]
    exact ⟨rfl, HX.out, HM2.out, O2.out⟩
  · have e1 : (x != s.k) = true := by simpa using hk
    have h2 := H2.out
    have c0 : w2.cell? ⟨b, 0, none⟩ = some (.int .i64 3) := h2.blk.cell 0
    have f0 := h2.blk.frozen 0
    have hvb := own_blk_not HM2.out.own h2.blk (by decide)
    have o3 : Chg (fun y => y = b) w2 (w2.setCell ⟨b, 0, none⟩ (.int .i64 5)) := Chg.of_mv (F := fun y => y = b) (Mv.set1 w2 b 0 (.int .i64 5)) rfl
    have HX : Hid (SeekP (fun y => F y ∨ w.heap.size ≤ y) b { s with next := 5 } (w2.setCell ⟨b, 0, none⟩ (.int .i64 5))) := Lib.hid ⟨_, _, .inl hFb, h2.blk.set_ 0 _, (h2.route.keep o3 (fun y hy => by subst hy; exact ⟨_, _, h2.blk, by decide⟩)).mono (fun _ => .inl), (h2.peek.keep o3 (fun y hy => by subst hy; exact ⟨_, _, h2.blk, by decide⟩)).mono (fun _ => .inl)⟩
    have HM3 := Lib.hid (HM2.out.chg o3 (fun e => hne e.symm) (fun y hy e => hvb y hy e))
    have O3 : Hid (Chg (fun x => F x ∨ x = bm) w (w2.setCell ⟨b, 0, none⟩ (.int .i64 5))) := Lib.hid (O2.out.trans (o3.mono (fun y hy => .inl (hy ▸ hFb))))
    have HK := Lib.hid hk
    clear hk
    clear h2 o3 HM2 O2 H2 H1
    go_wp2_with (fail)
    with_reducible refine (doneS_any _ _ _ _ HX.out).mono ?_
    rintro e w4 ⟨rfl, rfl⟩
    go_wp2_with (fail)
    go_ret
    unfold SPost
    rw [hs.out, ha.out, if_neg HK.out]
    exact ⟨rfl, HX.out, HM3.out, O3.out⟩
theorem stepS_any : Calls Tryz.prog 53 #[.pointer (some ⟨b, 0, none⟩), .pointer (some ⟨bm, 0, none⟩)] w (SPost F b bm s B v C size count odd ref w) := by
  rcases hI.st with ⟨e, _⟩ | ⟨e, _⟩ | e | e | e | e
  · exact stepS0_any F b bm s B v C size count odd ref w h hm hI hC hw e
  · exact stepS1_any F b bm s B v C size count odd ref w h hm hI hC hw e
  · exact stepS2_any F b bm s B v C size count odd ref w h hm hI hC hw e
  · exact stepS3_any F b bm s B v C size count odd ref w h hm hI hC hw e
  · exact stepS4_any F b bm s B v C size count odd ref w h hm hI hC hw e
  · exact stepS5_any F b bm s B v C size count odd ref w h hm e
end
end Go.Proofs.YtblajeildolloaaGreat

namespace Go.Proofs.YtblajeildolloaaGreat
set_option linter.unusedVariables false
set_option linter.unusedSimpArgs false
open Go.RowKit
/- The frame of walk: onward, ahead, meet. -/

/-- How long the slice is that lies at a place. -/
def lenAt (w : World) (b o : Nat) : Nat := match w.cell? ⟨b, o, none⟩ with
  | some (.slice _ n _) => n
  | _ => 0
theorem LvP.lenAt {F : Nat → Prop} {lv : Value} {L : List (Int × Int × Int)} {w : World} {b o : Nat} (h : LvP F lv L w) (hc : w.cell? ⟨b, o, none⟩ = some lv) : lenAt w b o = L.length := by
  obtain ⟨A, c, rfl⟩ := own_shape h.1
  unfold Go.Proofs.YtblajeildolloaaGreat.lenAt
  rw [hc]
def headL : List (Int × Int × Int) → Int × Int × Int
  | [] => (0, 0, 0)
  | x :: _ => x
def hasL : List (Int × Int × Int) → Bool
  | [] => false
  | _ :: _ => true
def topV (L : List (Int × Int × Int)) : Array Value := #[.int .i64 (headL L).1, .int .i64 (headL L).2.1, .int .i64 (headL L).2.2]
theorem topL_any (b o : Nat) (lv : Value) (L : List (Int × Int × Int)) (w : World) (F : Nat → Prop) (hc : w.cell? ⟨b, o, none⟩ = some lv) (h : LvP F lv L w) (hl : L.length ≤ 1000000) :
    Calls Tryz.prog 183 #[.pointer (some ⟨b, o, none⟩)] w (TopPost (headL L) (hasL L) w) := by
  cases L with
  | nil => exact topL_nil b o lv w F hc h
  | cons x L => exact topL_cons b o lv x L w F hc h (by simp at hl; omega)
theorem WalkQ.within {F : Nat → Prop} {b : Nat} {s : WS} {rv pv lv prv sv : Value} {w : World} (h : WalkQ F b s rv pv lv prv sv w) : WalkQ (fun x => F x ∧ x < w.heap.size) b s rv pv lv prv sv w := by
  refine ⟨⟨h.fb, h.blk.lt⟩, h.blk, h.route.within, ?_, h.lev.within, h.prs.within, h.sps.within⟩
  have hp := h.peek
  generalize s.peek = o at hp
  cases o with
  | none => exact hp
  | some p => obtain ⟨pb, h1, h2, h3⟩ := hp; exact ⟨pb, h1, ⟨h2, h3.blk.lt⟩, h3⟩
theorem WalkQ.turned {F : Nat → Prop} {b : Nat} {s : WS} {rv pv lv prv sv lv' : Value} {L : List (Int × Int × Int)} {w w' : World} (h : WalkQ F b s rv pv lv prv sv w) (hb : Blk w' b 181 #[.int .i64 s.next, .int .i64 s.lo, .int .i64 s.hi, .bool s.back, .bool s.values, .int .i64 s.most, .int .i64 s.n, rv, pv, lv', .int .i64 s.at_, .int .i64 s.key, prv, sv]) (hlv : LvP F lv' L w') (hc : Chg (fun y => y = b ∨ lv.ownBlock = some y) w w') : WalkQ F b { s with levels := L } rv pv lv' prv sv w' := by
  have k : ∀ T : TypeId, 181 ≠ T → 184 ≠ T → ∀ x, (x = b ∨ lv.ownBlock = some x) → ∃ t cs, Blk w x t cs ∧ t ≠ T := fun T h1 h2 x hx => by
    rcases hx with rfl | hx
    · exact ⟨_, _, h.blk, h1⟩
    · obtain ⟨cs, hb⟩ := own_blk h.lev.1 hx
      exact ⟨_, cs, hb, h2⟩
  exact ⟨h.fb, hb, h.route.keep hc (k _ (by decide) (by decide)), h.peek.keep hc (k _ (by decide) (by decide)), hlv, h.prs.keep hc (k _ (by decide) (by decide)), h.sps.keep hc (k _ (by decide) (by decide))⟩
def PopW (F : Nat → Prop) (b : Nat) (s : WS) (rv pv lv prv sv : Value) (l : Int × Int × Int) (L : List (Int × Int × Int)) (w : World) (e : Ending) (w' : World) : Prop :=
  e = .returned (.tuple #[.agg #[.int .i64 l.1, .int .i64 l.2.1, .int .i64 l.2.2], .bool true]) ∧ ∃ lv', WalkQ F b { s with levels := L } rv pv lv' prv sv w' ∧ lv'.ownBlock = lv.ownBlock ∧ Chg (fun y => y = b ∨ lv.ownBlock = some y) w w'
theorem popW_any (F : Nat → Prop) (b : Nat) (s : WS) (rv pv lv prv sv : Value) (l : Int × Int × Int) (L : List (Int × Int × Int)) (w : World) (h : WalkQ F b s rv pv lv prv sv w) (hs : s.levels = l :: L) (hl : L.length ≤ 1000000) :
    Calls Tryz.prog 184 #[.pointer (some ⟨b, 9, none⟩)] w (PopW F b s rv pv lv prv sv l L w) := by
  refine (popL_cons F b 9 181 _ lv l L w h.blk (by decide) rfl (hs ▸ h.lev) hl).mono ?_
  rintro e w' ⟨he, lv', hb, hlv, ho, hc⟩
  exact ⟨he, lv', h.turned hb hlv hc, ho, hc⟩
def OnRel (F : Nat → Prop) (b : Nat) (s : WS) (w : World) (p ok : Value) (wr : World) : Prop := ∃ (L : List (Int × Int × Int)) (z : Nat) (rv pv lv prv sv : Value), p = .pointer (some ⟨z, 0, none⟩) ∧ ok = .bool (hasL L) ∧ Blk wr z 184 (topV L) ∧ WalkQ F b { s with levels := L } rv pv lv prv sv wr ∧ (∀ g, lv.ownBlock = some g → g ≠ z) ∧ popTo s.back L = popTo s.back s.levels ∧ L.length ≤ 1000000 ∧ (∀ l ∈ L, levelB l) ∧ w.heap.size ≤ z ∧ Chg (fun x => F x) w wr
set_option maxRecDepth 100000 in
set_option maxHeartbeats 2000000 in
theorem onwardW_any (F : Nat → Prop) (b : Nat) (s : WS) (w : World) (h : WalkP F b s w) (hll : s.levels.length ≤ 1000000) (hlv : ∀ l ∈ s.levels, levelB l) :
    Calls Tryz.prog 132 #[.pointer (some ⟨b, 0, none⟩)] w (WPost F b s.onward w) := by
  obtain ⟨rv, pv, lv, prv, sv, h⟩ := h
  have c9 : w.cell? ⟨b, 9, none⟩ = some lv := h.blk.cell 9
  have H := Lib.hid h
  have C9 := Lib.hid c9
  clear h c9
  go_enter Tryz.func132, Tryz.ntmps132
  go_wp2_with (fail)
  with_reducible refine (topL_any b 9 lv s.levels _ F C9.out H.out.lev hll).mono ?_
  rintro e w1 ⟨rfl, hb1⟩
  have hx := Blk.new w1 184 (topV s.levels)
  have hb2 := hb1.alloc hb1.size (.cells (topV s.levels) 184)
  have hR : OnRel F b s w (.pointer (some ⟨w1.heap.size, 0, none⟩)) (.bool (hasL s.levels)) (w1.alloc (.cells (topV s.levels) 184)) := ⟨s.levels, w1.heap.size, rv, pv, lv, prv, sv, rfl, rfl, hx, H.out.below hb2, fun g hg => by have := own_lt H.out.lev.1 g hg; have := hb1.size; omega, rfl, hll, hlv, hb1.size, Chg.of_below hb2⟩
  have HR := Lib.hid hR
  clear hR
  clear hx hb1 hb2 H C9
  go_wp2_with (fail)
  change Code.wp _ _ _ _ (w1.alloc (.cells (topV s.levels) 184))
  generalize w1.alloc (.cells (topV s.levels) 184) = w2 at HR ⊢
  go_loopw [2, 3] (fun p ok wr => OnRel F b s w p ok wr) (fun _ _ wr => lenAt wr b 9)
  case atStart => exact HR.out
  case round =>
    obtain ⟨L, z, rv, pv, lv, prv, sv, rfl, rfl, hz, hq, hne, hpo, hle, hlb, hzw, hch⟩ := hrel
    clear HR
    have c9 : wr.cell? ⟨b, 9, none⟩ = some lv := hq.blk.cell 9
    cases L with
    | nil =>
      have hpe : popTo s.back s.levels = [] := hpo.symm
      have HS := Lib.hid (show s.onward = { s with levels := [], next := 6 } by unfold WS.onward; rw [hpe]; rfl)
      have c0 : wr.cell? ⟨b, 0, none⟩ = some (.int .i64 s.next) := hq.blk.cell 0
      have f0 := hq.blk.frozen 0
      have o1 : Chg (fun y => y = b) wr (wr.setCell ⟨b, 0, none⟩ (.int .i64 6)) := Chg.of_mv (F := fun y => y = b) (Mv.set1 wr b 0 _) rfl
      have HX : Hid (WalkP (fun x => F x ∨ w.heap.size ≤ x) b { s with levels := [], next := 6 } (wr.setCell ⟨b, 0, none⟩ (.int .i64 6))) := Lib.hid ⟨rv, pv, lv, prv, sv, (hq.own o1 (s' := { s with levels := [], next := 6 }) (hq.blk.set_ 0 _) rfl rfl rfl rfl rfl).mono (fun _ => .inl)⟩
      have HC := Lib.hid (hch.trans (o1.mono (fun x hx => hx ▸ hq.fb)))
      have hok : hasL ([] : List (Int × Int × Int)) = false := rfl
      rw [hok]
      clear hq hch o1 hz hne hpo hpe hok
      go_wp2_with (fail)
      go_end0
      rw [HS.out]
      exact ⟨rfl, HX.out, HC.out⟩
    | cons l L =>
      have hok : hasL (l :: L) = true := rfl
      have z0 : wr.cell? ⟨z, 0, none⟩ = some (.int .i64 l.1) := hz.cell 0
      have z1 : wr.cell? ⟨z, 1, none⟩ = some (.int .i64 l.2.1) := hz.cell 1
      have z2 : wr.cell? ⟨z, 2, none⟩ = some (.int .i64 l.2.2) := hz.cell 2
      have c3 : wr.cell? ⟨b, 3, none⟩ = some (.bool s.back) := hq.blk.cell 3
      obtain ⟨l0, l1, l2⟩ := hlb l (by simp)
      rw [hok]
      cases hm : more s.back l with
      | true =>
        have hpe : popTo s.back s.levels = l :: L := by rw [← hpo]; unfold popTo; rw [if_pos hm]
        have HS := Lib.hid (show s.onward = { s with levels := l :: L, next := 5 } by unfold WS.onward; rw [hpe]; rfl)
        have c0 : wr.cell? ⟨b, 0, none⟩ = some (.int .i64 s.next) := hq.blk.cell 0
        have f0 := hq.blk.frozen 0
        have o1 : Chg (fun y => y = b) wr (wr.setCell ⟨b, 0, none⟩ (.int .i64 5)) := Chg.of_mv (F := fun y => y = b) (Mv.set1 wr b 0 _) rfl
        have HX : Hid (WalkP (fun x => F x ∨ w.heap.size ≤ x) b { s with levels := l :: L, next := 5 } (wr.setCell ⟨b, 0, none⟩ (.int .i64 5))) := Lib.hid ⟨rv, pv, lv, prv, sv, (hq.own o1 (s' := { s with levels := l :: L, next := 5 }) (hq.blk.set_ 0 _) rfl rfl rfl rfl rfl).mono (fun _ => .inl)⟩
        have HC := Lib.hid (hch.trans (o1.mono (fun x hx => hx ▸ hq.fb)))
        unfold more at hm
        clear hq hch o1 hz hne hpo hpe hok
        cases hbk : s.back with
        | true =>
          rw [hbk] at c3 hm
          have hm2 : 0 < l.2.2 := of_decide_eq_true (by simpa using hm)
          clear hbk hm
          go_wp2_with (fail)
          refine bodyPost_ret (results_none rfl _ _ _) rfl ?_
          rw [HS.out]
          exact ⟨rfl, HX.out, HC.out⟩
        | false =>
          rw [hbk] at c3 hm
          have hm2 : l.2.2 + 1 < l.2.1 := of_decide_eq_true (by simpa using hm)
          clear hbk hm
          go_wp2_with (fail)
          refine bodyPost_ret (results_none rfl _ _ _) rfl ?_
          rw [HS.out]
          exact ⟨rfl, HX.out, HC.out⟩
      | false =>
        have hpe : popTo s.back L = popTo s.back s.levels := by
          rw [← hpo]
          show _ = (if more s.back l = true then l :: L else popTo s.back L)
          rw [if_neg (by rw [hm]; exact Bool.false_ne_true)]
        unfold more at hm
        have HQ := Lib.hid hq
        have HZ := Lib.hid hz
        have HLe := Lib.hid (hq.lev.lenAt c9)
        have HPE := Lib.hid hpe
        have HCH := Lib.hid hch
        have HNE := Lib.hid hne
        have HLB := Lib.hid hlb
        clear hpe hch hne hlb
        clear hq hz hpo hok
        have hll3 : L.length ≤ 1000000 := by simp at hle; omega
        cases hbk : s.back with
        | true =>
          rw [hbk] at c3 hm
          have hm2 : ¬ 0 < l.2.2 := of_decide_eq_false (by simpa using hm)
          clear hm
          go_wp2_with (fail)
          with_reducible refine (popW_any F b _ rv pv lv prv sv l L _ HQ.out rfl hll3).mono ?_
          rintro e w3 ⟨rfl, lv3, hq3, ho3, hc3⟩
          have HQ3 := Lib.hid hq3
          clear hq3
          have hz3 : Blk w3 z 184 (topV (l :: L)) := hc3.blk HZ.out (fun e => by
            rcases e with e | e
            · exact HZ.out.ne_ HQ.out.blk (by decide) e
            · exact HNE.out _ e rfl)
          have hC3 := HCH.out.trans (hc3.mono (fun y hy => by
            rcases hy with rfl | e
            · exact HQ.out.fb
            · exact HQ.out.lev.2 _ e))
          have y0 : w3.cell? ⟨z, 0, none⟩ = some (.int .i64 l.1) := hz3.cell 0
          have y1 : w3.cell? ⟨z, 1, none⟩ = some (.int .i64 l.2.1) := hz3.cell 1
          have y2 : w3.cell? ⟨z, 2, none⟩ = some (.int .i64 l.2.2) := hz3.cell 2
          have hzl := hz3.lt
          have HC3 := Lib.hid hC3
          have HO3 := Lib.hid ho3
          clear hC3 ho3
          clear z0 z1 z2 c3 c9 hz3 hc3
          go_wp2_with (fail)
          have hn4 := Blk.new w3 184 #[.int .i64 l.1, .int .i64 l.2.1, .int .i64 l.2.2]
          have hb4 := (Below.refl w3.heap.size w3).alloc (Nat.le_refl _) (.cells #[.int .i64 l.1, .int .i64 l.2.1, .int .i64 l.2.2] 184)
          have HQ4 := Lib.hid (HQ3.out.below hb4)
          have hs4 : (w3.alloc (.cells #[.int .i64 l.1, .int .i64 l.2.1, .int .i64 l.2.2] 184)).heap.size = w3.heap.size + 1 := by simp
          with_reducible refine (topL_any b 9 lv3 L _ F (HQ4.out.blk.cell 9) HQ4.out.lev hll3).mono ?_
          rintro e w5 ⟨rfl, hb5⟩
          have HQ5 := Lib.hid (HQ4.out.below hb5)
          have hn5 := hn4.below hb5 (by rw [hs4]; omega)
          have HB5 := Lib.hid (hb4.trans (hb5.mono (by rw [hs4]; omega)))
          have HN5 := Lib.hid hn5
          have v0 : w5.cell? ⟨w3.heap.size, 0, none⟩ = some (.int .i64 l.1) := hn5.cell 0
          have v1 : w5.cell? ⟨w3.heap.size, 1, none⟩ = some (.int .i64 l.2.1) := hn5.cell 1
          have v2 : w5.cell? ⟨w3.heap.size, 2, none⟩ = some (.int .i64 l.2.2) := hn5.cell 2
          have g0 := hn5.frozen 0
          have g1 := hn5.frozen 1
          have g2 := hn5.frozen 2
          clear hn4 hb4 HQ4 hb5 hn5 hs4 y0 y1 y2 hzl
          go_wp2_with (fail)
          have hz3 := HC3.out.size
          have hch6 : Chg (fun y => y = w3.heap.size) w5 (((w5.setCell ⟨w3.heap.size, 0, none⟩ (.int .i64 (headL L).1)).setCell ⟨w3.heap.size, 1, none⟩ (.int .i64 (headL L).2.1)).setCell ⟨w3.heap.size, 2, none⟩ (.int .i64 (headL L).2.2)) := Chg.of_mv (F := fun y => y = w3.heap.size) (((Mv.set1 w5 w3.heap.size 0 _).trans_ (Mv.set1 _ w3.heap.size 1 _)).trans_ (Mv.set1 _ w3.heap.size 2 _)) rfl
          have hq6 := ((HQ3.out.within.below HB5.out).chg hch6 (fun x hx e => by have := hx.2; omega)).mono (fun x hx => hx.1)
          have hb6 := ((HN5.out.set_ 0 (.int .i64 (headL L).1)).set_ 1 (.int .i64 (headL L).2.1)).set_ 2 (.int .i64 (headL L).2.2)
          refine ⟨⟨L, w3.heap.size, rv, pv, lv3, prv, sv, rfl, rfl, hb6, hq6, fun g hg => ?_, HPE.out, hll3, fun x hx => HLB.out x (List.mem_cons_of_mem _ hx), hz3, ?_⟩, ?_⟩
          · have := own_lt HQ3.out.lev.1 g hg; omega
          · exact (HC3.out.trans (Chg.of_below HB5.out)).grow hch6 (fun x hx => .inr (by omega))
          · rw [HLe.out, hq6.lev.lenAt (hq6.blk.cell 9)]
            exact Nat.lt_succ_self _
        | false =>
          rw [hbk] at c3 hm
          have hm2 : ¬ l.2.2 + 1 < l.2.1 := of_decide_eq_false (by simpa using hm)
          clear hm
          go_wp2_with (fail)
          with_reducible refine (popW_any F b _ rv pv lv prv sv l L _ HQ.out rfl hll3).mono ?_
          rintro e w3 ⟨rfl, lv3, hq3, ho3, hc3⟩
          have HQ3 := Lib.hid hq3
          clear hq3
          have hz3 : Blk w3 z 184 (topV (l :: L)) := hc3.blk HZ.out (fun e => by
            rcases e with e | e
            · exact HZ.out.ne_ HQ.out.blk (by decide) e
            · exact HNE.out _ e rfl)
          have hC3 := HCH.out.trans (hc3.mono (fun y hy => by
            rcases hy with rfl | e
            · exact HQ.out.fb
            · exact HQ.out.lev.2 _ e))
          have y0 : w3.cell? ⟨z, 0, none⟩ = some (.int .i64 l.1) := hz3.cell 0
          have y1 : w3.cell? ⟨z, 1, none⟩ = some (.int .i64 l.2.1) := hz3.cell 1
          have y2 : w3.cell? ⟨z, 2, none⟩ = some (.int .i64 l.2.2) := hz3.cell 2
          have hzl := hz3.lt
          have HC3 := Lib.hid hC3
          have HO3 := Lib.hid ho3
          clear hC3 ho3
          clear z0 z1 z2 c3 c9 hz3 hc3
          go_wp2_with (fail)
          have hn4 := Blk.new w3 184 #[.int .i64 l.1, .int .i64 l.2.1, .int .i64 l.2.2]
          have hb4 := (Below.refl w3.heap.size w3).alloc (Nat.le_refl _) (.cells #[.int .i64 l.1, .int .i64 l.2.1, .int .i64 l.2.2] 184)
          have HQ4 := Lib.hid (HQ3.out.below hb4)
          have hs4 : (w3.alloc (.cells #[.int .i64 l.1, .int .i64 l.2.1, .int .i64 l.2.2] 184)).heap.size = w3.heap.size + 1 := by simp
          with_reducible refine (topL_any b 9 lv3 L _ F (HQ4.out.blk.cell 9) HQ4.out.lev hll3).mono ?_
          rintro e w5 ⟨rfl, hb5⟩
          have HQ5 := Lib.hid (HQ4.out.below hb5)
          have hn5 := hn4.below hb5 (by rw [hs4]; omega)
          have HB5 := Lib.hid (hb4.trans (hb5.mono (by rw [hs4]; omega)))
          have HN5 := Lib.hid hn5
          have v0 : w5.cell? ⟨w3.heap.size, 0, none⟩ = some (.int .i64 l.1) := hn5.cell 0
          have v1 : w5.cell? ⟨w3.heap.size, 1, none⟩ = some (.int .i64 l.2.1) := hn5.cell 1
          have v2 : w5.cell? ⟨w3.heap.size, 2, none⟩ = some (.int .i64 l.2.2) := hn5.cell 2
          have g0 := hn5.frozen 0
          have g1 := hn5.frozen 1
          have g2 := hn5.frozen 2
          clear hn4 hb4 HQ4 hb5 hn5 hs4 y0 y1 y2 hzl
          go_wp2_with (fail)
          have hz3 := HC3.out.size
          have hch6 : Chg (fun y => y = w3.heap.size) w5 (((w5.setCell ⟨w3.heap.size, 0, none⟩ (.int .i64 (headL L).1)).setCell ⟨w3.heap.size, 1, none⟩ (.int .i64 (headL L).2.1)).setCell ⟨w3.heap.size, 2, none⟩ (.int .i64 (headL L).2.2)) := Chg.of_mv (F := fun y => y = w3.heap.size) (((Mv.set1 w5 w3.heap.size 0 _).trans_ (Mv.set1 _ w3.heap.size 1 _)).trans_ (Mv.set1 _ w3.heap.size 2 _)) rfl
          have hq6 := ((HQ3.out.within.below HB5.out).chg hch6 (fun x hx e => by have := hx.2; omega)).mono (fun x hx => hx.1)
          have hb6 := ((HN5.out.set_ 0 (.int .i64 (headL L).1)).set_ 1 (.int .i64 (headL L).2.1)).set_ 2 (.int .i64 (headL L).2.2)
          refine ⟨⟨L, w3.heap.size, rv, pv, lv3, prv, sv, rfl, rfl, hb6, hq6, fun g hg => ?_, HPE.out, hll3, fun x hx => HLB.out x (List.mem_cons_of_mem _ hx), hz3, ?_⟩, ?_⟩
          · have := own_lt HQ3.out.lev.1 g hg; omega
          · exact (HC3.out.trans (Chg.of_below HB5.out)).grow hch6 (fun x hx => .inr (by omega))
          · rw [HLe.out, hq6.lev.lenAt (hq6.blk.cell 9)]
            exact Nat.lt_succ_self _
/- The frame of walk: ahead, meet, found. -/

theorem WPost.pre {F : Nat → Prop} {b : Nat} {s' : WS} {w w1 : World} (hc : Chg (fun x => F x) w w1) {e : Ending} {w' : World} (h : WPost F b s' w1 e w') : WPost F b s' w e w' :=
  ⟨h.1, h.2.1.mono (fun x hx => hx.imp id (fun y => Nat.le_trans hc.size y)), hc.trans h.2.2⟩
theorem WPost.grown {F : Nat → Prop} {b : Nat} {s' : WS} {w w1 : World} {e : Ending} {w' : World} (h : WPost (fun x => F x ∨ w.heap.size ≤ x) b s' w1 e w') (hc : Chg (fun x => F x) w w1) : WPost F b s' w e w' :=
  ⟨h.1, h.2.1.mono (fun x hx => hx.elim id (fun y => .inr (Nat.le_trans hc.size y))), hc.grow h.2.2 (fun x hx => hx)⟩
theorem WalkP.fin {F : Nat → Prop} {b : Nat} {s : WS} {w : World} (h : WalkP F b s w) (n : Int) : WPost F b { s with next := n } w (.returned (.tuple #[])) (w.setCell ⟨b, 0, none⟩ (.int .i64 n)) := by
  obtain ⟨rv, pv, lv, prv, sv, h⟩ := h
  have o := Chg.of_mv (F := fun y => y = b) (Mv.set1 w b 0 (.int .i64 n)) rfl
  exact ⟨rfl, ⟨rv, pv, lv, prv, sv, (h.own o (s' := { s with next := n }) (h.blk.set_ 0 _) rfl rfl rfl rfl rfl).mono (fun _ => .inl)⟩, o.mono (fun x hx => hx ▸ h.fb)⟩
section
variable (F : Nat → Prop) (b : Nat) (s : WS) (w : World)
set_option maxHeartbeats 1000000 in
theorem aheadW_any (h : WalkP F b s w) (hl : s.levels ≠ []) (hll : s.levels.length ≤ 1000000) (hlv : ∀ l ∈ s.levels, levelB l) :
    Calls Tryz.prog 135 #[.pointer (some ⟨b, 0, none⟩)] w fun e w' => e = .returned (.int .i64 s.ahead) ∧ Below w.heap.size w w' := by
  obtain ⟨rv, pv, lv, prv, sv, h⟩ := h
  obtain ⟨x, L, hL⟩ := List.exists_cons_of_ne_nil hl
  have hS : s.ahead = if s.back = true then keyAtI x.1 x.2.2 else keyAtI x.1 (x.2.2 + 1) := by unfold WS.ahead WS.top; rw [hL]; rfl
  have hlev := h.lev
  rw [hL] at hlev hll hlv
  obtain ⟨l0, l1, l2⟩ := hlv x (by simp)
  have c9 : w.cell? ⟨b, 9, none⟩ = some lv := h.blk.cell 9
  have H := Lib.hid h
  have HS := Lib.hid hS
  have HL := Lib.hid hlev
  have C9 := Lib.hid c9
  clear h hS hlev c9
  have go : ∀ w1, Below w.heap.size w w1 → Hid (Below w.heap.size w (w1.alloc (.cells #[.int .i64 x.1, .int .i64 x.2.1, .int .i64 x.2.2] 184)) ∧ Blk (w1.alloc (.cells #[.int .i64 x.1, .int .i64 x.2.1, .int .i64 x.2.2] 184)) w1.heap.size 184 #[.int .i64 x.1, .int .i64 x.2.1, .int .i64 x.2.2] ∧ (w1.alloc (.cells #[.int .i64 x.1, .int .i64 x.2.1, .int .i64 x.2.2] 184)).cell? ⟨b, 3, none⟩ = some (.bool s.back)) := fun w1 hb1 => by
    have hb2 := hb1.alloc hb1.size (.cells #[.int .i64 x.1, .int .i64 x.2.1, .int .i64 x.2.2] 184)
    exact Lib.hid ⟨hb2, Blk.new w1 184 _, (H.out.blk.below hb2 H.out.blk.lt).cell 3⟩
  have GO := Lib.hid go
  clear hl hL hlv go
  cases hbk : s.back with
  | true =>
    rw [hbk] at GO HS
    go_enter Tryz.func135, Tryz.ntmps135
    go_wp2_with (fail)
    with_reducible refine (topL_cons b 9 lv x L _ F C9.out HL.out (by simp at hll; omega)).mono ?_
    rintro e w1 ⟨rfl, hb1⟩
    obtain ⟨hb2, hx, c3⟩ := (GO.out w1 hb1).out
    have x0 := hx.cell 0
    have x2 := hx.cell 2
    simp only [List.getElem?_toArray, List.getElem?_cons_zero, List.getElem?_cons_succ] at x0 x2
    have HB2 := Lib.hid hb2
    clear hb2
    clear hx hb1
    go_wp2_with (fail)
    with_reducible refine (keyat_any _ _ _).mono ?_
    rintro e w3 ⟨rfl, hb3⟩
    have HB3 := Lib.hid (HB2.out.trans (hb3.mono HB2.out.size))
    clear hb3
    go_wp2_with (fail)
    go_ret
    rw [HS.out]
    exact ⟨rfl, HB3.out⟩
  | false =>
    rw [hbk] at GO HS
    go_enter Tryz.func135, Tryz.ntmps135
    go_wp2_with (fail)
    with_reducible refine (topL_cons b 9 lv x L _ F C9.out HL.out (by simp at hll; omega)).mono ?_
    rintro e w1 ⟨rfl, hb1⟩
    obtain ⟨hb2, hx, c3⟩ := (GO.out w1 hb1).out
    have x0 := hx.cell 0
    have x2 := hx.cell 2
    simp only [List.getElem?_toArray, List.getElem?_cons_zero, List.getElem?_cons_succ] at x0 x2
    have HB2 := Lib.hid hb2
    clear hb2
    clear hx hb1
    go_wp2_with (fail)
    with_reducible refine (keyat_any _ _ _).mono ?_
    rintro e w3 ⟨rfl, hb3⟩
    have HB3 := Lib.hid (HB2.out.trans (hb3.mono HB2.out.size))
    clear hb3
    go_wp2_with (fail)
    go_ret
    rw [HS.out]
    exact ⟨rfl, HB3.out⟩
set_option maxHeartbeats 1000000 in
theorem meetW_any (x : Int) (h : WalkP F b s w) (hll : s.levels.length ≤ 1000000) (hlv : ∀ l ∈ s.levels, levelB l) (x0 : -9223372036854775808 ≤ x) (x1 : x ≤ 9223372036854775807) :
    Calls Tryz.prog 131 #[.pointer (some ⟨b, 0, none⟩), .int .i64 x] w (WPost F b (s.meet x) w) := by
  obtain ⟨rv, pv, lv, prv, sv, h⟩ := h
  have c0 : w.cell? ⟨b, 0, none⟩ = some (.int .i64 s.next) := h.blk.cell 0
  have c10 : w.cell? ⟨b, 10, none⟩ = some (.int .i64 s.at_) := h.blk.cell 10
  have f0 := h.blk.frozen 0
  have f10 := h.blk.frozen 10
  have o := Chg.of_mv (F := fun y => y = b) (Mv.set1 w b 10 (.int .i64 (wAt x))) rfl
  have H5 : Hid (WalkP F b { s with at_ := wAt x } (w.setCell ⟨b, 10, none⟩ (.int .i64 (wAt x)))) := Lib.hid ⟨rv, pv, lv, prv, sv, h.own o (s' := { s with at_ := wAt x }) (h.blk.set_ 10 _) rfl rfl rfl rfl rfl⟩
  have O5 := Lib.hid (o.mono (fun x hx => hx ▸ h.fb) : Chg (fun x => F x) w _)
  clear o h
  by_cases k2 : wKind x = 2
  · have HM := Lib.hid (show s.meet x = { s with at_ := wAt x, next := 2 } from if_pos k2)
    have e2 : (wKind x == 2) = true := by simpa using k2
    clear k2
    go_enter Tryz.func131, Tryz.ntmps131
    go_wp2_with (fail)
    with_reducible refine (refAt_any x _ x0 x1).mono ?_
    rintro e w1 ⟨rfl, rfl⟩
    go_wp2_with (fail)
    with_reducible refine (kind_any x _ x0 x1).mono ?_
    rintro e w1 ⟨rfl, rfl⟩
    go_wp2_with (fail)
    go_end0
    rw [HM.out]
    exact (H5.out.fin 2).pre O5.out
  · have e2 : (wKind x == 2) = false := by simpa using k2
    by_cases k3 : wKind x = 3
    · have HM := Lib.hid (show s.meet x = WS.enter { s with at_ := wAt x } (wAt x) by unfold WS.meet; rw [if_neg k2, if_pos k3])
      have e3 : (wKind x == 3) = true := by simpa using k3
      clear k2 k3
      go_enter Tryz.func131, Tryz.ntmps131
      go_wp2_with (fail)
      with_reducible refine (refAt_any x _ x0 x1).mono ?_
      rintro e w1 ⟨rfl, rfl⟩
      go_wp2_with (fail)
      with_reducible refine (kind_any x _ x0 x1).mono ?_
      rintro e w1 ⟨rfl, rfl⟩
      go_wp2_with (fail)
      with_reducible refine (enterW_any F b _ (wAt x) _ H5.out).mono ?_
      rintro e w2 hp
      have HP := Lib.hid hp
      obtain ⟨rfl, _, _⟩ := hp
      go_wp2_with (fail)
      go_end0
      rw [HM.out]
      exact HP.out.pre O5.out
    · have e3 : (wKind x == 3) = false := by simpa using k3
      by_cases k4 : wKind x = 4
      · have HM := Lib.hid (show s.meet x = { s with at_ := wAt x, next := 4 } by unfold WS.meet; rw [if_neg k2, if_neg k3, if_pos k4])
        have e4 : (wKind x == 4) = true := by simpa using k4
        clear k2 k3 k4
        go_enter Tryz.func131, Tryz.ntmps131
        go_wp2_with (fail)
        with_reducible refine (refAt_any x _ x0 x1).mono ?_
        rintro e w1 ⟨rfl, rfl⟩
        go_wp2_with (fail)
        with_reducible refine (kind_any x _ x0 x1).mono ?_
        rintro e w1 ⟨rfl, rfl⟩
        go_wp2_with (fail)
        go_end0
        rw [HM.out]
        exact (H5.out.fin 4).pre O5.out
      · have HM := Lib.hid (show s.meet x = WS.onward { s with at_ := wAt x } by unfold WS.meet; rw [if_neg k2, if_neg k3, if_neg k4])
        have e4 : (wKind x == 4) = false := by simpa using k4
        clear k2 k3 k4
        go_enter Tryz.func131, Tryz.ntmps131
        go_wp2_with (fail)
        with_reducible refine (refAt_any x _ x0 x1).mono ?_
        rintro e w1 ⟨rfl, rfl⟩
        go_wp2_with (fail)
        with_reducible refine (kind_any x _ x0 x1).mono ?_
        rintro e w1 ⟨rfl, rfl⟩
        go_wp2_with (fail)
        with_reducible refine (onwardW_any F b _ _ H5.out hll hlv).mono ?_
        rintro e w2 hp
        have HP := Lib.hid hp
        obtain ⟨rfl, _, _⟩ := hp
        go_wp2_with (fail)
        go_end0
        rw [HM.out]
        exact HP.out.pre O5.out
theorem cellsP_snoc (L : List (Int × Int)) (x : Int × Int) : cellsP (L ++ [x]) = cellsP L ++ [.int .i64 x.1, .int .i64 x.2] := by simp [cellsP]
def AppP (F : Nat → Prop) (b : Nat) (s : WS) (v : Int) (rv pv lv sv : Value) (w : World) (gg cap : Nat) (w5 : World) : Prop :=
  WalkQ (fun x => F x ∨ w.heap.size ≤ x) b { s with pairs := s.pairs ++ [(s.key, v)] } rv pv lv (.slice (some ⟨gg, 0, none⟩) (s.pairs.length + 1) cap) sv (w5.setCell ⟨b, 12, none⟩ (.slice (some ⟨gg, 0, none⟩) (s.pairs.length + 1) cap)) ∧ Chg (fun x => F x) w (w5.setCell ⟨b, 12, none⟩ (.slice (some ⟨gg, 0, none⟩) (s.pairs.length + 1) cap))
theorem WalkQ.appp {F : Nat → Prop} {b : Nat} {s : WS} {v : Int} {rv pv lv prv sv : Value} {w wd : World} (h : WalkQ F b s rv pv lv prv sv w) (hb : Below w.heap.size w wd) {gg cap : Nat} {w5 : World} (hO : w5.ownsRow 0 52 2 (.slice (some ⟨gg, 0, none⟩) (s.pairs.length + 1) cap) (s.pairs.length + 1) (cellsP s.pairs ++ [.int .i64 s.key, .int .i64 v])) (hg : wd.grownBy w5 prv.ownBlock) (hat : prv.ownBlock = some gg ∨ w.heap.size ≤ gg) :
    Hid (w5.cell? ⟨b, 12, none⟩ = some prv ∧ w5.frozen? ⟨b, 12, none⟩ = false ∧ AppP F b s v rv pv lv sv w gg cap w5) := by
  have hc := (Chg.of_below (F := fun y => prv.ownBlock = some y) hb).trans (Chg.of_grown hg)
  have hbl := hc.blk h.blk (fun e => own_blk_ne h.prs.1 h.blk (by decide) e)
  have hc6 : Chg (fun y => y = b ∨ prv.ownBlock = some y) w (w5.setCell ⟨b, 12, none⟩ (.slice (some ⟨gg, 0, none⟩) (s.pairs.length + 1) cap)) := (hc.mono (fun _ => .inr)).trans ((Chg.of_mv (F := fun y => y = b) (Mv.set1 w5 b 12 _) rfl).mono (fun _ => .inl))
  have k : ∀ T : TypeId, 181 ≠ T → 52 ≠ T → ∀ x, (x = b ∨ prv.ownBlock = some x) → ∃ t cs, Blk w x t cs ∧ t ≠ T := fun T h1 h2 x hx => by
    rcases hx with rfl | hx
    · exact ⟨_, _, h.blk, h1⟩
    · obtain ⟨cs, hb⟩ := own_blk h.prs.1 hx
      exact ⟨_, cs, hb, h2⟩
  have hn : PrP (fun x => F x ∨ w.heap.size ≤ x) 52 (.slice (some ⟨gg, 0, none⟩) (s.pairs.length + 1) cap) (s.pairs ++ [(s.key, v)]) (w5.setCell ⟨b, 12, none⟩ (.slice (some ⟨gg, 0, none⟩) (s.pairs.length + 1) cap)) := by
    refine ⟨?_, fun g hg => ?_⟩
    · rw [cellsP_snoc, List.length_append]
      exact ownsRow_setCell_other hO (a := ⟨b, 12, none⟩) (fun e => own_blk_ne hO hbl (by decide) (by simpa using e)) _
    · have hgg : gg = g := by simpa [Value.ownBlock] using hg
      subst hgg
      rcases hat with e | e
      · exact .inl (h.prs.2 gg e)
      · exact .inr e
  have k' := fun T h1 h2 => k T h1 h2
  refine Lib.hid ⟨hbl.cell 12, hbl.frozen 12, ⟨.inl h.fb, hbl.set_ 12 _, (h.route.keep hc6 (k _ (by decide) (by decide))).mono (fun _ => .inl), (h.peek.keep hc6 (k _ (by decide) (by decide))).mono (fun _ => .inl), (h.lev.keep hc6 (k _ (by decide) (by decide))).mono (fun _ => .inl), hn, (h.sps.keep hc6 (k _ (by decide) (by decide))).mono (fun _ => .inl)⟩, hc6.mono (fun x hx => ?_)⟩
  rcases hx with rfl | e
  · exact h.fb
  · exact h.prs.2 x e
def AppS (F : Nat → Prop) (b : Nat) (s : WS) (x : Int) (rv pv lv prv : Value) (w : World) (gg cap : Nat) (w5 : World) : Prop :=
  WalkQ (fun x => F x ∨ w.heap.size ≤ x) b { s with spots := s.spots ++ [(s.slot, x)] } rv pv lv prv (.slice (some ⟨gg, 0, none⟩) (s.spots.length + 1) cap) (w5.setCell ⟨b, 13, none⟩ (.slice (some ⟨gg, 0, none⟩) (s.spots.length + 1) cap)) ∧ Chg (fun x => F x) w (w5.setCell ⟨b, 13, none⟩ (.slice (some ⟨gg, 0, none⟩) (s.spots.length + 1) cap))
theorem WalkQ.apps {F : Nat → Prop} {b : Nat} {s : WS} {x : Int} {rv pv lv prv sv : Value} {w wd : World} (h : WalkQ F b s rv pv lv prv sv w) (hb : Below w.heap.size w wd) {gg cap : Nat} {w5 : World} (hO : w5.ownsRow 0 114 2 (.slice (some ⟨gg, 0, none⟩) (s.spots.length + 1) cap) (s.spots.length + 1) (cellsP s.spots ++ [.int .i64 s.slot, .int .i64 x])) (hg : wd.grownBy w5 sv.ownBlock) (hat : sv.ownBlock = some gg ∨ w.heap.size ≤ gg) :
    Hid (w5.cell? ⟨b, 13, none⟩ = some sv ∧ w5.frozen? ⟨b, 13, none⟩ = false ∧ AppS F b s x rv pv lv prv w gg cap w5) := by
  have hc := (Chg.of_below (F := fun y => sv.ownBlock = some y) hb).trans (Chg.of_grown hg)
  have hbl := hc.blk h.blk (fun e => own_blk_ne h.sps.1 h.blk (by decide) e)
  have hc6 : Chg (fun y => y = b ∨ sv.ownBlock = some y) w (w5.setCell ⟨b, 13, none⟩ (.slice (some ⟨gg, 0, none⟩) (s.spots.length + 1) cap)) := (hc.mono (fun _ => .inr)).trans ((Chg.of_mv (F := fun y => y = b) (Mv.set1 w5 b 13 _) rfl).mono (fun _ => .inl))
  have k : ∀ T : TypeId, 181 ≠ T → 114 ≠ T → ∀ x, (x = b ∨ sv.ownBlock = some x) → ∃ t cs, Blk w x t cs ∧ t ≠ T := fun T h1 h2 x hx => by
    rcases hx with rfl | hx
    · exact ⟨_, _, h.blk, h1⟩
    · obtain ⟨cs, hb⟩ := own_blk h.sps.1 hx
      exact ⟨_, cs, hb, h2⟩
  have hn : PrP (fun x => F x ∨ w.heap.size ≤ x) 114 (.slice (some ⟨gg, 0, none⟩) (s.spots.length + 1) cap) (s.spots ++ [(s.slot, x)]) (w5.setCell ⟨b, 13, none⟩ (.slice (some ⟨gg, 0, none⟩) (s.spots.length + 1) cap)) := by
    refine ⟨?_, fun g hg => ?_⟩
    · rw [cellsP_snoc, List.length_append]
      exact ownsRow_setCell_other hO (a := ⟨b, 13, none⟩) (fun e => own_blk_ne hO hbl (by decide) (by simpa using e)) _
    · have hgg : gg = g := by simpa [Value.ownBlock] using hg
      subst hgg
      rcases hat with e | e
      · exact .inl (h.sps.2 gg e)
      · exact .inr e
  have k' := fun T h1 h2 => k T h1 h2
  refine Lib.hid ⟨hbl.cell 13, hbl.frozen 13, ⟨.inl h.fb, hbl.set_ 13 _, (h.route.keep hc6 (k _ (by decide) (by decide))).mono (fun _ => .inl), (h.peek.keep hc6 (k _ (by decide) (by decide))).mono (fun _ => .inl), (h.lev.keep hc6 (k _ (by decide) (by decide))).mono (fun _ => .inl), (h.prs.keep hc6 (k _ (by decide) (by decide))).mono (fun _ => .inl), hn⟩, hc6.mono (fun x hx => ?_)⟩
  rcases hx with rfl | e
  · exact h.fb
  · exact h.sps.2 x e
def WS.full' (s : WS) (n : Nat) : Bool := decide (0 < s.most) && decide (s.most ≤ (n : Int))
theorem WS.found_split (s : WS) (v : Int) : (s.full' (s.pairs.length + 1) = true → s.found v = { s with pairs := s.pairs ++ [(s.key, v)], next := 6 }) ∧ (s.full' (s.pairs.length + 1) = false → s.found v = WS.onward { s with pairs := s.pairs ++ [(s.key, v)] }) := by
  have e : WS.full { s with pairs := s.pairs ++ [(s.key, v)] } = s.full' (s.pairs.length + 1) := by
    unfold WS.full WS.full'; simp only [List.length_append, List.length_cons, List.length_nil]
  unfold WS.found
  rw [e]
  exact ⟨fun h => if_pos h, fun h => if_neg (by rw [h]; exact Bool.false_ne_true)⟩
set_option maxRecDepth 100000 in
set_option maxHeartbeats 2000000 in
theorem foundW_any (v : Int) (h : WalkP F b s w) (hll : s.levels.length ≤ 1000000) (hlv : ∀ l ∈ s.levels, levelB l) (hpl : s.pairs.length ≤ 1000000) (hm0 : -9223372036854775808 ≤ s.most) (hm1 : s.most ≤ 9223372036854775807) :
    Calls Tryz.prog 133 #[.pointer (some ⟨b, 0, none⟩), .int .i64 v] w (WPost F b (s.found v) w) := by
  obtain ⟨i0, hi0, hz0, hz1, hz2⟩ := info_parts info_pair
  obtain ⟨rv, pv, lv, prv, sv, h⟩ := h
  have c11 : w.cell? ⟨b, 11, none⟩ = some (.int .i64 s.key) := h.blk.cell 11
  have c12 : w.cell? ⟨b, 12, none⟩ = some prv := h.blk.cell 12
  obtain ⟨A, c, rfl⟩ := own_shape h.prs.1
  have n1 := World.new_ne w ⟨b, 12, none⟩ c12
  have hbl := h.blk.lt
  have HAl := Lib.hid ((Below.refl w.heap.size w).alloc (Nat.le_refl _) (.cells #[.int .i64 s.key, .int .i64 v] 52))
  have HAd : Hid (Below w.heap.size w (w.alloc (.cells #[.int .i64 s.key, .int .i64 v] 52)).drew) := Lib.hid (HAl.out.trans (drawn_bl (Drawn.of _ 1) _))
  have HLd : Hid ((w.alloc (.cells #[.int .i64 s.key, .int .i64 v] 52)).drew.ownsRow 0 52 2 (.slice A s.pairs.length c) s.pairs.length (cellsP s.pairs)) := Lib.hid (own_below h.prs.1 HAd.out)
  have HRd : Hid (∀ (j : Nat) (u : Value), ([.int .i64 s.key, .int .i64 v] : List Value)[j]? = some u → (w.alloc (.cells #[.int .i64 s.key, .int .i64 v] 52)).drew.cell? ((⟨w.heap.size, 0, none⟩ : Addr).add j) = some u) := Lib.hid (fun j u hu => by
    have e : (⟨w.heap.size, 0, none⟩ : Addr).add j = ⟨w.heap.size, j, none⟩ := by unfold Addr.add; split <;> simp_all
    rw [e]
    have := (Blk.new w 52 #[.int .i64 s.key, .int .i64 v]).cell j
    exact this.trans (by simpa using hu))
  have H := Lib.hid h
  have hsl : s.pairs = s.pairs := rfl
  clear h hsl
  go_enter Tryz.func133, Tryz.ntmps133
  go_wp2_with (fail)
  go_region_law (first | (refine step_append_lies _ (by rfl) _ _ _ (by rfl) 0 52 i0 _ 2 16 Tryz.underlying40 hi0 hz0 hz1 hz2 rfl (by omega) (.slice A s.pairs.length c) s.pairs.length (cellsP s.pairs) (by rfl) HLd.out ⟨w.heap.size, 0, none⟩ 1 1 [.int .i64 s.key, .int .i64 v] (by rfl) (by rfl) HRd.out (by simp [Value.oneCell']) (by omega) (by unfold maxLen; omega) (by omega) (by omega) (w.heap.size + 1) (by simp) ?_; intro gg cap w5 hO5 hg5 hat hlt5; have K5 := H.out.appp HAd.out hO5 hg5 (hat.imp id (fun e => by omega)); have c5 := K5.out.1; have f5 := K5.out.2.1; clear hO5 hg5 hat hlt5))
  all_goals
    have hP := K5.out.2.2
    clear K5 c5 f5 HAl HAd HLd HRd n1 c11 c12 H
    revert hP
    unfold AppP
    generalize w5.setCell ⟨b, 12, none⟩ (.slice (some ⟨gg, 0, none⟩) (s.pairs.length + 1) cap) = w6
    rintro ⟨hq, hc⟩
    have d12 : w6.cell? ⟨b, 12, none⟩ = some (.slice (some ⟨gg, 0, none⟩) (s.pairs.length + 1) cap) := hq.blk.cell 12
    have d5 : w6.cell? ⟨b, 5, none⟩ = some (.int .i64 s.most) := hq.blk.cell 5
    have d0 : w6.cell? ⟨b, 0, none⟩ = some (.int .i64 s.next) := hq.blk.cell 0
    have g0 := hq.blk.frozen 0
    have HP : Hid (∀ k, WalkP (fun x => F x ∨ w.heap.size ≤ x) b { s with pairs := s.pairs ++ [(s.key, v)] } (w6.drewN k)) := Lib.hid (fun k => ⟨_, _, _, _, _, hq.below (drawn_bl ⟨k, rfl⟩ _)⟩)
    have HC : Hid (∀ k, Chg (fun x => F x) w (w6.drewN k)) := Lib.hid (fun k => hc.trans (Chg.of_below (drawn_bl ⟨k, rfl⟩ _)))
    have HF := Lib.hid (WS.found_split s v)
    clear hq hc
    by_cases hm : 0 < s.most
    · by_cases hk : s.most ≤ (s.pairs.length : Int) + 1
      · have HS := Lib.hid (HF.out.1 (by unfold WS.full'; simp [hm, hk]))
        go_wp2_with (fail)
        go_quiet (fail)
        go_wp2_with (fail)
        refine bodyPost_ret (results_none rfl _ _ _) rfl ?_
        rw [HS.out]
        exact ((HP.out _).fin 6).grown (HC.out _)
      · have HS := Lib.hid (HF.out.2 (by unfold WS.full'; simp [hm, hk]))
        go_wp2_with (fail)
        go_quiet (fail)
        go_wp2_with (fail)
        with_reducible refine (onwardW_any _ b _ _ (HP.out _) hll hlv).mono ?_
        rintro e w8 hp
        have HW := Lib.hid (hp.grown (HC.out _))
        obtain ⟨rfl, _, _⟩ := hp
        go_wp2_with (fail)
        go_end0
        rw [HS.out]
        exact HW.out
    · have HS := Lib.hid (HF.out.2 (by unfold WS.full'; simp [hm]))
      have hm3 : decide (0 < s.most) = false := decide_eq_false hm
      clear hm
      go_wp2_with (fail)
      go_quiet (fail)
      go_wp2_with (fail)
      with_reducible refine (onwardW_any _ b _ _ (HP.out _) hll hlv).mono ?_
      rintro e w8 hp
      have HW := Lib.hid (hp.grown (HC.out _))
      obtain ⟨rfl, _, _⟩ := hp
      go_wp2_with (fail)
      go_end0
      rw [HS.out]
      exact HW.out
end
/- The frame of walk: bound. -/

theorem WPost.mono {F G : Nat → Prop} {b : Nat} {s' : WS} {w : World} {e : Ending} {w' : World} (h : WPost F b s' w e w') (hs : ∀ x, F x → G x) : WPost G b s' w e w' := ⟨h.1, h.2.1.mono (fun x hx => hx.imp (hs x) id), h.2.2.mono hs⟩
section
variable (F : Nat → Prop) (b : Nat) (s : WS)
theorem pushW_any (n d i : Int) (w : World) (h : WalkP F b s w) (hl : s.levels.length ≤ 1000000) :
    Calls Tryz.prog 128 #[.pointer (some ⟨b, 9, none⟩), .agg #[.int .i64 n, .int .i64 d, .int .i64 i]] w (WPost F b { s with levels := (n, d, i) :: s.levels } w) := by
  obtain ⟨rv, pv, lv, prv, sv, h⟩ := h
  refine (pushL_any F b 9 181 _ lv n d i s.levels w h.blk (by decide) rfl h.lev hl).mono ?_
  rintro e w' ⟨he, lv', hb, hlv, hc⟩
  refine ⟨he, ⟨rv, pv, lv', prv, sv, (h.mono (fun x hx => Or.inl hx)).turned hb hlv hc⟩, hc.mono (fun x hx => ?_)⟩
  rcases hx with rfl | e
  · exact h.fb
  · exact h.lev.2 x e
set_option maxRecDepth 100000 in
set_option maxHeartbeats 2000000 in
theorem boundW_in (w : World) (q : Int) (h : WalkP F b s w) (hF : ∀ x, F x → x < w.heap.size) (l : Int × Int × Int) (L : List (Int × Int × Int)) (hs : s.levels = l :: L) (hll : L.length < 1000000) (hlv : ∀ l ∈ s.levels, levelB l) (hm : more s.back l = true) :
    Calls Tryz.prog 134 #[.pointer (some ⟨b, 0, none⟩), .int .i64 q] w (WPost F b (s.bound q) w) := by
  obtain ⟨rv, pv, lv, prv, sv, h⟩ := h
  obtain ⟨l0, l1, l2⟩ := hlv l (by rw [hs]; simp)
  have hlL : ∀ x ∈ L, levelB x := fun x hx => hlv x (by rw [hs]; exact List.mem_cons_of_mem _ hx)
  have hbd : s.bound q = if s.back = true then (if s.lo < q then WS.look { s with levels := (l.1, l.2.1, l.2.2 - 1) :: L } else WS.onward { s with levels := L }) else (if q ≤ s.hi then WS.look { s with levels := (l.1, l.2.1, l.2.2 + 1) :: L } else WS.onward { s with levels := L }) := by unfold WS.bound WS.top; rw [hs]; rfl
  have H := Lib.hid h
  have HS := Lib.hid hs
  have HLL := Lib.hid hlL
  have HBD := Lib.hid hbd
  have HF := Lib.hid hF
  clear h hs hlL hbd hF
  clear hlv
  go_enter Tryz.func134, Tryz.ntmps134
  go_wp2_with (fail)
  with_reducible refine (popW_any F b _ rv pv lv prv sv l L _ H.out HS.out (by omega)).mono ?_
  rintro e w1 ⟨rfl, lv', hq, ho, hc⟩
  have hC1 := hc.mono (G := fun x => F x) (fun x hx => by
    rcases hx with rfl | e
    · exact H.out.fb
    · exact H.out.lev.2 x e)
  have GO : Hid (∀ i : Int, Blk (w1.alloc (.cells #[.int .i64 l.1, .int .i64 l.2.1, .int .i64 i] 184)) w1.heap.size 184 #[.int .i64 l.1, .int .i64 l.2.1, .int .i64 i] ∧ WalkQ F b { s with levels := L } rv pv lv' prv sv (w1.alloc (.cells #[.int .i64 l.1, .int .i64 l.2.1, .int .i64 i] 184))) := Lib.hid (fun i => ⟨Blk.new w1 184 _, hq.below ((Below.refl w1.heap.size w1).alloc (Nat.le_refl _) _)⟩)
  have HC2 : Hid (∀ i : Int, Chg (fun x => F x) w (w1.alloc (.cells #[.int .i64 l.1, .int .i64 l.2.1, .int .i64 i] 184))) := Lib.hid (fun i => hC1.trans (Chg.of_below ((Below.refl w1.heap.size w1).alloc (Nat.le_refl _) _)))
  have c1 : (w1.alloc (.cells #[.int .i64 l.1, .int .i64 l.2.1, .int .i64 l.2.2] 184)).cell? ⟨b, 1, none⟩ = some (.int .i64 s.lo) := (GO.out l.2.2).2.blk.cell 1
  have c2 : (w1.alloc (.cells #[.int .i64 l.1, .int .i64 l.2.1, .int .i64 l.2.2] 184)).cell? ⟨b, 2, none⟩ = some (.int .i64 s.hi) := (GO.out l.2.2).2.blk.cell 2
  have c3 : (w1.alloc (.cells #[.int .i64 l.1, .int .i64 l.2.1, .int .i64 l.2.2] 184)).cell? ⟨b, 3, none⟩ = some (.bool s.back) := (GO.out l.2.2).2.blk.cell 3
  have HFz : Hid (¬ F w1.heap.size) := Lib.hid (fun e => by have := HF.out _ e; have := hc.size; omega)
  clear hq hc ho hC1 H
  unfold more at hm
  cases hbk : s.back with
  | true =>
    rw [hbk] at c3 hm
    have hm2 : 0 < l.2.2 := of_decide_eq_true (by simpa using hm)
    clear hm
    by_cases hq1 : s.lo < q
    · have HS2 := Lib.hid (HBD.out.trans ((if_pos hbk).trans (if_pos hq1)))
      have HQz := Lib.hid ((GO.out (l.2.2 - 1)).2)
      have hxz := (GO.out (l.2.2 - 1)).1
      have HPd : Hid (WalkP (fun x => F x) b { s with levels := L } (w1.alloc (.cells #[.int .i64 l.1, .int .i64 l.2.1, .int .i64 (l.2.2 - 1)] 184)).drew) := Lib.hid ⟨_, _, _, _, _, HQz.out.below (drawn_bl (Drawn.of _ 1) _)⟩
      have HBd : Hid (Blk (w1.alloc (.cells #[.int .i64 l.1, .int .i64 l.2.1, .int .i64 (l.2.2 - 1)] 184)).drew w1.heap.size 184 #[.int .i64 l.1, .int .i64 l.2.1, .int .i64 (l.2.2 - 1)]) := Lib.hid (hxz.below (drawn_bl (Drawn.of _ 1) _) hxz.lt)
      have z0 : (w1.alloc (.cells #[.int .i64 l.1, .int .i64 l.2.1, .int .i64 (l.2.2 - 1)] 184)).cell? ⟨w1.heap.size, 0, none⟩ = some (.int .i64 l.1) := hxz.cell 0
      have z1 : (w1.alloc (.cells #[.int .i64 l.1, .int .i64 l.2.1, .int .i64 (l.2.2 - 1)] 184)).cell? ⟨w1.heap.size, 1, none⟩ = some (.int .i64 l.2.1) := hxz.cell 1
      have z2 : (w1.alloc (.cells #[.int .i64 l.1, .int .i64 l.2.1, .int .i64 (l.2.2 - 1)] 184)).cell? ⟨w1.heap.size, 2, none⟩ = some (.int .i64 (l.2.2 - 1)) := hxz.cell 2
      clear hxz
      go_wp2_with (fail)
      go_region_held3 (fun w' => w'.cell? ⟨w1.heap.size, 0, none⟩ = some (.int .i64 l.1) ∧ w'.cell? ⟨w1.heap.size, 1, none⟩ = some (.int .i64 l.2.1) ∧ w'.cell? ⟨w1.heap.size, 2, none⟩ = some (.int .i64 (l.2.2 - 1))) (first | go_keep | exact ⟨HB3.out.cell 0, HB3.out.cell 1, HB3.out.cell 2⟩) (first | (go_at_call 128; (with_reducible refine (pushW_any F b _ l.1 l.2.1 (l.2.2 - 1) _ HPd.out (by simp; omega)).mono ?_); rintro e w3 ⟨rfl, hp3, hc3⟩; have HB3 := Lib.hid (hc3.blk HBd.out HFz.out); have HP3 := Lib.hid hp3; have HC3 := Lib.hid hc3; clear hp3 hc3))
      have HC4 := Lib.hid ((HC2.out (l.2.2 - 1)).trans ((Chg.of_below (F := fun x => F x) (drawn_bl (Drawn.of _ 1) _)).trans HC3.out))
      go_wp2_with (fail)
      with_reducible refine (lookW_any _ b _ _ HP3.out (by simp) (by simp; omega)).mono ?_
      rintro e w4 hp
      have HC5 := Lib.hid (HC4.out.grow hp.2.2 (fun x hx => hx.imp id (fun y => by have := (HC2.out (l.2.2 - 1)).size; have hdz : (w1.alloc (.cells #[.int .i64 l.1, .int .i64 l.2.1, .int .i64 (l.2.2 - 1)] 184)).drew.heap.size = (w1.alloc (.cells #[.int .i64 l.1, .int .i64 l.2.1, .int .i64 (l.2.2 - 1)] 184)).heap.size := rfl; omega)))
      have HP4 := Lib.hid hp.2.1
      obtain ⟨rfl, _, _⟩ := hp
      go_wp2_with (fail)
      go_end0
      rw [HS2.out]
      refine ⟨rfl, HP4.out.mono (fun x hx => ?_), HC5.out⟩
      rcases hx with hx | hx
      · refine hx.imp id (fun y => ?_)
        have := (HC2.out (l.2.2 - 1)).size
        have hdz : (w1.alloc (.cells #[.int .i64 l.1, .int .i64 l.2.1, .int .i64 (l.2.2 - 1)] 184)).drew.heap.size = (w1.alloc (.cells #[.int .i64 l.1, .int .i64 l.2.1, .int .i64 (l.2.2 - 1)] 184)).heap.size := rfl
        omega
      · exact .inr (Nat.le_trans HC4.out.size hx)
    · have HS2 := Lib.hid (HBD.out.trans ((if_pos hbk).trans (if_neg hq1)))
      have HPz : Hid (WalkP (fun x => F x) b { s with levels := L } (w1.alloc (.cells #[.int .i64 l.1, .int .i64 l.2.1, .int .i64 l.2.2] 184))) := Lib.hid ⟨_, _, _, _, _, (GO.out l.2.2).2⟩
      go_wp2_with (fail)
      with_reducible refine (onwardW_any F b _ _ HPz.out (by simp; omega) HLL.out).mono ?_
      rintro e w4 hp
      have HW := Lib.hid (hp.pre (HC2.out l.2.2))
      obtain ⟨rfl, _, _⟩ := hp
      go_wp2_with (fail)
      refine bodyPost_ret (results_none rfl _ _ _) rfl ?_
      rw [HS2.out]
      exact HW.out
  | false =>
    rw [hbk] at c3 hm
    have hm2 : l.2.2 + 1 < l.2.1 := of_decide_eq_true (by simpa using hm)
    clear hm
    by_cases hq1 : q ≤ s.hi
    · have HS2 := Lib.hid (HBD.out.trans ((if_neg (by rw [hbk]; exact Bool.false_ne_true)).trans (if_pos hq1)))
      have HQz := Lib.hid ((GO.out (l.2.2 + 1)).2)
      have hxz := (GO.out (l.2.2 + 1)).1
      have HPd : Hid (WalkP (fun x => F x) b { s with levels := L } (w1.alloc (.cells #[.int .i64 l.1, .int .i64 l.2.1, .int .i64 (l.2.2 + 1)] 184)).drew) := Lib.hid ⟨_, _, _, _, _, HQz.out.below (drawn_bl (Drawn.of _ 1) _)⟩
      have HBd : Hid (Blk (w1.alloc (.cells #[.int .i64 l.1, .int .i64 l.2.1, .int .i64 (l.2.2 + 1)] 184)).drew w1.heap.size 184 #[.int .i64 l.1, .int .i64 l.2.1, .int .i64 (l.2.2 + 1)]) := Lib.hid (hxz.below (drawn_bl (Drawn.of _ 1) _) hxz.lt)
      have z0 : (w1.alloc (.cells #[.int .i64 l.1, .int .i64 l.2.1, .int .i64 (l.2.2 + 1)] 184)).cell? ⟨w1.heap.size, 0, none⟩ = some (.int .i64 l.1) := hxz.cell 0
      have z1 : (w1.alloc (.cells #[.int .i64 l.1, .int .i64 l.2.1, .int .i64 (l.2.2 + 1)] 184)).cell? ⟨w1.heap.size, 1, none⟩ = some (.int .i64 l.2.1) := hxz.cell 1
      have z2 : (w1.alloc (.cells #[.int .i64 l.1, .int .i64 l.2.1, .int .i64 (l.2.2 + 1)] 184)).cell? ⟨w1.heap.size, 2, none⟩ = some (.int .i64 (l.2.2 + 1)) := hxz.cell 2
      clear hxz
      go_wp2_with (fail)
      go_region_held3 (fun w' => w'.cell? ⟨w1.heap.size, 0, none⟩ = some (.int .i64 l.1) ∧ w'.cell? ⟨w1.heap.size, 1, none⟩ = some (.int .i64 l.2.1) ∧ w'.cell? ⟨w1.heap.size, 2, none⟩ = some (.int .i64 (l.2.2 + 1))) (first | go_keep | exact ⟨HB3.out.cell 0, HB3.out.cell 1, HB3.out.cell 2⟩) (first | (go_at_call 128; (with_reducible refine (pushW_any F b _ l.1 l.2.1 (l.2.2 + 1) _ HPd.out (by simp; omega)).mono ?_); rintro e w3 ⟨rfl, hp3, hc3⟩; have HB3 := Lib.hid (hc3.blk HBd.out HFz.out); have HP3 := Lib.hid hp3; have HC3 := Lib.hid hc3; clear hp3 hc3))
      have HC4 := Lib.hid ((HC2.out (l.2.2 + 1)).trans ((Chg.of_below (F := fun x => F x) (drawn_bl (Drawn.of _ 1) _)).trans HC3.out))
      go_wp2_with (fail)
      with_reducible refine (lookW_any _ b _ _ HP3.out (by simp) (by simp; omega)).mono ?_
      rintro e w4 hp
      have HC5 := Lib.hid (HC4.out.grow hp.2.2 (fun x hx => hx.imp id (fun y => by have := (HC2.out (l.2.2 + 1)).size; have hdz : (w1.alloc (.cells #[.int .i64 l.1, .int .i64 l.2.1, .int .i64 (l.2.2 + 1)] 184)).drew.heap.size = (w1.alloc (.cells #[.int .i64 l.1, .int .i64 l.2.1, .int .i64 (l.2.2 + 1)] 184)).heap.size := rfl; omega)))
      have HP4 := Lib.hid hp.2.1
      obtain ⟨rfl, _, _⟩ := hp
      go_wp2_with (fail)
      go_end0
      rw [HS2.out]
      refine ⟨rfl, HP4.out.mono (fun x hx => ?_), HC5.out⟩
      rcases hx with hx | hx
      · refine hx.imp id (fun y => ?_)
        have := (HC2.out (l.2.2 + 1)).size
        have hdz : (w1.alloc (.cells #[.int .i64 l.1, .int .i64 l.2.1, .int .i64 (l.2.2 + 1)] 184)).drew.heap.size = (w1.alloc (.cells #[.int .i64 l.1, .int .i64 l.2.1, .int .i64 (l.2.2 + 1)] 184)).heap.size := rfl
        omega
      · exact .inr (Nat.le_trans HC4.out.size hx)
    · have HS2 := Lib.hid (HBD.out.trans ((if_neg (by rw [hbk]; exact Bool.false_ne_true)).trans (if_neg hq1)))
      have HPz : Hid (WalkP (fun x => F x) b { s with levels := L } (w1.alloc (.cells #[.int .i64 l.1, .int .i64 l.2.1, .int .i64 l.2.2] 184))) := Lib.hid ⟨_, _, _, _, _, (GO.out l.2.2).2⟩
      go_wp2_with (fail)
      with_reducible refine (onwardW_any F b _ _ HPz.out (by simp; omega) HLL.out).mono ?_
      rintro e w4 hp
      have HW := Lib.hid (hp.pre (HC2.out l.2.2))
      obtain ⟨rfl, _, _⟩ := hp
      go_wp2_with (fail)
      refine bodyPost_ret (results_none rfl _ _ _) rfl ?_
      rw [HS2.out]
      exact HW.out
theorem boundW_any (w : World) (q : Int) (h : WalkP F b s w) (l : Int × Int × Int) (L : List (Int × Int × Int)) (hs : s.levels = l :: L) (hll : L.length < 1000000) (hlv : ∀ l ∈ s.levels, levelB l) (hm : more s.back l = true) :
    Calls Tryz.prog 134 #[.pointer (some ⟨b, 0, none⟩), .int .i64 q] w (WPost F b (s.bound q) w) :=
  (boundW_in _ b s w q h.within (fun x hx => hx.2) l L hs hll hlv hm).mono fun e w' h => h.mono (fun x hx => hx.1)
end
/- The frame of walk: Step, all but where it routes and peeks. -/

def WSPost (F : Nat → Prop) (b bm : Nat) (s : WS) (B : Nat) (v : Value) (C : List Int) (size count odd ref : Int) (w : World) (e : Ending) (w' : World) : Prop :=
  e = .returned (.bool ((s.step (rdC C)).next == 6)) ∧ WalkP (fun x => F x ∨ w.heap.size ≤ x) b (s.step (rdC C)) w' ∧ MemP B bm v C size (cntO s.acc count) (oddO C s.acc odd) ref w' ∧ Chg (fun x => F x ∨ x = bm) w w'
theorem keyAtI_bdW {n i : Int} : 0 ≤ keyAtI n i ∧ keyAtI n i ≤ 3298534883332 := by
  unfold keyAtI
  split
  · rename_i h
    have h1 := nearB_yes h.1; have h2 := nearB_yes h.2
    omega
  · omega
theorem WS.ahead_bd (s : WS) : -9223372036854775808 ≤ s.ahead ∧ s.ahead ≤ 9223372036854775807 := by
  unfold WS.ahead
  split
  · have := keyAtI_bdW (n := s.top.1) (i := s.top.2.2); omega
  · have := keyAtI_bdW (n := s.top.1) (i := s.top.2.2 + 1); omega
/-- A walk's blocks are none of the memory's. -/
def Off (F : Nat → Prop) (bm : Nat) (v : Value) : Prop := ¬ F bm ∧ ∀ g, v.ownBlock = some g → ¬ F g
section
variable {F : Nat → Prop} {b bm : Nat} {s : WS} {B : Nat} {v : Value} {C : List Int} {size count odd ref : Int} {rv pv lv prv sv : Value} {w w1 : World}
theorem WalkQ.mem (hm : MemP B bm v C size count odd ref w) (hq : WalkQ F b s rv pv lv prv sv w) (m : Mv bm none w w1) : WalkQ F b s rv pv lv prv sv w1 := by
  have k := Chg.of_mv (F := fun y => y = bm) m rfl
  obtain ⟨a1, a2, a3, a4, a5⟩ := hq.rest k (fun y hy => by subst hy; exact ⟨_, _, hm.blk, .inr rfl⟩)
  exact ⟨hq.fb, k.blk hq.blk (fun e => hq.blk.ne_ hm.blk (by decide) e), a1, a2, a3, a4, a5⟩
/-- A method's end, seen from the step's beginning. -/
theorem WPost.out {s' : WS} {e : Ending} {w' : World} (hm : MemP B bm v C size count odd ref w1) (o : Chg (fun x => F x ∨ x = bm) w w1) (hO : Off F bm v) (h : WPost F b s' w1 e w') : WalkP (fun x => F x ∨ w.heap.size ≤ x) b s' w' ∧ MemP B bm v C size count odd ref w' ∧ Chg (fun x => F x ∨ x = bm) w w' :=
  ⟨h.2.1.mono (fun x hx => hx.imp id (fun y => Nat.le_trans o.size y)), hm.chg h.2.2 hO.1 hO.2, o.trans (h.2.2.mono (fun _ => .inl))⟩
end
section
variable (F : Nat → Prop) (b bm : Nat) (s : WS) (B : Nat) (v : Value) (C : List Int) (size count odd ref : Int) (w : World)
set_option maxRecDepth 100000 in
set_option maxHeartbeats 1000000 in
theorem stepW6_any (h : WalkP F b s w) (hm : MemP B bm v C size count odd ref w) (hn : s.next = 6) : Calls Tryz.prog 61 #[.pointer (some ⟨b, 0, none⟩), .pointer (some ⟨bm, 0, none⟩)] w (WSPost F b bm s B v C size count odd ref w) := by
  have hs := Lib.hid (WS.step6 (R := rdC C) hn)
  have ha := Lib.hid (WS.acc6 hn)
  have HH := Lib.hid h
  obtain ⟨rv, pv, lv, prv, sv, h⟩ := h
  have c0 : w.cell? ⟨b, 0, none⟩ = some (.int .i64 6) := by rw [← hn]; exact h.blk.cell 0
  have HM := Lib.hid hm
  clear hm
  clear h hn
  go_enter Tryz.func61, Tryz.ntmps61
  go_wp2_with (fail)
  with_reducible refine (doneW_any _ _ _ _ HH.out).mono ?_
  rintro e w2 ⟨rfl, rfl⟩
  go_wp2_with (fail)
  go_ret
  unfold WSPost
  rw [hs.out, ha.out]
  exact ⟨rfl, HH.out.mono (fun _ => .inl), HM.out, Chg.refl _ _⟩
variable (h : WalkP F b s w) (hm : MemP B bm v C size count odd ref w) (hO : Off F bm v) (hI : s.Inv) (hC : C.length ≤ 1000000) (hw : ∀ i, i < C.length → -9223372036854775808 ≤ keyAt C i ∧ keyAt C i ≤ 9223372036854775807) (hll : s.levels.length < 1000000) (hpl : s.pairs.length ≤ 1000000)
include h hm hO hI hC hw hll hpl
omit hll hpl in
set_option maxRecDepth 100000 in
set_option maxHeartbeats 1000000 in
theorem stepW4_any (hn : s.next = 4) : Calls Tryz.prog 61 #[.pointer (some ⟨b, 0, none⟩), .pointer (some ⟨bm, 0, none⟩)] w (WSPost F b bm s B v C size count odd ref w) := by
  have hs := Lib.hid (WS.step4 (R := rdC C) hn)
  have ha := Lib.hid (WS.acc4 hn)
  obtain ⟨rv, pv, lv, prv, sv, h⟩ := h
  have c0 : w.cell? ⟨b, 0, none⟩ = some (.int .i64 4) := by rw [← hn]; exact h.blk.cell 0
  have c10 : w.cell? ⟨b, 10, none⟩ = some (.int .i64 s.at_) := h.blk.cell 10
  have a0 := hI.a0
  have a1 := hI.a1
  have HQ := Lib.hid (fun (w1 : World) (m : Mv bm none w w1) => h.mem hm m)
  have hR := rdC_bd hw
  have HM := Lib.hid hm
  have HO := Lib.hid hO
  clear hm hO
  clear hI hn h
  go_enter Tryz.func61, Tryz.ntmps61
  go_wp2_with (fail)
  with_reducible refine (read_any B bm v C size count odd ref s.at_ _ HM.out hC (by omega) (by omega)).mono ?_
  rintro e w2 ⟨rfl, hm2, m2⟩
  have H2 : Hid (WalkP F b s w2) := Lib.hid ⟨_, _, _, _, _, HQ.out w2 m2⟩
  have HM2 := Lib.hid hm2.read
  have O2 : Hid (Chg (fun x => F x ∨ x = bm) w w2) := Lib.hid (Chg.of_mv m2 (.inr rfl))
  clear hm2 m2 c0 c10 HM HQ
  have hr := hR s.at_
  obtain ⟨x, hx⟩ : ∃ x, rdC C s.at_ = x := ⟨_, rfl⟩
  rw [hx] at hr hs ⊢
  clear hx
  go_wp2_with (fail)
  with_reducible refine (refAt_any x _ hr.1 hr.2).mono ?_
  rintro e w3 ⟨rfl, rfl⟩
  go_wp2_with (fail)
  with_reducible refine (enterW_any F b s (wAt x) _ H2.out).mono ?_
  rintro e w3 hp
  have HX := Lib.hid (hp.out HM2.out O2.out HO.out)
  obtain ⟨rfl, _, _⟩ := hp
  go_wp2_with (fail)
  with_reducible refine (doneW_any _ _ _ _ HX.out.1).mono ?_
  rintro e w4 ⟨rfl, rfl⟩
  go_wp2_with (fail)
  go_ret
  unfold WSPost
  rw [hs.out, ha.out]
  exact ⟨rfl, HX.out⟩
omit hw in
set_option maxRecDepth 100000 in
set_option maxHeartbeats 1000000 in
theorem stepW3_any (hn : s.next = 3) : Calls Tryz.prog 61 #[.pointer (some ⟨b, 0, none⟩), .pointer (some ⟨bm, 0, none⟩)] w (WSPost F b bm s B v C size count odd ref w) := by
  have hs := Lib.hid (WS.step3 (R := rdC C) hn)
  have ha := Lib.hid (WS.acc3 hn)
  obtain ⟨rv, pv, lv, prv, sv, h⟩ := h
  have c0 : w.cell? ⟨b, 0, none⟩ = some (.int .i64 3) := by rw [← hn]; exact h.blk.cell 0
  have c10 : w.cell? ⟨b, 10, none⟩ = some (.int .i64 s.at_) := h.blk.cell 10
  have a0 := hI.a0
  have a1 := hI.a1
  have hm0 := hI.most0
  have hm1 := hI.most1
  have HLV := Lib.hid hI.lv
  have HQ := Lib.hid (fun (w1 : World) (m : Mv bm none w w1) => h.mem hm m)
  have HM := Lib.hid hm
  have HO := Lib.hid hO
  clear hm hO
  clear hI hn h
  go_enter Tryz.func61, Tryz.ntmps61
  go_wp2_with (fail)
  with_reducible refine (read_any B bm v C size count odd ref (s.at_ + 1) _ HM.out hC (by omega) (by omega)).mono ?_
  rintro e w2 ⟨rfl, hm2, m2⟩
  have H2 : Hid (WalkP F b s w2) := Lib.hid ⟨_, _, _, _, _, HQ.out w2 m2⟩
  have HM2 := Lib.hid hm2.read
  have O2 : Hid (Chg (fun x => F x ∨ x = bm) w w2) := Lib.hid (Chg.of_mv m2 (.inr rfl))
  clear hm2 m2 c0 c10 HM HQ
  obtain ⟨x, hx⟩ : ∃ x, rdC C (s.at_ + 1) = x := ⟨_, rfl⟩
  rw [hx] at hs ⊢
  clear hx
  go_wp2_with (fail)
  with_reducible refine (foundW_any F b s _ x H2.out (by omega) HLV.out hpl hm0 hm1).mono ?_
  rintro e w3 hp
  have HX := Lib.hid (hp.out HM2.out O2.out HO.out)
  obtain ⟨rfl, _, _⟩ := hp
  go_wp2_with (fail)
  with_reducible refine (doneW_any _ _ _ _ HX.out.1).mono ?_
  rintro e w4 ⟨rfl, rfl⟩
  go_wp2_with (fail)
  go_ret
  unfold WSPost
  rw [hs.out, ha.out]
  exact ⟨rfl, HX.out⟩
omit hpl hw in
set_option maxRecDepth 100000 in
set_option maxHeartbeats 1000000 in
theorem stepW5_any (hn : s.next = 5) : Calls Tryz.prog 61 #[.pointer (some ⟨b, 0, none⟩), .pointer (some ⟨bm, 0, none⟩)] w (WSPost F b bm s B v C size count odd ref w) := by
  have hs := Lib.hid (WS.step5 (R := rdC C) hn)
  have ha := Lib.hid (WS.acc5 hn)
  obtain ⟨l, L, hl, hmo⟩ : ∃ l ls, s.levels = l :: ls ∧ more s.back l = true := by
    rcases hI.st with ⟨e, _⟩ | ⟨e, _⟩ | e | e | e | ⟨_, q⟩ | e <;> first | exact q | omega
  have HH := Lib.hid h
  obtain ⟨rv, pv, lv, prv, sv, h⟩ := h
  have c0 : w.cell? ⟨b, 0, none⟩ = some (.int .i64 5) := by rw [← hn]; exact h.blk.cell 0
  have HLV := Lib.hid hI.lv
  have hab : -9223372036854775808 ≤ s.ahead ∧ s.ahead ≤ 9223372036854775807 := WS.ahead_bd s
  have hlL : L.length < 1000000 := by rw [hl] at hll; simp at hll; omega
  have hne : s.levels ≠ [] := by rw [hl]; simp
  have HM := Lib.hid hm
  have HO := Lib.hid hO
  have HL := Lib.hid hl
  have HMO := Lib.hid hmo
  have HN := Lib.hid hn
  have HNE := Lib.hid hne
  clear hm hO hl hmo hn hne
  clear hI h
  go_enter Tryz.func61, Tryz.ntmps61
  go_wp2_with (fail)
  with_reducible refine (aheadW_any F b s _ HH.out HNE.out (by omega) HLV.out).mono ?_
  rintro e w1 ⟨rfl, hb1⟩
  have HM1 := Lib.hid (HM.out.below hb1)
  have H1 := Lib.hid (HH.out.below hb1)
  have HB1 := Lib.hid hb1
  clear hb1 c0 HM HH
  go_wp2_with (fail)
  with_reducible refine (read_any B bm v C size count odd ref s.ahead _ HM1.out hC hab.1 hab.2).mono ?_
  rintro e w2 ⟨rfl, hm2, m2⟩
  have H2 : Hid (WalkP F b s w2) := Lib.hid (by obtain ⟨rv, pv, lv, prv, sv, h⟩ := H1.out; exact ⟨_, _, _, _, _, h.mem HM1.out m2⟩)
  have HM2 := Lib.hid hm2.read
  have O2 : Hid (Chg (fun x => F x ∨ x = bm) w w2) := Lib.hid ((Chg.of_below HB1.out).trans (Chg.of_mv m2 (.inr rfl)))
  clear hm2 m2 HM1 H1 HB1
  obtain ⟨x, hx⟩ : ∃ x, rdC C s.ahead = x := ⟨_, rfl⟩
  rw [hx] at hs ⊢
  clear hx
  go_wp2_with (fail)
  with_reducible refine (boundW_any F b s _ x H2.out l L HL.out hlL HLV.out HMO.out).mono ?_
  rintro e w3 hp
  have HX := Lib.hid (hp.out HM2.out O2.out HO.out)
  obtain ⟨rfl, _, _⟩ := hp
  go_wp2_with (fail)
  with_reducible refine (doneW_any _ _ _ _ HX.out.1).mono ?_
  rintro e w4 ⟨rfl, rfl⟩
  go_wp2_with (fail)
  go_ret
  unfold WSPost
  rw [hs.out, ha.out]
  exact ⟨rfl, HX.out⟩
set_option maxRecDepth 100000 in
set_option maxHeartbeats 1000000 in
theorem stepW2_any (hn : s.next = 2) : Calls Tryz.prog 61 #[.pointer (some ⟨b, 0, none⟩), .pointer (some ⟨bm, 0, none⟩)] w (WSPost F b bm s B v C size count odd ref w) := by
  have hs := Lib.hid (WS.step2 (R := rdC C) hn)
  have ha := Lib.hid (WS.acc2 hn)
  obtain ⟨rv, pv, lv, prv, sv, h⟩ := h
  have c0 : w.cell? ⟨b, 0, none⟩ = some (.int .i64 2) := by rw [← hn]; exact h.blk.cell 0
  have c10 : w.cell? ⟨b, 10, none⟩ = some (.int .i64 s.at_) := h.blk.cell 10
  have ew : IntKind.i64.wrap s.at_ = s.at_ := IntWalk.i64_in _ ⟨by have := hI.a0; omega, by have := hI.a1; omega⟩
  have a0 := hI.a0
  have a1 := hI.a1
  have hm0 := hI.most0
  have hm1 := hI.most1
  have HLV := Lib.hid hI.lv
  have HQ := Lib.hid (fun (w1 : World) (m : Mv bm none w w1) => h.mem hm m)
  have HM := Lib.hid hm
  have HO := Lib.hid hO
  clear hm hO
  clear hI hn h
  go_enter Tryz.func61, Tryz.ntmps61
  go_wp2_with (fail)
  with_reducible refine (read_any B bm v C size count odd ref s.at_ _ HM.out hC (by omega) (by omega)).mono ?_
  rintro e w2 ⟨rfl, hm2, m2⟩
  have hq2 := HQ.out w2 m2
  have hR2 := rdC_bd hw s.at_
  obtain ⟨x, hx⟩ : ∃ x, rdC C s.at_ = x := ⟨_, rfl⟩
  rw [hx] at hs hR2 ⊢
  have c11 : w2.cell? ⟨b, 11, none⟩ = some (.int .i64 s.key) := hq2.blk.cell 11
  have f11 := hq2.blk.frozen 11
  have o3 : Chg (fun y => y = b) w2 (w2.setCell ⟨b, 11, none⟩ (.int .i64 x)) := Chg.of_mv (F := fun y => y = b) (Mv.set1 w2 b 11 (.int .i64 x)) rfl
  have hq3 := hq2.own o3 (s' := { s with key := x }) (hq2.blk.set_ 11 _) rfl rfl rfl rfl rfl
  have HQ3 := Lib.hid hq3
  have HM3 := Lib.hid (hm2.read.chg (o3.mono (fun y hy => hy ▸ hq2.fb : ∀ y, y = b → F y)) HO.out.1 HO.out.2)
  have O3 : Hid (Chg (fun x => F x ∨ x = bm) w (w2.setCell ⟨b, 11, none⟩ (.int .i64 x))) := Lib.hid ((Chg.of_mv m2 (.inr rfl)).trans (o3.mono (fun y hy => .inl (hy ▸ hq2.fb))))
  clear hm2 m2 hq2 hq3 o3 HQ HM hx ew a0 a1
  go_wp2_with (fail)
  generalize w2.setCell ⟨b, 11, none⟩ (.int .i64 x) = w3 at HQ3 HM3 O3 ⊢
  clear c11 f11
  have c11 : w3.cell? ⟨b, 11, none⟩ = some (.int .i64 x) := HQ3.out.blk.cell 11
  have c1 : w3.cell? ⟨b, 1, none⟩ = some (.int .i64 s.lo) := HQ3.out.blk.cell 1
  have c2 : w3.cell? ⟨b, 2, none⟩ = some (.int .i64 s.hi) := HQ3.out.blk.cell 2
  have c4 : w3.cell? ⟨b, 4, none⟩ = some (.bool s.values) := HQ3.out.blk.cell 4
  have c0 : w3.cell? ⟨b, 0, none⟩ = some (.int .i64 s.next) := HQ3.out.blk.cell 0
  have f0 := HQ3.out.blk.frozen 0
  have HD : Hid (∀ k, WalkP F b { s with key := x } (w3.drewN k) ∧ MemP B bm v C size (bump count) (if 1 ≤ s.at_ ∧ s.at_ ≤ C.length then odd else bump odd) ref (w3.drewN k) ∧ Chg (fun x => F x ∨ x = bm) w (w3.drewN k)) := Lib.hid (fun k => ⟨⟨_, _, _, _, _, HQ3.out.below (drawn_bl ⟨k, rfl⟩ _)⟩, HM3.out.below (drawn_bl ⟨k, rfl⟩ _), O3.out.trans (Chg.of_below (drawn_bl ⟨k, rfl⟩ _))⟩)
  clear HQ3 HM3 O3
  by_cases hx1 : x < s.lo
  · have HS := Lib.hid (hs.out.trans (if_pos (.inl hx1)))
    go_wp2_with (fail)
    go_quiet (fail)
    go_wp2_with (fail)
    with_reducible refine (onwardW_any F b _ _ (HD.out _).1 (Nat.le_of_lt hll) HLV.out).mono ?_
    rintro e w5 hp
    have HX := Lib.hid (hp.out (HD.out _).2.1 (HD.out _).2.2 HO.out)
    obtain ⟨rfl, _, _⟩ := hp
    go_wp2_with (fail)
    with_reducible refine (doneW_any _ _ _ _ HX.out.1).mono ?_
    rintro e w4 ⟨rfl, rfl⟩
    go_wp2_with (fail)
    go_ret
    unfold WSPost
    rw [HS.out, ha.out]
    exact ⟨rfl, HX.out⟩
  · have hx1' : decide (x < s.lo) = false := decide_eq_false hx1
    by_cases hx2 : s.hi < x
    · have HS := Lib.hid (hs.out.trans (if_pos (.inr hx2)))
      clear hx1
      go_wp2_with (fail)
      go_quiet (fail)
      go_wp2_with (fail)
      with_reducible refine (onwardW_any F b _ _ (HD.out _).1 (Nat.le_of_lt hll) HLV.out).mono ?_
      rintro e w5 hp
      have HX := Lib.hid (hp.out (HD.out _).2.1 (HD.out _).2.2 HO.out)
      obtain ⟨rfl, _, _⟩ := hp
      go_wp2_with (fail)
      with_reducible refine (doneW_any _ _ _ _ HX.out.1).mono ?_
      rintro e w4 ⟨rfl, rfl⟩
      go_wp2_with (fail)
      go_ret
      unfold WSPost
      rw [HS.out, ha.out]
      exact ⟨rfl, HX.out⟩
    · have HS := Lib.hid (hs.out.trans (if_neg (by omega)))
      clear hx1
      cases hv : s.values with
      | true =>
        rw [hv] at c4
        have HS2 := Lib.hid (HS.out.trans (if_pos hv))
        clear hv
        go_wp2_with (fail)
        go_quiet (fail)
        go_wp2_with (fail)
        have hp := (HD.out nq).1.fin 3
        have HX := Lib.hid (hp.out (HD.out nq).2.1 (HD.out nq).2.2 HO.out)
        clear hp
        with_reducible refine (doneW_any _ _ _ _ HX.out.1).mono ?_
        rintro e w4 ⟨rfl, rfl⟩
        go_wp2_with (fail)
        go_ret
        unfold WSPost
        rw [HS2.out, ha.out]
        exact ⟨rfl, HX.out⟩
      | false =>
        rw [hv] at c4
        have HS2 := Lib.hid (HS.out.trans (if_neg (by rw [hv]; exact Bool.false_ne_true)))
        clear hv
        go_wp2_with (fail)
        go_quiet (fail)
        go_wp2_with (fail)
        with_reducible refine (foundW_any F b _ _ 0 (HD.out _).1 (Nat.le_of_lt hll) HLV.out hpl hm0 hm1).mono ?_
        rintro e w5 hp
        have HX := Lib.hid (hp.out (HD.out _).2.1 (HD.out _).2.2 HO.out)
        obtain ⟨rfl, _, _⟩ := hp
        go_wp2_with (fail)
        with_reducible refine (doneW_any _ _ _ _ HX.out.1).mono ?_
        rintro e w4 ⟨rfl, rfl⟩
        go_wp2_with (fail)
        go_ret
        unfold WSPost
        rw [HS2.out, ha.out]
        exact ⟨rfl, HX.out⟩
end
end Go.Proofs.YtblajeildolloaaGreat

/- Chapter 5's plain mathematics: the ideal shape. No program. -/
namespace Go.Proofs.YtblajeildolloaaGreat
set_option linter.unusedVariables false
set_option linter.unusedSimpArgs false

def degreeI (n : Int) : Int := if n < 2 ∨ 16384 < n then 0 else if 2 < rootI n then rootI n else 2
def sizeI (n i : Int) : Int := if i < 0 ∨ degreeI n ≤ i then 0 else if i < n % degreeI n then n / degreeI n + 1 else n / degreeI n
def minI (a b : Int) : Int := if b < a then b else a
def maxI (a b : Int) : Int := if a < b then b else a
def fromI (n i : Int) : Int := if i < 0 ∨ degreeI n ≤ i then 0 else n / degreeI n * i + minI i (n % degreeI n)
def limitI (n : Int) : Int := if n < 0 ∨ 16384 < n then 0 else n / 4 + 2

theorem degreeI_none {n : Int} (h : n < 2 ∨ 16384 < n) : degreeI n = 0 := if_pos h
theorem root_small {n : Int} (h : n ≤ 16384) : rootI n ≤ 128 := by
  have e : rootI 16384 = 128 := rootI_unique (by decide) (by decide) (by decide)
  have := rootI_mono h
  omega
theorem degreeI_bd {n : Int} (h0 : 2 ≤ n) (h1 : n ≤ 16384) : 2 ≤ degreeI n ∧ degreeI n ≤ 128 ∧ degreeI n ≤ n := by
  have r := root_small h1
  have s := (rootI_spec (n := n) (by omega)).1
  unfold degreeI
  rw [if_neg (by omega)]
  split
  · rename_i h
    have : 1 * rootI n ≤ rootI n * rootI n := Int.mul_le_mul_of_nonneg_right (by omega) (by omega)
    omega
  · omega
theorem degreeI_nonneg (n : Int) : 0 ≤ degreeI n := by
  by_cases h : n < 2 ∨ 16384 < n
  · rw [degreeI_none h]; omega
  · have := (degreeI_bd (n := n) (by omega) (by omega)).1; omega
theorem degreeI_le (n : Int) : degreeI n ≤ 128 := by
  by_cases h : n < 2 ∨ 16384 < n
  · rw [degreeI_none h]; omega
  · have := (degreeI_bd (n := n) (by omega) (by omega)).2.1; omega
theorem degreeI_zero {n : Int} (h : degreeI n = 0) : n < 2 ∨ 16384 < n := by
  by_cases g : n < 2 ∨ 16384 < n
  · exact g
  · have := (degreeI_bd (n := n) (by omega) (by omega)).1; omega

/-- What the parts of n keys are: q or q + 1 each, r of these. -/
theorem parts {n : Int} (h0 : 2 ≤ n) (h1 : n ≤ 16384) : n = degreeI n * (n / degreeI n) + n % degreeI n ∧ 0 ≤ n % degreeI n ∧ n % degreeI n < degreeI n ∧ 1 ≤ n / degreeI n ∧ n / degreeI n < n ∧ (0 < n % degreeI n → n / degreeI n + 1 < n) := by
  obtain ⟨d0, d1, d2⟩ := degreeI_bd h0 h1
  generalize degreeI n = d at *
  have e := Int.mul_ediv_add_emod n d
  have a := Int.emod_nonneg n (show d ≠ 0 by omega)
  have b := Int.emod_lt_of_pos n (show 0 < d by omega)
  have c : 1 ≤ n / d := (Int.le_ediv_iff_mul_le (by omega)).2 (by omega)
  have f : 2 * (n / d) ≤ d * (n / d) := Int.mul_le_mul_of_nonneg_right d0 (by omega)
  exact ⟨by omega, a, b, c, by omega, by omega⟩

theorem sizeI_in {n i : Int} (h0 : 2 ≤ n) (h1 : n ≤ 16384) (i0 : 0 ≤ i) (i1 : i < degreeI n) : sizeI n i = (if i < n % degreeI n then n / degreeI n + 1 else n / degreeI n) ∧ 1 ≤ sizeI n i ∧ sizeI n i < n := by
  obtain ⟨p1, p2, p3, p4, p5, p6⟩ := parts h0 h1
  have e : sizeI n i = (if i < n % degreeI n then n / degreeI n + 1 else n / degreeI n) := by
    unfold sizeI; rw [if_neg (by omega)]
  rw [e]
  refine ⟨rfl, ?_⟩
  split <;> omega
theorem sizeI_out {n i : Int} (h : i < 0 ∨ degreeI n ≤ i) : sizeI n i = 0 := if_pos h
theorem sizeI_bd (n i : Int) : 0 ≤ sizeI n i ∧ sizeI n i ≤ 16384 := by
  by_cases h : i < 0 ∨ degreeI n ≤ i
  · rw [sizeI_out h]; omega
  · have hd : degreeI n ≠ 0 := by omega
    have hn : ¬ (n < 2 ∨ 16384 < n) := fun g => hd (degreeI_none g)
    have := sizeI_in (n := n) (i := i) (by omega) (by omega) (by omega) (by omega)
    omega

/-! ### depth and cells: recursion -/
def depthF : Nat → Int → Int
  | 0, _ => 0
  | k + 1, n => if degreeI n = 0 then 0 else 1 + (if 0 < n % degreeI n then maxI (depthF k (n / degreeI n)) (depthF k (n / degreeI n + 1)) else depthF k (n / degreeI n))
def cellsF : Nat → Int → Int
  | 0, n => if n = 0 then 1 else 0
  | k + 1, n => if n < 0 ∨ 16384 < n then 0 else if n = 0 then 1 else if n = 1 then 2 else
      4 + 2 * degreeI n + (degreeI n - n % degreeI n) * cellsF k (n / degreeI n) + (if 0 < n % degreeI n then n % degreeI n * cellsF k (n / degreeI n + 1) else 0)
def depthI (n : Int) : Int := depthF n.toNat n
def cellsI (n : Int) : Int := cellsF n.toNat n

theorem depthF_fuel : ∀ (k : Nat) (n : Int), n ≤ k → ∀ j : Nat, n ≤ j → depthF j n = depthF k n
  | 0, n, h, j, _ => by
    cases j with
    | zero => rfl
    | succ j => simp only [depthF]; rw [if_pos (degreeI_none (by omega))]
  | k + 1, n, h, j, hj => by
    by_cases g : n < 2 ∨ 16384 < n
    · have e := degreeI_none g
      cases j with
      | zero => simp only [depthF]; rw [if_pos e]
      | succ j => simp only [depthF]; rw [if_pos e, if_pos e]
    · obtain ⟨i, rfl⟩ : ∃ i, j = i + 1 := ⟨j - 1, by omega⟩
      obtain ⟨p1, p2, p3, p4, p5, p6⟩ := parts (n := n) (by omega) (by omega)
      simp only [depthF]
      rw [depthF_fuel k (n / degreeI n) (by omega) i (by omega)]
      by_cases c : 0 < n % degreeI n
      · rw [depthF_fuel k (n / degreeI n + 1) (by have := p6 c; omega) i (by have := p6 c; omega)]
      · rw [if_neg c, if_neg c]
theorem depthI_eq {n : Int} (h0 : 2 ≤ n) (h1 : n ≤ 16384) : depthI n = 1 + (if 0 < n % degreeI n then maxI (depthI (n / degreeI n)) (depthI (n / degreeI n + 1)) else depthI (n / degreeI n)) := by
  obtain ⟨p1, p2, p3, p4, p5, p6⟩ := parts h0 h1
  have d0 := (degreeI_bd h0 h1).1
  unfold depthI
  obtain ⟨k, hk⟩ : ∃ k, n.toNat = k + 1 := ⟨n.toNat - 1, by omega⟩
  rw [hk, depthF, if_neg (by omega)]
  rw [depthF_fuel (n / degreeI n).toNat (n / degreeI n) (by omega) k (by omega)]
  by_cases c : 0 < n % degreeI n
  · rw [depthF_fuel (n / degreeI n + 1).toNat (n / degreeI n + 1) (by omega) k (by have := p6 c; omega)]
  · rw [if_neg c, if_neg c]
theorem depthI_none {n : Int} (h : n < 2 ∨ 16384 < n) : depthI n = 0 := by
  unfold depthI
  cases n.toNat with
  | zero => rfl
  | succ k => rw [depthF, if_pos (degreeI_none h)]
theorem depthF_bd : ∀ (k : Nat) (n : Int), 0 ≤ depthF k n ∧ depthF k n ≤ k
  | 0, n => by simp [depthF]
  | k + 1, n => by
    have a := depthF_bd k (n / degreeI n)
    have b := depthF_bd k (n / degreeI n + 1)
    simp only [depthF]
    split
    · omega
    · split
      · unfold maxI; split <;> omega
      · omega
theorem depthI_nonneg (n : Int) : 0 ≤ depthI n := (depthF_bd _ _).1
theorem depthI_le (n : Int) : depthI n ≤ 16384 := by
  by_cases h : n < 2 ∨ 16384 < n
  · rw [depthI_none h]; omega
  · have := (depthF_bd n.toNat n).2
    unfold depthI; omega

theorem cellsF_fuel : ∀ (k : Nat) (n : Int), n ≤ k → ∀ j : Nat, n ≤ j → cellsF j n = cellsF k n
  | 0, n, h, j, _ => by
    cases j with
    | zero => rfl
    | succ j =>
      simp only [cellsF]
      by_cases g : n < 0
      · rw [if_pos (Or.inl g), if_neg (by omega)]
      · rw [if_neg (by omega)]
        have : n = 0 := by omega
        rw [if_pos this, if_pos this]
  | k + 1, n, h, j, hj => by
    by_cases g : n < 0 ∨ 16384 < n
    · cases j with
      | zero => simp only [cellsF]; rw [if_pos g, if_neg (by omega)]
      | succ j => simp only [cellsF]; rw [if_pos g, if_pos g]
    · by_cases z : n = 0
      · subst z
        cases j with
        | zero => simp [cellsF]
        | succ j => simp [cellsF]
      · obtain ⟨i, rfl⟩ : ∃ i, j = i + 1 := ⟨j - 1, by omega⟩
        simp only [cellsF]
        rw [if_neg g, if_neg g, if_neg z, if_neg z]
        by_cases u : n = 1
        · rw [if_pos u, if_pos u]
        · rw [if_neg u, if_neg u]
          obtain ⟨p1, p2, p3, p4, p5, p6⟩ := parts (n := n) (by omega) (by omega)
          rw [cellsF_fuel k (n / degreeI n) (by omega) i (by omega)]
          by_cases c : 0 < n % degreeI n
          · rw [cellsF_fuel k (n / degreeI n + 1) (by have := p6 c; omega) i (by have := p6 c; omega)]
          · rw [if_neg c, if_neg c]
theorem cellsI_eq {n : Int} (h0 : 2 ≤ n) (h1 : n ≤ 16384) : cellsI n = 4 + 2 * degreeI n + (degreeI n - n % degreeI n) * cellsI (n / degreeI n) + (if 0 < n % degreeI n then n % degreeI n * cellsI (n / degreeI n + 1) else 0) := by
  obtain ⟨p1, p2, p3, p4, p5, p6⟩ := parts h0 h1
  unfold cellsI
  obtain ⟨k, hk⟩ : ∃ k, n.toNat = k + 1 := ⟨n.toNat - 1, by omega⟩
  rw [hk, cellsF, if_neg (by omega), if_neg (by omega), if_neg (by omega)]
  rw [cellsF_fuel (n / degreeI n).toNat (n / degreeI n) (by omega) k (by omega)]
  by_cases c : 0 < n % degreeI n
  · rw [cellsF_fuel (n / degreeI n + 1).toNat (n / degreeI n + 1) (by omega) k (by have := p6 c; omega)]
  · rw [if_neg c, if_neg c]
theorem cellsI_none {n : Int} (h : n < 0 ∨ 16384 < n) : cellsI n = 0 := by
  unfold cellsI
  cases hn : n.toNat with
  | zero => rw [cellsF, if_neg (by omega)]
  | succ k => rw [cellsF, if_pos h]
theorem cellsI_zero : cellsI 0 = 1 := rfl
theorem cellsI_one : cellsI 1 = 2 := by decide +kernel
theorem cellsI_bd (k : Nat) : ∀ n : Int, 1 ≤ n → n ≤ k → n ≤ 16384 → 2 ≤ cellsI n ∧ cellsI n ≤ 10 * n - 8 := by
  induction k with
  | zero => intro n h g; omega
  | succ k ih =>
    intro n h0 hk h1
    by_cases u : n = 1
    · subst u; rw [cellsI_one]; omega
    · obtain ⟨p1, p2, p3, p4, p5, p6⟩ := parts (n := n) (by omega) h1
      obtain ⟨d0, d1, d2⟩ := degreeI_bd (n := n) (by omega) h1
      have a := ih (n / degreeI n) p4 (by omega) (by omega)
      rw [cellsI_eq (by omega) h1]
      have m0 : (degreeI n - n % degreeI n) * 2 ≤ (degreeI n - n % degreeI n) * cellsI (n / degreeI n) := Int.mul_le_mul_of_nonneg_left a.1 (by omega)
      have m1 : (degreeI n - n % degreeI n) * cellsI (n / degreeI n) ≤ (degreeI n - n % degreeI n) * (10 * (n / degreeI n) - 8) := Int.mul_le_mul_of_nonneg_left a.2 (by omega)
      by_cases c : 0 < n % degreeI n
      · have b := ih (n / degreeI n + 1) (by omega) (by have := p6 c; omega) (by have := p6 c; omega)
        have q0 : (n % degreeI n) * 2 ≤ (n % degreeI n) * cellsI (n / degreeI n + 1) := Int.mul_le_mul_of_nonneg_left b.1 (by omega)
        have q1 : (n % degreeI n) * cellsI (n / degreeI n + 1) ≤ (n % degreeI n) * (10 * (n / degreeI n + 1) - 8) := Int.mul_le_mul_of_nonneg_left b.2 (by omega)
        rw [if_pos c]
        generalize degreeI n = d at *
        generalize n % d = r at *
        generalize n / d = q at *
        generalize cellsI q = cq at *
        generalize cellsI (q + 1) = cr at *
        have e1 : (d - r) * (10 * q - 8) = 10 * (d * q) - 10 * (r * q) - 8 * d + 8 * r := by
          rw [Int.sub_mul, Int.mul_sub, Int.mul_sub, ← Int.mul_assoc, ← Int.mul_assoc, Int.mul_comm d 10, Int.mul_comm r 10, Int.mul_assoc, Int.mul_assoc]; omega
        have e2 : r * (10 * (q + 1) - 8) = 10 * (r * q) + 2 * r := by
          have : 10 * (q + 1) - 8 = 10 * q + 2 := by omega
          rw [this, Int.mul_add, ← Int.mul_assoc, Int.mul_comm r 10, Int.mul_assoc]; omega
        omega
      · rw [if_neg c]
        generalize degreeI n = d at *
        generalize n % d = r at *
        generalize n / d = q at *
        generalize cellsI q = cq at *
        obtain rfl : r = 0 := by omega
        have e1 : (d - 0) * (10 * q - 8) = 10 * (d * q) - 8 * d := by
          rw [Int.sub_zero, Int.mul_sub, ← Int.mul_assoc, Int.mul_comm d 10, Int.mul_assoc]; omega
        omega
theorem cellsI_in {n : Int} (h0 : 1 ≤ n) (h1 : n ≤ 16384) : 2 ≤ cellsI n ∧ cellsI n ≤ 10 * n - 8 := cellsI_bd n.toNat n h0 (by omega) h1
end Go.Proofs.YtblajeildolloaaGreat

/- Chapter 5: what loops over the parts come to. No program. -/
namespace Go.Proofs.YtblajeildolloaaGreat
set_option linter.unusedVariables false
set_option linter.unusedSimpArgs false

/-- The keys ahead of part i, i up to the degree itself. -/
def rawI (n i : Int) : Int := n / degreeI n * i + minI i (n % degreeI n)
theorem rawI_zero {n : Int} (h0 : 2 ≤ n) (h1 : n ≤ 16384) : rawI n 0 = 0 := by
  obtain ⟨p1, p2, p3, p4, p5, p6⟩ := parts h0 h1
  unfold rawI minI; rw [Int.mul_zero]; split <;> omega
theorem rawI_step {n i : Int} (h0 : 2 ≤ n) (h1 : n ≤ 16384) (i0 : 0 ≤ i) (i1 : i < degreeI n) : rawI n (i + 1) = rawI n i + sizeI n i := by
  obtain ⟨p1, p2, p3, p4, p5, p6⟩ := parts h0 h1
  rw [(sizeI_in h0 h1 i0 i1).1]
  unfold rawI minI
  rw [Int.mul_add, Int.mul_one]
  generalize degreeI n = d at *
  generalize n % d = r at *
  generalize n / d = q at *
  split <;> split <;> split <;> omega
theorem rawI_all {n : Int} (h0 : 2 ≤ n) (h1 : n ≤ 16384) : rawI n (degreeI n) = n := by
  obtain ⟨p1, p2, p3, p4, p5, p6⟩ := parts h0 h1
  unfold rawI minI
  rw [if_pos p3, Int.mul_comm]; omega
theorem rawI_bd {n i : Int} (h0 : 2 ≤ n) (h1 : n ≤ 16384) (i0 : 0 ≤ i) (i1 : i ≤ degreeI n) : 0 ≤ rawI n i ∧ rawI n i ≤ n := by
  obtain ⟨p1, p2, p3, p4, p5, p6⟩ := parts h0 h1
  have m0 : 0 ≤ n / degreeI n * i := Int.mul_nonneg (by omega) i0
  have m1 : n / degreeI n * i ≤ n / degreeI n * degreeI n := Int.mul_le_mul_of_nonneg_left (by omega) (by omega)
  rw [Int.mul_comm (n / degreeI n) (degreeI n)] at m1
  unfold rawI minI
  split <;> omega
theorem fromI_in {n i : Int} (i0 : 0 ≤ i) (i1 : i < degreeI n) : fromI n i = rawI n i := if_neg (by omega)

/-- The deepest of the first i parts, and one. -/
def deepTo (n : Int) : Nat → Int
  | 0 => 0
  | i + 1 => maxI (deepTo n i) (1 + depthI (sizeI n i))
theorem deepTo_eq {n : Int} (h0 : 2 ≤ n) (h1 : n ≤ 16384) : ∀ i : Nat, (i : Int) ≤ degreeI n → deepTo n i = if i = 0 then 0 else if (i : Int) ≤ n % degreeI n then 1 + depthI (n / degreeI n + 1) else if 0 < n % degreeI n then 1 + maxI (depthI (n / degreeI n)) (depthI (n / degreeI n + 1)) else 1 + depthI (n / degreeI n)
  | 0, _ => rfl
  | i + 1, hi => by
    have ih := deepTo_eq h0 h1 i (by omega)
    have s := (sizeI_in (n := n) (i := i) h0 h1 (by omega) (by omega)).1
    have a := depthI_nonneg (n / degreeI n)
    have b := depthI_nonneg (n / degreeI n + 1)
    rw [deepTo, ih, s, if_neg (show ¬ i + 1 = 0 by omega)]
    obtain ⟨p1, p2, p3, p4, p5, p6⟩ := parts h0 h1
    generalize n % degreeI n = r at *
    generalize degreeI n = d at *
    generalize n / d = q at *
    by_cases c : (i : Int) < r
    · rw [if_pos c, if_pos (show ((i + 1 : Nat) : Int) ≤ r by omega)]
      by_cases z : i = 0
      · rw [if_pos z]; unfold maxI; split <;> omega
      · rw [if_neg z, if_pos (by omega)]; unfold maxI; split <;> omega
    · rw [if_neg c, if_neg (show ¬ ((i + 1 : Nat) : Int) ≤ r by omega)]
      by_cases z : i = 0
      · have : ¬ 0 < r := by omega
        rw [if_pos z, if_neg this]; unfold maxI; split <;> omega
      · rw [if_neg z]
        by_cases e : (i : Int) ≤ r
        · rw [if_pos e, if_pos (show 0 < r by omega)]; unfold maxI; split <;> split <;> omega
        · rw [if_neg e]
          by_cases f : 0 < r
          · rw [if_pos f]; unfold maxI; split <;> split <;> omega
          · rw [if_neg f]; unfold maxI; split <;> omega
theorem deepTo_all {n : Int} (h0 : 2 ≤ n) (h1 : n ≤ 16384) : deepTo n (degreeI n).toNat = depthI n := by
  obtain ⟨p1, p2, p3, p4, p5, p6⟩ := parts h0 h1
  have d0 := (degreeI_bd h0 h1).1
  rw [deepTo_eq h0 h1 _ (by omega), depthI_eq h0 h1, if_neg (show ¬ (degreeI n).toNat = 0 by omega), if_neg (show ¬ ((degreeI n).toNat : Int) ≤ n % degreeI n by omega)]
  by_cases f : 0 < n % degreeI n
  · rw [if_pos f, if_pos f]
  · rw [if_neg f, if_neg f]
theorem deepTo_bd (n : Int) : ∀ i, 0 ≤ deepTo n i ∧ deepTo n i ≤ 16385
  | 0 => by simp [deepTo]
  | i + 1 => by
    have a := deepTo_bd n i
    have b := depthI_nonneg (sizeI n i)
    have c := depthI_le (sizeI n i)
    rw [deepTo]; unfold maxI; split <;> omega

def cellsTo (n : Int) : Nat → Int
  | 0 => 4 + 2 * degreeI n
  | i + 1 => cellsTo n i + cellsI (sizeI n i)
theorem cellsTo_eq {n : Int} (h0 : 2 ≤ n) (h1 : n ≤ 16384) : ∀ i : Nat, (i : Int) ≤ degreeI n → cellsTo n i = 4 + 2 * degreeI n + (if (i : Int) ≤ n % degreeI n then (i : Int) * cellsI (n / degreeI n + 1) else ((i : Int) - n % degreeI n) * cellsI (n / degreeI n) + n % degreeI n * cellsI (n / degreeI n + 1))
  | 0, _ => by
    obtain ⟨p1, p2, p3, p4, p5, p6⟩ := parts h0 h1
    rw [cellsTo, if_pos (by omega)]; simp
  | i + 1, hi => by
    have ih := cellsTo_eq h0 h1 i (by omega)
    have s := (sizeI_in (n := n) (i := i) h0 h1 (by omega) (by omega)).1
    rw [cellsTo, ih, s]
    obtain ⟨p1, p2, p3, p4, p5, p6⟩ := parts h0 h1
    generalize n % degreeI n = r at *
    generalize degreeI n = d at *
    generalize n / d = q at *
    have e1 : ((i + 1 : Nat) : Int) * cellsI (q + 1) = (i : Int) * cellsI (q + 1) + cellsI (q + 1) := by
      rw [Int.natCast_add, Int.add_mul]; simp
    have e2 : (((i + 1 : Nat) : Int) - r) * cellsI q = ((i : Int) - r) * cellsI q + cellsI q := by
      have : ((i + 1 : Nat) : Int) - r = ((i : Int) - r) + 1 := by omega
      rw [this, Int.add_mul]; simp
    by_cases c : (i : Int) < r
    · rw [if_pos c, if_pos (show ((i + 1 : Nat) : Int) ≤ r by omega), if_pos (show (i : Int) ≤ r by omega), e1]; omega
    · rw [if_neg c, if_neg (show ¬ ((i + 1 : Nat) : Int) ≤ r by omega), e2]
      by_cases e : (i : Int) ≤ r
      · have e3 : (i : Int) = r := by omega
        rw [if_pos e, e3, Int.sub_self, Int.zero_mul]; omega
      · rw [if_neg e]; omega
theorem cellsTo_all {n : Int} (h0 : 2 ≤ n) (h1 : n ≤ 16384) : cellsTo n (degreeI n).toNat = cellsI n := by
  obtain ⟨p1, p2, p3, p4, p5, p6⟩ := parts h0 h1
  have d0 := (degreeI_bd h0 h1).1
  rw [cellsTo_eq h0 h1 _ (by omega), cellsI_eq h0 h1, if_neg (show ¬ ((degreeI n).toNat : Int) ≤ n % degreeI n by omega)]
  have : (((degreeI n).toNat : Nat) : Int) = degreeI n := by omega
  rw [this]
  by_cases f : 0 < n % degreeI n
  · rw [if_pos f]; omega
  · have : n % degreeI n = 0 := by omega
    rw [if_neg f, this]; simp
theorem cellsI_abs (n : Int) : 0 ≤ cellsI n ∧ cellsI n ≤ 163840 := by
  by_cases h : n < 0 ∨ 16384 < n
  · rw [cellsI_none h]; omega
  · by_cases z : n = 0
    · subst z; rw [cellsI_zero]; omega
    · have := cellsI_in (n := n) (by omega) (by omega); omega
theorem cellsTo_bd (n : Int) : ∀ i : Nat, 0 ≤ cellsTo n i ∧ cellsTo n i ≤ 260 + 163840 * i
  | 0 => by
    have a := degreeI_nonneg n
    have b := degreeI_le n
    simp only [cellsTo]; omega
  | i + 1 => by
    have a := cellsTo_bd n i
    have b := cellsI_abs (sizeI n i)
    rw [cellsTo]; omega
end Go.Proofs.YtblajeildolloaaGreat

/- An ideal tree laid at once, as numbers. No program's text. -/
namespace Go.Proofs.YtblajeildolloaaGreat
set_option linter.unusedVariables false
set_option linter.unusedSimpArgs false
open Go.RowKit

/-- The parts up to the i-th one, laid one behind the other: the cells, the words. -/
def layTo (lay : List Int → List (Int × Int) → List Int × Int) (C : List Int) (l : List (Int × Int)) : Nat → List Int × List Int
  | 0 => (C, [])
  | i + 1 => ((lay (layTo lay C l i).1 ((l.drop (fromI l.length i).toNat).take (sizeI l.length i).toNat)).1, (layTo lay C l i).2 ++ [(lay (layTo lay C l i).1 ((l.drop (fromI l.length i).toNat).take (sizeI l.length i).toNat)).2])
def keysTo (l : List (Int × Int)) : Nat → List Int
  | 0 => []
  | 1 => []
  | i + 2 => keysTo l (i + 1) ++ [pkey l (fromI l.length ((i + 1 : Nat) : Int)).toNat]
def innerW (n : Int) (q c : List Int) : List Int := [(c.length : Int), n, 0, 0, 0] ++ q ++ c
def layF : Nat → List Int → List (Int × Int) → List Int × Int
  | 0, C, _ => (C, 0)
  | f + 1, C, l =>
    if l.length = 0 then (C ++ [0], wOf 1 ((C.length : Int) + 1))
    else if l.length = 1 then (C ++ [pkey l 0, pval l 0], wOf 2 ((C.length : Int) + 1))
    else ((layTo (layF f) C l (degreeI l.length).toNat).1 ++ innerW l.length (keysTo l (degreeI l.length).toNat) (layTo (layF f) C l (degreeI l.length).toNat).2, wOf 3 (((layTo (layF f) C l (degreeI l.length).toNat).1.length : Int) + 1))
theorem keysTo_len (l : List (Int × Int)) : ∀ i : Nat, (keysTo l (i + 1)).length = i
  | 0 => rfl
  | i + 1 => by
    show (keysTo l (i + 1) ++ [_]).length = i + 1
    rw [List.length_append, keysTo_len l i]; rfl
theorem layTo_words {lay : List Int → List (Int × Int) → List Int × Int} {C : List Int} {l : List (Int × Int)} : ∀ i, (layTo lay C l i).2.length = i
  | 0 => rfl
  | i + 1 => by
    show ((layTo lay C l i).2 ++ [_]).length = i + 1
    rw [List.length_append, layTo_words i]; rfl
theorem part_len {l : List (Int × Int)} (h0 : 2 ≤ l.length) (h1 : l.length ≤ 16384) {i : Nat} (hi : (i : Int) < degreeI l.length) : (((l.drop (fromI l.length i).toNat).take (sizeI l.length i).toNat).length : Int) = sizeI l.length i ∧ 0 ≤ fromI l.length i ∧ 1 ≤ sizeI l.length i ∧ sizeI l.length i < l.length ∧ fromI l.length i + sizeI l.length i ≤ l.length := by
  have e := fromI_in (n := l.length) (i := i) (by omega) hi
  have s := sizeI_in (n := l.length) (i := i) (by omega) (by omega) (by omega) hi
  have r := rawI_step (n := l.length) (i := i) (by omega) (by omega) (by omega) hi
  have b1 := rawI_bd (n := l.length) (i := i) (by omega) (by omega) (by omega) (by omega)
  have b2 := rawI_bd (n := l.length) (i := (i : Int) + 1) (by omega) (by omega) (by omega) (by omega)
  refine ⟨?_, by omega, s.2.1, s.2.2, by omega⟩
  rw [List.length_take, List.length_drop]
  omega
/-- It takes as many cells as chapter 5 says. -/
theorem lay_cells : ∀ (f : Nat) (C : List Int) (l : List (Int × Int)), l.length < f → l.length ≤ 16384 → ((layF f C l).1.length : Int) = C.length + cellsI l.length
  | 0, C, l, h, _ => absurd h (by omega)
  | f + 1, C, l, h, h1 => by
    unfold layF
    by_cases c0 : l.length = 0
    · rw [if_pos c0, c0]; simp [cellsI_zero]
    · rw [if_neg c0]
      by_cases c1 : l.length = 1
      · rw [if_pos c1, c1]; simp [cellsI_one]
      · rw [if_neg c1]
        have hd := degreeI_bd (n := l.length) (by omega) (by omega)
        have key : ∀ i : Nat, (i : Int) ≤ degreeI l.length → ((layTo (layF f) C l i).1.length : Int) + 4 + 2 * degreeI l.length = C.length + cellsTo l.length i := by
          intro i
          induction i with
          | zero => intro _; simp [layTo, cellsTo]; omega
          | succ i ih =>
            intro hi
            have := ih (by omega)
            obtain ⟨p1, p2, p3, p4, p5⟩ := part_len (l := l) (by omega) h1 (i := i) (by omega)
            have hl := lay_cells f (layTo (layF f) C l i).1 ((l.drop (fromI l.length i).toNat).take (sizeI l.length i).toNat) (by omega) (by omega)
            rw [p1] at hl
            simp only [layTo, cellsTo]
            omega
        have h3 := key (degreeI l.length).toNat (by omega)
        have h4 := cellsTo_all (n := l.length) (by omega) (by omega)
        rw [h4] at h3
        obtain ⟨d, hdd⟩ : ∃ d : Nat, (degreeI l.length).toNat = d + 1 := ⟨(degreeI l.length).toNat - 1, by omega⟩
        rw [List.length_append]
        unfold innerW
        rw [List.length_append, List.length_append, layTo_words, hdd, keysTo_len]
        rw [hdd] at h3
        simp
        omega
/-- The parts up to the i-th one and the whole: what chapter 5 reckons. -/
theorem lay_to (C : List Int) (l : List (Int × Int)) (f : Nat) (hf : l.length < f + 1) (h1 : l.length ≤ 16384) (h2 : 2 ≤ l.length) : ∀ i : Nat, (i : Int) ≤ degreeI l.length → ((layTo (layF f) C l i).1.length : Int) + 4 + 2 * degreeI l.length = C.length + cellsTo l.length i ∧ cellsTo l.length i ≤ cellsTo l.length (degreeI l.length).toNat := by
  have hd := degreeI_bd (n := l.length) (by omega) (by omega)
  have mono : ∀ (k i : Nat), cellsTo l.length i ≤ cellsTo l.length (i + k) := by
    intro k
    induction k with
    | zero => intro i; exact Int.le_refl _
    | succ k ih =>
      intro i
      have a := ih i
      have b := (cellsI_abs (sizeI l.length ((i + k : Nat) : Int))).1
      have e : cellsTo l.length (i + (k + 1)) = cellsTo l.length (i + k) + cellsI (sizeI l.length ((i + k : Nat) : Int)) := rfl
      rw [e]
      omega
  intro i
  induction i with
  | zero => intro _; exact ⟨by simp [layTo, cellsTo]; omega, by have := mono (degreeI l.length).toNat 0; simpa using this⟩
  | succ i ih =>
    intro hi
    have := (ih (by omega)).1
    obtain ⟨p1, p2, p3, p4, p5⟩ := part_len (l := l) h2 h1 (i := i) (by omega)
    have hl := lay_cells f (layTo (layF f) C l i).1 ((l.drop (fromI l.length i).toNat).take (sizeI l.length i).toNat) (by omega) (by omega)
    rw [p1] at hl
    refine ⟨by simp only [layTo, cellsTo]; omega, ?_⟩
    have := mono ((degreeI l.length).toNat - (i + 1)) (i + 1)
    rw [show i + 1 + ((degreeI l.length).toNat - (i + 1)) = (degreeI l.length).toNat by omega] at this
    exact this
end Go.Proofs.YtblajeildolloaaGreat

/- Frames of seek over small memories: what they come to. No program's text. -/
namespace Go.Proofs.YtblajeildolloaaGreat
set_option linter.unusedVariables false
set_option linter.unusedSimpArgs false
open Go.RowKit

def SS.it (R : Int → Int) (s : SS) : Nat → SS
  | 0 => s
  | t + 1 => (SS.it R s t).step R
theorem SS.Inv.it {s : SS} (h : s.Inv) {R : Int → Int} (hR : ∀ a, -9223372036854775808 ≤ R a ∧ R a ≤ 9223372036854775807) : ∀ t, (SS.it R s t).Inv
  | 0 => h
  | t + 1 => (SS.Inv.it h hR t).step hR
def p3L : List (Int × Int) := [(1, 10), (2, 20), (3, 30)]
/-- The memory with the tree over three keys; with a Rebuild over it; with a Dcss in it, done. -/
def tree3 : List Int := wrC (layF 4 beginL p3L).1 6 (layF 4 beginL p3L).2
def word3 : Int := (layF 4 beginL p3L).2
def tree3R : List Int := wrC (tree3 ++ [word3, 3, 6, 0, 0]) 6 (wOf 4 ((tree3.length : Int) + 1))
def slot3 : Int := childAtI (wAt word3) 2 1
def tree3L : List Int := tree3R ++ [3, 33]
def tree3D : List Int := tree3L ++ [wAt word3 + 2, slot3, rdC tree3L slot3, wOf 2 ((tree3R.length : Int) + 1), 0]
def tree3E : List Int := wrC (wrC tree3D slot3 (wOf 5 ((tree3L.length : Int) + 1))) ((tree3L.length : Int) + 1 + 4) 1
def memK (i : Nat) : List Int := if i = 0 then tree3 else if i = 1 then tree3R else tree3E
def runK (i k : Nat) (t : Nat) : SS := SS.it (rdC (memK i)) (SS.init k) t
/-- How many steps it has (as a search from the beginning). -/
def stepsK (i k : Nat) : Nat := ((List.range 40).find? fun t => (runK i k t).next == 5).getD 0
def wantK (i k : Nat) : Int := if i = 2 ∧ k = 3 then 33 else if 0 < k ∧ k < 4 then 10 * (k : Int) else 0
theorem seekK : ∀ i, i < 3 → ∀ k, k < 5 → (∀ t, t < stepsK i k → (runK i k t).next ≠ 5) ∧ (runK i k (stepsK i k)).next = 5 ∧ (runK i k (stepsK i k)).there = decide (0 < k ∧ k < 4) ∧ (runK i k (stepsK i k)).value = wantK i k ∧ stepsK i k ≤ 40 ∧ 0 < stepsK i k := by decide +kernel
theorem memK_bd : ∀ i, i < 3 → ∀ x ∈ memK i, -9223372036854775808 ≤ x ∧ x ≤ 9223372036854775807 := by decide +kernel
theorem memK_len : ∀ i, i < 3 → (memK i).length ≤ 60 := by decide +kernel
theorem tree3_len : tree3.length = 29 ∧ word3 = 179 ∧ slot3 = 29 := by decide +kernel
end Go.Proofs.YtblajeildolloaaGreat

/- The walk of span.Root. -/
namespace Go.Proofs.YtblajeildolloaaGreat
set_option linter.unusedVariables false
set_option linter.unusedSimpArgs false
open Go.RowKit

/-- One digit of the root: q * 2^(b+1) and the digit b. -/
theorem or_bit (q b : Nat) (hr : q * 2 ^ (b + 1) < 2 ^ 32) (hb : b < 32) :
    bits .or .i64 ((q * 2 ^ (b + 1) : Nat) : Int) ((2 ^ b : Nat) : Int) = ((q * 2 ^ (b + 1) + 2 ^ b : Nat) : Int) := by
  have h2 : 2 ^ b < 2 ^ 32 := Nat.pow_lt_pow_right (by decide) hb
  have e1 : (BitVec.ofInt 64 ((q * 2 ^ (b + 1) : Nat) : Int)).toNat = q * 2 ^ (b + 1) := by
    rw [BitVec.ofInt_natCast, BitVec.toNat_ofNat]; exact Nat.mod_eq_of_lt (by omega)
  have e2 : (BitVec.ofInt 64 ((2 ^ b : Nat) : Int)).toNat = 2 ^ b := by
    rw [BitVec.ofInt_natCast, BitVec.toNat_ofNat]; exact Nat.mod_eq_of_lt (by omega)
  have e3 : q * 2 ^ (b + 1) ||| 2 ^ b = q * 2 ^ (b + 1) + 2 ^ b := by
    rw [Nat.mul_comm]
    exact (Nat.two_pow_add_eq_or_of_lt (Nat.pow_lt_pow_right (by decide) (Nat.lt_succ_self b)) q).symm
  show IntKind.i64.wrap ((BitVec.ofInt 64 ((q * 2 ^ (b + 1) : Nat) : Int) ||| BitVec.ofInt 64 ((2 ^ b : Nat) : Int)).toNat : Int) = _
  rw [BitVec.toNat_or, e1, e2, e3]
  exact IntWalk.i64_in _ (by omega)

/-- What is known of the root when b digits are still to come: r = q * 2^b, r² ≤ n < (r + 2^b)². -/
def RootAt (n : Int) (b : Nat) (r : Int) : Prop := (∃ q : Nat, r = ((q * 2 ^ b : Nat) : Int)) ∧ r * r ≤ n ∧ n < (r + 2 ^ b) * (r + 2 ^ b) ∧ r < 2 ^ 32

theorem RootAt.start {n : Int} (h0 : 0 < n) (h1 : n ≤ 9223372036854775807) {b : Nat} (hb : (b : Int) = bitsI n / 2 + 1) : RootAt n b 0 := by
  refine ⟨⟨0, by simp⟩, by omega, ?_, by decide⟩
  obtain ⟨_, s2⟩ := bitLen_lt (x := n.toNat) (by omega) (by omega)
  unfold bitsI at hb
  have e : Go.Lib.bitLen n.toNat ≤ 2 * b := by omega
  have p := Nat.pow_le_pow_right (n := 2) (by decide) e
  have q : (2 : Nat) ^ (2 * b) = 2 ^ b * 2 ^ b := by rw [Nat.two_mul, Nat.pow_add]
  have r : n.toNat < 2 ^ b * 2 ^ b := by omega
  have t : ((n.toNat : Nat) : Int) < ((2 ^ b * 2 ^ b : Nat) : Int) := by exact_mod_cast r
  rw [Int.natCast_mul, Int.natCast_pow] at t
  simp only [Int.zero_add]
  have : ((2 : Nat) : Int) = 2 := rfl
  rw [this] at t
  omega

theorem RootAt.pow {n r : Int} {j : Nat} (h : RootAt n (j + 1) r) (_ : j < 32) : bits .or .i64 r (2 ^ j) = r + 2 ^ j := by
  obtain ⟨⟨q, rfl⟩, _, _, h⟩ := h
  have hq : q * 2 ^ (j + 1) < 2 ^ 32 := by exact_mod_cast h
  have e : ((2 ^ j : Nat) : Int) = 2 ^ j := by rw [Int.natCast_pow]; rfl
  rw [← e, or_bit q j hq ‹_›, Int.natCast_add]

theorem RootAt.nonneg {n r : Int} {b : Nat} (h : RootAt n b r) : 0 ≤ r := by
  obtain ⟨⟨q, rfl⟩, _⟩ := h
  exact Int.natCast_nonneg _

theorem pow_pos' (j : Nat) : (0 : Int) < 2 ^ j := Int.pow_pos (by decide)
theorem pow_le' {j : Nat} (h : j < 32) : (2 : Int) ^ j ≤ 2147483648 := by
  have : (2 : Nat) ^ j ≤ 2 ^ 31 := Nat.pow_le_pow_right (by decide) (by omega)
  have t : ((2 ^ j : Nat) : Int) ≤ ((2 ^ 31 : Nat) : Int) := by exact_mod_cast this
  rw [Int.natCast_pow] at t
  exact t

theorem RootAt.yes {n r : Int} {j : Nat} (h : RootAt n (j + 1) r) (hn : 0 ≤ n) (h1 : n ≤ 9223372036854775807) (c : r + 2 ^ j ≤ n / (r + 2 ^ j)) : RootAt n j (r + 2 ^ j) := by
  have h0 := h.nonneg
  have hp := pow_pos' j
  obtain ⟨⟨q, hq⟩, a, b, d⟩ := h
  have m : (r + 2 ^ j) * (r + 2 ^ j) ≤ n := by
    have := (Int.le_ediv_iff_mul_le (show 0 < r + 2 ^ j by omega)).1 c
    exact this
  refine ⟨⟨2 * q + 1, ?_⟩, m, ?_, ?_⟩
  · rw [hq, Nat.pow_succ]
    have : (2 * q + 1) * 2 ^ j = q * (2 ^ j * 2) + 2 ^ j := by rw [Nat.add_mul, Nat.one_mul, Nat.mul_comm (2 ^ j) 2, ← Nat.mul_assoc, Nat.mul_comm q 2]
    rw [this, Int.natCast_add, Int.natCast_pow]; rfl
  · have e : r + 2 ^ (j + 1) = r + 2 ^ j + 2 ^ j := by rw [Int.pow_succ]; omega
    rw [e] at b
    exact b
  · rcases Int.lt_or_le (r + 2 ^ j) (2 ^ 32) with g | g
    · exact g
    · have := Int.mul_le_mul g g (by decide) (by omega)
      omega

theorem RootAt.no {n r : Int} {j : Nat} (h : RootAt n (j + 1) r) (c : ¬ r + 2 ^ j ≤ n / (r + 2 ^ j)) : RootAt n j r := by
  have h0 := h.nonneg
  have hp := pow_pos' j
  obtain ⟨⟨q, hq⟩, a, b, d⟩ := h
  refine ⟨⟨2 * q, ?_⟩, a, ?_, d⟩
  · rw [hq, Nat.pow_succ]
    have : 2 * q * 2 ^ j = q * (2 ^ j * 2) := by rw [Nat.mul_comm (2 ^ j) 2, ← Nat.mul_assoc, Nat.mul_comm q 2]
    rw [this]
  · rcases Int.lt_or_le n ((r + 2 ^ j) * (r + 2 ^ j)) with g | g
    · exact g
    · exact absurd ((Int.le_ediv_iff_mul_le (show 0 < r + 2 ^ j by omega)).2 g) c

theorem RootAt.end_ {n r : Int} (h : RootAt n 0 r) : rootI n = r := by
  have h0 := h.nonneg
  obtain ⟨_, a, b, _⟩ := h
  exact rootI_unique h0 a (by simpa using b)

set_option maxHeartbeats 1000000 in
theorem root_any (n : Int) (w : World) (h1 : n ≤ 9223372036854775807) :
    Calls Tryz.prog 212 #[.int .i64 n] w fun e w' => e = .returned (.int .i64 (rootI n)) ∧ w = w' := by
  have hb0 := bitsI_nonneg n
  have hb1 := bitsI_le h1
  by_cases hn : 0 < n
  · go_enter Tryz.func212, Tryz.ntmps212
    go_wp2_with (go_at_call 250; refine (bits_any _ _ (by omega)).mono ?_; rintro e w' ⟨rfl, rfl⟩)
    go_loop [3, 4] (fun r t => ∃ (b : Nat) (x : Int), b ≤ 32 ∧ r = .int .i64 x ∧ t = .int .i64 ((b : Int) - 1) ∧ RootAt n b x) (fun _ t => (intOf t + 1).toNat)
    case atStart => exact ⟨(bitsI n / 2 + 1).toNat, 0, by omega, rfl, by congr 1; omega, RootAt.start hn h1 (by omega)⟩
    case round =>
      obtain ⟨b, r, hb, rfl, rfl, H0⟩ := hrel
      rcases b with _ | j
      · have H := Lib.hid H0.end_
        clear H0
        go_wp2
        go_ret
        exact ⟨ret_int H.out.symm, rfl⟩
      · have hj : j < 32 := by omega
        have E := H0.pow hj
        have p0 := pow_pos' j
        have p1 := pow_le' hj
        have r0 := H0.nonneg
        have r1 : r < 4294967296 := H0.2.2.2
        have H := Lib.hid H0
        clear H0
        by_cases c : r + 2 ^ j ≤ n / (r + 2 ^ j)
        · go_wp2
          go_round
          case rel => exact ⟨j, _, by omega, rfl, by go_num, H.out.yes (by omega) h1 c⟩
          case measure => simp [intOf]
        · go_wp2
          go_round
          case rel => exact ⟨j, _, by omega, rfl, by go_num, H.out.no c⟩
          case measure => simp [intOf]
  · have H := Lib.hid (rootI_low (n := n) (by omega))
    go_enter Tryz.func212, Tryz.ntmps212
    go_wp2_with (go_at_call 250; refine (bits_any _ _ (by omega)).mono ?_; rintro e w' ⟨rfl, rfl⟩)
    go_loop [3, 4] (fun r t => ∃ (b : Nat), b ≤ 32 ∧ r = .int .i64 0 ∧ t = .int .i64 ((b : Int) - 1)) (fun _ t => (intOf t + 1).toNat)
    case atStart => exact ⟨(bitsI n / 2 + 1).toNat, by omega, rfl, by congr 1; omega⟩
    case round =>
      obtain ⟨b, hb, rfl, rfl⟩ := hrel
      rcases b with _ | j
      · go_wp2
        go_ret
        exact ⟨ret_int H.out.symm, rfl⟩
      · have hj : j < 32 := by omega
        have p0 := pow_pos' j
        have p1 := pow_le' hj
        go_wp2
        go_round
        case rel => exact ⟨j, by omega, rfl, by go_num⟩
        case measure => simp [intOf]

end Go.Proofs.YtblajeildolloaaGreat

/- (The draws kept.) The walks of package part. -/
namespace Go.Proofs.YtblajeildolloaaGreat
set_option linter.unusedVariables false
set_option linter.unusedSimpArgs false
open Go.RowKit
attribute [local go_sem] max2_int max_two min2_int min_two

theorem may_yes (n : Int) (w : World) (h0 : 0 ≤ n) (h1 : n ≤ 16384) : Calls Tryz.prog 160 #[.int .i64 n] w fun e w' => e = .returned (.bool true) ∧ w = w' := by
  go_enter Tryz.func160, Tryz.ntmps160
  go_wp2
  go_ret
  exact ⟨rfl, rfl⟩
theorem may_no (n : Int) (w : World) (h : n < 0 ∨ 16384 < n) : Calls Tryz.prog 160 #[.int .i64 n] w fun e w' => e = .returned (.bool false) ∧ w = w' := by
  rcases h with h | h
  · go_enter Tryz.func160, Tryz.ntmps160
    go_wp2
    go_ret
    exact ⟨rfl, rfl⟩
  · have h0 : 0 ≤ n := by omega
    have hd : decide (n ≤ 16384) = false := decide_eq_false (by omega)
    go_enter Tryz.func160, Tryz.ntmps160
    go_wp2
    go_ret
    exact ⟨rfl, rfl⟩

theorem pDegree_any (n : Int) (w : World) (h0 : -9223372036854775808 ≤ n) (h1 : n ≤ 9223372036854775807) : Calls Tryz.prog 162 #[.int .i64 n] w fun e w' => e = .returned (.int .i64 (degreeI n)) ∧ w = w' := by
  by_cases h : n < 0 ∨ 16384 < n
  · have H := Lib.hid (degreeI_none (n := n) (by omega))
    go_enter Tryz.func162, Tryz.ntmps162
    go_wp2_with (go_at_call 160; refine (may_no _ _ h).mono ?_; rintro e w' ⟨rfl, rfl⟩)
    go_ret
    exact ⟨ret_int H.out.symm, rfl⟩
  · by_cases g : n < 2
    · have H := Lib.hid (degreeI_none (n := n) (by omega))
      go_enter Tryz.func162, Tryz.ntmps162
      go_wp2_with (go_at_call 160; refine (may_yes _ _ (by omega) (by omega)).mono ?_; rintro e w' ⟨rfl, rfl⟩)
      go_ret
      exact ⟨ret_int H.out.symm, rfl⟩
    · have H : (if 2 < rootI n then rootI n else 2) = degreeI n := by unfold degreeI; rw [if_neg (show ¬ (n < 2 ∨ 16384 < n) by omega)]
      go_enter Tryz.func162, Tryz.ntmps162
      go_wp2_with (first | (go_at_call 160; refine (may_yes _ _ (by omega) (by omega)).mono ?_; rintro e w' ⟨rfl, rfl⟩) | (go_at_call 212; refine (root_any _ _ (by omega)).mono ?_; rintro e w' ⟨rfl, rfl⟩))
      go_ret
      exact ⟨rfl, rfl⟩

theorem pLimit_any (n : Int) (w : World) (h0 : -9223372036854775808 ≤ n) (h1 : n ≤ 9223372036854775807) : Calls Tryz.prog 270 #[.int .i64 n] w fun e w' => e = .returned (.int .i64 (limitI n)) ∧ w = w' := by
  by_cases h : n < 0 ∨ 16384 < n
  · have H := Lib.hid (show limitI n = 0 from if_pos h)
    go_enter Tryz.func270, Tryz.ntmps270
    go_wp2_with (go_at_call 160; refine (may_no _ _ h).mono ?_; rintro e w' ⟨rfl, rfl⟩)
    go_ret
    exact ⟨ret_int H.out.symm, rfl⟩
  · have H := Lib.hid (show limitI n = n / 4 + 2 from if_neg h)
    have g0 : 0 ≤ n := by omega
    have g1 : n ≤ 16384 := by omega
    go_enter Tryz.func270, Tryz.ntmps270
    go_wp2_with (go_at_call 160; refine (may_yes _ _ (by omega) (by omega)).mono ?_; rintro e w' ⟨rfl, rfl⟩)
    go_ret
    exact ⟨ret_int H.out.symm, rfl⟩

theorem pSize_any (n i : Int) (w : World) (h0 : -9223372036854775808 ≤ n) (h1 : n ≤ 9223372036854775807) (i0 : -9223372036854775808 ≤ i) (i1 : i ≤ 9223372036854775807) : Calls Tryz.prog 166 #[.int .i64 n, .int .i64 i] w fun e w' => e = .returned (.int .i64 (sizeI n i)) ∧ w = w' := by
  by_cases h : i < 0
  · have H := Lib.hid (sizeI_out (n := n) (i := i) (.inl h))
    go_enter Tryz.func166, Tryz.ntmps166
    go_wp2_with (go_at_call 162; refine (pDegree_any _ _ (by omega) (by omega)).mono ?_; rintro e w' ⟨rfl, rfl⟩)
    go_ret
    exact ⟨ret_int H.out.symm, rfl⟩
  · by_cases g : degreeI n ≤ i
    · have H := Lib.hid (sizeI_out (n := n) (i := i) (.inr g))
      go_enter Tryz.func166, Tryz.ntmps166
      go_wp2_with (go_at_call 162; refine (pDegree_any _ _ (by omega) (by omega)).mono ?_; rintro e w' ⟨rfl, rfl⟩)
      go_ret
      exact ⟨ret_int H.out.symm, rfl⟩
    · have hd : degreeI n ≠ 0 := by omega
      have hn : ¬ (n < 2 ∨ 16384 < n) := fun g => hd (degreeI_none g)
      clear hd
      obtain ⟨s1, s2, s3⟩ := sizeI_in (n := n) (i := i) (by omega) (by omega) (by omega) (by omega)
      obtain ⟨p1, p2, p3, p4, p5, p6⟩ := parts (n := n) (by omega) (by omega)
      obtain ⟨d0, d1, d2⟩ := degreeI_bd (n := n) (by omega) (by omega)
      have n0 : 0 ≤ n := by omega
      clear p1 p6
      by_cases c : i < n % degreeI n
      · rw [if_pos c] at s1
        have H := Lib.hid s1
        clear s1
        go_enter Tryz.func166, Tryz.ntmps166
        go_wp2_with (go_at_call 162; refine (pDegree_any _ _ (by omega) (by omega)).mono ?_; rintro e w' ⟨rfl, rfl⟩)
        go_ret
        exact ⟨ret_int H.out.symm, rfl⟩
      · rw [if_neg c] at s1
        have H := Lib.hid s1
        clear s1
        go_enter Tryz.func166, Tryz.ntmps166
        go_wp2_with (go_at_call 162; refine (pDegree_any _ _ (by omega) (by omega)).mono ?_; rintro e w' ⟨rfl, rfl⟩)
        go_ret
        exact ⟨ret_int H.out.symm, rfl⟩

set_option maxHeartbeats 400000 in
theorem sizes_any (n : Int) (w : World) (h0 : 2 ≤ n) (h1 : n ≤ 16384) : Calls Tryz.prog 161 #[.int .i64 n] w fun e w' => e = .returned (.tuple #[.int .i64 (n % degreeI n), .int .i64 (n / degreeI n + 1), .int .i64 (degreeI n - n % degreeI n), .int .i64 (n / degreeI n)]) ∧ Drawn w w' := by
  obtain ⟨p1, p2, p3, p4, p5, p6⟩ := parts (n := n) (by omega) (by omega)
  obtain ⟨d0, d1, d2⟩ := degreeI_bd (n := n) (by omega) (by omega)
  clear p1 p6
  go_enter Tryz.func161, Tryz.ntmps161
  go_wp2_with (go_at_call 162; refine (pDegree_any _ _ (by omega) (by omega)).mono ?_; rintro e w' ⟨rfl, rfl⟩)
  go_quiet (fail)
  go_wp2
  exact bodyPost_ret (v := .tuple #[.int .i64 (n % degreeI n), .int .i64 (n / degreeI n + 1), .int .i64 (degreeI n - n % degreeI n), .int .i64 (n / degreeI n)]) (by simp [results, Tryz.results161, go_sem]) rfl ⟨rfl, Drawn.of _ _⟩

set_option maxHeartbeats 400000 in
theorem from_in (n i : Int) (w : World) (h0 : 2 ≤ n) (h1 : n ≤ 16384) (i0 : 0 ≤ i) (i1 : i < degreeI n) : Calls Tryz.prog 165 #[.int .i64 n, .int .i64 i] w fun e w' => e = .returned (.int .i64 (fromI n i)) ∧ Drawn w w' := by
  obtain ⟨p1, p2, p3, p4, p5, p6⟩ := parts (n := n) (by omega) (by omega)
  obtain ⟨d0, d1, d2⟩ := degreeI_bd (n := n) (by omega) (by omega)
  have H := Lib.hid (show fromI n i = n / degreeI n * i + minI i (n % degreeI n) from if_neg (by omega))
  have m0 : 0 ≤ n / degreeI n * i := Int.mul_nonneg (by omega) i0
  have m1 : n / degreeI n * i ≤ n / degreeI n * degreeI n := Int.mul_le_mul_of_nonneg_left (by omega) (by omega)
  have m2 : n / degreeI n * i ≤ 16384 := by rw [Int.mul_comm (n / degreeI n) (degreeI n)] at m1; omega
  have hm : (if n % degreeI n < i then n % degreeI n else i) = minI i (n % degreeI n) := rfl
  have hm0 : 0 ≤ minI i (n % degreeI n) := by unfold minI; split <;> omega
  have hm1 : minI i (n % degreeI n) ≤ 128 := by unfold minI; split <;> omega
  clear p1 p6 m1
  go_enter Tryz.func165, Tryz.ntmps165
  go_wp2_with (go_at_call 162; refine (pDegree_any _ _ (by omega) (by omega)).mono ?_; rintro e w' ⟨rfl, rfl⟩)
  go_quiet (fail)
  go_wp2
  go_ret
  exact ⟨ret_int H.out.symm, Drawn.of _ _⟩
theorem from_out (n i : Int) (w : World) (h0 : -9223372036854775808 ≤ n) (h1 : n ≤ 9223372036854775807) (h : i < 0 ∨ degreeI n ≤ i) : Calls Tryz.prog 165 #[.int .i64 n, .int .i64 i] w fun e w' => e = .returned (.int .i64 (fromI n i)) ∧ Drawn w w' := by
  have H := Lib.hid (show fromI n i = 0 from if_pos h)
  by_cases g : i < 0
  · clear h
    go_enter Tryz.func165, Tryz.ntmps165
    go_wp2_with (go_at_call 162; refine (pDegree_any _ _ (by omega) (by omega)).mono ?_; rintro e w' ⟨rfl, rfl⟩)
    go_ret
    exact ⟨ret_int H.out.symm, Drawn.refl _⟩
  · have k : degreeI n ≤ i := by omega
    clear h
    go_enter Tryz.func165, Tryz.ntmps165
    go_wp2_with (go_at_call 162; refine (pDegree_any _ _ (by omega) (by omega)).mono ?_; rintro e w' ⟨rfl, rfl⟩)
    go_ret
    exact ⟨ret_int H.out.symm, Drawn.refl _⟩
theorem pFrom_any (n i : Int) (w : World) (h0 : -9223372036854775808 ≤ n) (h1 : n ≤ 9223372036854775807) : Calls Tryz.prog 165 #[.int .i64 n, .int .i64 i] w fun e w' => e = .returned (.int .i64 (fromI n i)) ∧ Drawn w w' := by
  by_cases h : i < 0 ∨ degreeI n ≤ i
  · exact from_out n i w h0 h1 h
  · have hd : degreeI n ≠ 0 := by omega
    have hn : ¬ (n < 2 ∨ 16384 < n) := fun g => hd (degreeI_none g)
    exact from_in n i w (by omega) (by omega) (by omega) (by omega)

set_option maxHeartbeats 1000000 in
theorem cells_go (k : Nat) : ∀ (n : Int) (w : World), n ≤ k → -9223372036854775808 ≤ n → n ≤ 9223372036854775807 →
    Calls Tryz.prog 100 #[.int .i64 n] w fun e w' => e = .returned (.int .i64 (cellsI n)) ∧ Drawn w w' := by
  induction k with
  | zero =>
    intro n w hk h0 h1
    by_cases g : n < 0
    · have H := Lib.hid (cellsI_none (n := n) (by omega))
      go_enter Tryz.func100, Tryz.ntmps100
      go_wp2_with (go_at_call 160; refine (may_no _ _ (by omega)).mono ?_; rintro e w' ⟨rfl, rfl⟩)
      go_ret
      exact ⟨ret_int H.out.symm, Drawn.refl _⟩
    · obtain rfl : n = 0 := by omega
      go_enter Tryz.func100, Tryz.ntmps100
      go_wp2_with (go_at_call 160; refine (may_yes _ _ (by omega) (by omega)).mono ?_; rintro e w' ⟨rfl, rfl⟩)
      go_ret
      exact ⟨ret_int cellsI_zero.symm, Drawn.refl _⟩
  | succ k ih =>
    intro n w hk h0 h1
    by_cases g : n < 0 ∨ 16384 < n
    · have H := Lib.hid (cellsI_none (n := n) (by omega))
      go_enter Tryz.func100, Tryz.ntmps100
      go_wp2_with (go_at_call 160; refine (may_no _ _ g).mono ?_; rintro e w' ⟨rfl, rfl⟩)
      go_ret
      exact ⟨ret_int H.out.symm, Drawn.refl _⟩
    · by_cases z : n = 0
      · subst z
        clear g
        go_enter Tryz.func100, Tryz.ntmps100
        go_wp2_with (go_at_call 160; refine (may_yes _ _ (by omega) (by omega)).mono ?_; rintro e w' ⟨rfl, rfl⟩)
        go_ret
        exact ⟨ret_int cellsI_zero.symm, Drawn.refl _⟩
      · by_cases u : n = 1
        · subst u
          clear g z
          go_enter Tryz.func100, Tryz.ntmps100
          go_wp2_with (go_at_call 160; refine (may_yes _ _ (by omega) (by omega)).mono ?_; rintro e w' ⟨rfl, rfl⟩)
          go_ret
          exact ⟨ret_int cellsI_one.symm, Drawn.refl _⟩
        · have g0 : 2 ≤ n := by omega
          have g1 : n ≤ 16384 := by omega
          have z' : (n == 0) = false := by simpa using z
          have u' : (n == 1) = false := by simpa using u
          clear g z u
          obtain ⟨p1, p2, p3, p4, p5, p6⟩ := parts (n := n) (by omega) (by omega)
          obtain ⟨d0, d1, d2⟩ := degreeI_bd (n := n) (by omega) (by omega)
          have E := cellsI_eq g0 g1
          obtain ⟨q0, q1⟩ := cellsI_in (n := n / degreeI n) (by omega) (by omega)
          have hG := Drawn.refl w
          have m0 : 0 ≤ (degreeI n - n % degreeI n) * cellsI (n / degreeI n) := Int.mul_nonneg (by omega) (by omega)
          have m1 : (degreeI n - n % degreeI n) * cellsI (n / degreeI n) ≤ 128 * 163840 := Int.mul_le_mul (by omega) (by omega) (by omega) (by omega)
          by_cases c : 0 < n % degreeI n
          · have c' := p6 c
            rw [if_pos c] at E
            have H := Lib.hid E
            obtain ⟨r0, r1⟩ := cellsI_in (n := n / degreeI n + 1) (by omega) (by omega)
            have v0 : 0 ≤ n % degreeI n * cellsI (n / degreeI n + 1) := Int.mul_nonneg (by omega) (by omega)
            have v1 : n % degreeI n * cellsI (n / degreeI n + 1) ≤ 128 * 163840 := Int.mul_le_mul (by omega) (by omega) (by omega) (by omega)
            clear E p1 p6
            go_enter Tryz.func100, Tryz.ntmps100
            go_wp2_with (first | (go_at_call 160; refine (may_yes _ _ (by omega) (by omega)).mono ?_; rintro e w' ⟨rfl, rfl⟩) | (go_at_call 162; refine (pDegree_any _ _ (by omega) (by omega)).mono ?_; rintro e w' ⟨rfl, rfl⟩) | (go_at_call 161; refine (sizes_any _ _ g0 g1).mono ?_; rintro e w' ⟨rfl, hg⟩; replace hG := Drawn.trans hG hg; clear hg) | (go_at_call 100; refine (ih _ _ (by omega) (by omega) (by omega)).mono ?_; rintro e w' ⟨rfl, hg⟩; replace hG := Drawn.trans hG hg; clear hg))
            go_ret
            exact ⟨ret_int H.out.symm, hG⟩
          · rw [if_neg c, Int.add_zero] at E
            have H := Lib.hid E
            clear E p1 p6
            go_enter Tryz.func100, Tryz.ntmps100
            go_wp2_with (first | (go_at_call 160; refine (may_yes _ _ (by omega) (by omega)).mono ?_; rintro e w' ⟨rfl, rfl⟩) | (go_at_call 162; refine (pDegree_any _ _ (by omega) (by omega)).mono ?_; rintro e w' ⟨rfl, rfl⟩) | (go_at_call 161; refine (sizes_any _ _ g0 g1).mono ?_; rintro e w' ⟨rfl, hg⟩; replace hG := Drawn.trans hG hg; clear hg) | (go_at_call 100; refine (ih _ _ (by omega) (by omega) (by omega)).mono ?_; rintro e w' ⟨rfl, hg⟩; replace hG := Drawn.trans hG hg; clear hg))
            go_ret
            exact ⟨ret_int H.out.symm, hG⟩
theorem pCells_any (n : Int) (w : World) (h0 : -9223372036854775808 ≤ n) (h1 : n ≤ 9223372036854775807) :
    Calls Tryz.prog 100 #[.int .i64 n] w fun e w' => e = .returned (.int .i64 (cellsI n)) ∧ Drawn w w' := cells_go n.toNat n w (by omega) h0 h1
end Go.Proofs.YtblajeildolloaaGreat
