/- Place, Put, Wide: lists of pairs. -/
import Derived.Test.YtblajeildolloaaPath
namespace Go.Proofs.Ytblajeildolloaa
set_option linter.unusedVariables false
set_option linter.unusedSimpArgs false
open Go.RowKit

def cellsP (L : List (Int × Int)) : List Value := L.flatMap fun p => [.int .i64 p.1, .int .i64 p.2]
theorem cellsP_len : ∀ L, (cellsP L).length = L.length * 2
  | [] => rfl
  | p :: L => by
    have := cellsP_len L
    simp [cellsP] at this ⊢
    omega
theorem cellsP_append (a b : List (Int × Int)) : cellsP (a ++ b) = cellsP a ++ cellsP b := by simp [cellsP]
def pkey (L : List (Int × Int)) (i : Nat) : Int := (L.getD i (0, 0)).1
def PairsAt (w : World) (B : Nat) (A : Option Addr) (L : List (Int × Int)) : Prop := Reads w B 2 A L.length (cellsP L)
theorem cellsP_key : ∀ {L : List (Int × Int)} {i : Nat}, i < L.length → (cellsP L)[i * 2]? = some (.int .i64 (pkey L i))
  | [], i, h => absurd h (by simp)
  | p :: L, 0, h => by simp [cellsP, pkey]
  | p :: L, i + 1, h => by
    have := cellsP_key (L := L) (i := i) (by simpa using h)
    have e : (i + 1) * 2 = i * 2 + 1 + 1 := by omega
    rw [e]
    simp [cellsP, pkey] at this ⊢
    exact this
theorem PairsAt.key {w : World} {B : Nat} {A : Option Addr} {L : List (Int × Int)} (h : PairsAt w B A L) (hl : 0 < L.length) : ∃ ad, A = some ad ∧ ad.block < B ∧ ∀ i, i < L.length → w.cell? (ad.add (i * 2)) = some (.int .i64 (pkey L i)) := by
  obtain ⟨ad, e, hb, hc⟩ := h.2 hl
  exact ⟨ad, e, hb, fun i hi => hc _ _ (cellsP_key hi)⟩

/-- How many keys at the front are below k. -/
def placeP : List (Int × Int) → Int → Nat
  | [], _ => 0
  | p :: L, k => if p.1 < k then placeP L k + 1 else 0
theorem placeP_le : ∀ (L : List (Int × Int)) (k : Int), placeP L k ≤ L.length
  | [], k => Nat.le_refl _
  | p :: L, k => by
    have := placeP_le L k
    simp only [placeP, List.length_cons]
    split <;> omega
theorem placeP_at {k : Int} : ∀ {L : List (Int × Int)} {i : Nat}, i ≤ L.length → (∀ x, x < i → pkey L x < k) → (i < L.length → ¬ pkey L i < k) → placeP L k = i
  | [], i, h, _, _ => by simp at h; simp [placeP, h]
  | p :: L, 0, h, h1, h2 => by
    have := h2 (by simp)
    simp [pkey] at this
    simp only [placeP]
    rw [if_neg (by omega)]
  | p :: L, i + 1, h, h1, h2 => by
    have a := h1 0 (by omega)
    simp [pkey] at a
    simp only [placeP]
    rw [if_pos a, placeP_at (L := L) (i := i) (by simpa using h) (fun x hx => by have := h1 (x + 1) (by omega); simpa [pkey] using this) (fun hi => by have := h2 (by simpa using hi); simpa [pkey] using this)]

def putP (L : List (Int × Int)) (k v : Int) : List (Int × Int) := L.take (placeP L k) ++ [(k, v)] ++ L.drop (if placeP L k < L.length ∧ pkey L (placeP L k) = k then placeP L k + 1 else placeP L k)
def SomePairs (L : List (Int × Int)) (w : World) (e : Ending) (w' : World) : Prop := ∃ A c, e = .returned (.slice A L.length c) ∧ L.length ≤ c ∧ PairsAt w' w'.heap.size A L ∧ Below w.heap.size w w'
theorem PairsAt.take {w : World} {B : Nat} {A : Option Addr} {L : List (Int × Int)} {n : Nat} (h : PairsAt w B A L) (hn : n ≤ L.length) : Reads w B 2 A n (cellsP (L.take n)) := by
  refine ⟨by rw [cellsP_len, List.length_take]; omega, fun h0 => ?_⟩
  obtain ⟨ad, e, hb, hc⟩ := h.2 (by omega)
  refine ⟨ad, e, hb, fun j u hu => hc j u ?_⟩
  have := cellsP_append (L.take n) (L.drop n)
  rw [List.take_append_drop] at this
  rw [this, List.getElem?_append_left]
  · exact hu
  · rcases Nat.lt_or_ge j (cellsP (L.take n)).length with g | g
    · exact g
    · rw [List.getElem?_eq_none g] at hu; cases hu
theorem cellsP_drop : ∀ (L : List (Int × Int)) (n : Nat), (cellsP L).drop (n * 2) = cellsP (L.drop n)
  | L, 0 => by simp
  | [], n + 1 => by simp [cellsP]
  | p :: L, n + 1 => by
    have := cellsP_drop L n
    have e : (n + 1) * 2 = n * 2 + 1 + 1 := by omega
    rw [e]
    simp [cellsP] at this ⊢
    exact this
theorem cellsP_one {L : List (Int × Int)} : ∀ u ∈ cellsP L, u.oneCell' = true := by
  intro u hu
  simp [cellsP] at hu
  obtain ⟨a, b, _, rfl | rfl⟩ := hu <;> simp [Value.oneCell']
theorem info_pair : (Try.prog.info? 25).map (fun i => (i.zero, i.size, i.bytes)) = some (some (.agg #[.int .i64 0, .int .i64 0]), 2, 16) := by kernel_rfl
theorem run_storeCells_nil {P : Program} {w : World} (a : Addr) : (storeCells a []).run P w = .ok () w := by simp [storeCells]
theorem reads_pair (w : World) (t : TypeId) (a b : Value) : Reads (w.alloc (.cells #[a, b] t)) (w.heap.size + 1) 2 (some ⟨w.heap.size, 0, none⟩) 1 [a, b] := by
  refine ⟨rfl, fun _ => ⟨_, rfl, Nat.lt_succ_self _, fun j u hu => ?_⟩⟩
  rcases j with _ | _ | j
  · simp at hu; subst hu; rw [add_zero', World.cell?_alloc_at _ _ _ _ rfl] <;> rfl
  · simp at hu; subst hu; simp [Addr.add]; try (rw [World.cell?_alloc_at _ _ _ _ rfl] <;> rfl)
  · simp at hu

theorem PairsAt.keyAt {w : World} {B : Nat} {ad : Addr} {L : List (Int × Int)} (h : PairsAt w B (some ad) L) {i : Nat} (hi : i < L.length) : w.cell? (ad.add (i * 2)) = some (.int .i64 (pkey L i)) := by
  obtain ⟨ad', e, hb, hc⟩ := PairsAt.key h (by omega)
  injection e with e
  subst e
  exact hc i hi
theorem SomePairs.of_own {L : List (Int × Int)} {w w' : World} {base : Nat} {et : TypeId} {v : Value} {n : Nat} (h : w'.ownsRow base et 2 v n (cellsP L)) (hb : Below w.heap.size w w') : SomePairs L w (.returned v) w' := by
  have hn : n = L.length := by have := h.1; rw [cellsP_len] at this; omega
  subst hn
  rcases h.2 with ⟨rfl, h0⟩ | ⟨g, cap, cur, rfl, _, _, hle, _⟩
  · have : L = [] := List.eq_nil_of_length_eq_zero h0
    subst this
    exact ⟨none, 0, rfl, Nat.le_refl _, Reads.none_, hb⟩
  · exact ⟨_, cap, rfl, hle, Reads.of_own h, hb⟩
theorem PairsAt.cut {w : World} {B n : Nat} {ad : Addr} {L : List (Int × Int)} (h : PairsAt w B (some ad) L) (hn : n ≤ L.length) : Reads w B 2 (some (ad.add (n * 2))) (L.length - n) (cellsP (L.drop n)) := by
  have := Reads.cut h (k := n) (cap := L.length + n + 1) hn (by omega)
  rw [if_neg (by omega), cellsP_drop] at this
  exact this
theorem PairsAt.cut0 {w : World} {B n : Nat} {A : Option Addr} {L : List (Int × Int)} (h : PairsAt w B A L) (hn : n ≤ L.length) (he : L.length ≤ n) : Reads w B 2 A (L.length - n) (cellsP (L.drop n)) := by
  have e : L.length - n = 0 := by omega
  rw [e, List.drop_eq_nil_of_le he]
  exact ⟨rfl, fun h => absurd h (by omega)⟩
theorem put_cells {L : List (Int × Int)} {k v : Int} {n : Nat} (h : (if placeP L k < L.length ∧ pkey L (placeP L k) = k then placeP L k + 1 else placeP L k) = n) : cellsP (L.take (placeP L k)) ++ [.int .i64 k, .int .i64 v] ++ cellsP (L.drop n) = cellsP (putP L k v) := by
  subst h
  unfold putP
  simp [cellsP_append, cellsP]

section
attribute [local go_sem] run_storeCells_nil Sem.run_pure Array.toList_empty
end
end Go.Proofs.Ytblajeildolloaa
