/- Words: what a method turns. -/
import Derived.Test.YtblajeildolloaaWords
import Derived.Test.YtblajeildolloaaSpan
import Derived.WalkSmall
import Derived.OneCell
namespace Go.Proofs.Ytblajeildolloaa
set_option linter.unusedVariables false
set_option linter.unusedSimpArgs false
open Go.RowKit

/-- Nothing but block b and the row has been turned. -/
structure Mv (b : Nat) (r : Option Nat) (w w' : World) : Prop where
  os : w'.os = w.os
  tape : w'.tape = w.tape
  output : w'.output = w.output
  size : w.heap.size ≤ w'.heap.size
  block : ∀ k, k < w.heap.size → k ≠ b → some k ≠ r → w'.heap[k]? = w.heap[k]?
theorem Mv.below {b base : Nat} {r : Option Nat} {w w' : World} (h : Mv b r w w') (hb : base ≤ b) (hs : base ≤ w.heap.size) (hr : ∀ g, r = some g → base ≤ g) : Below base w w' :=
  ⟨h.os, h.tape, h.output, h.size, fun k hk => h.block k (by omega) (by omega) (fun e => by have := hr k e.symm; omega)⟩
theorem Mv.of_grown {b : Nat} {r : Option Nat} {w w' : World} (h : w.grownBy w' r) (u : Value) : Mv b r w (w'.setCell ⟨b, 0, none⟩ u) :=
  ⟨h.os, h.tape, h.output, by simpa using h.size, fun k hk hb hr => (Below.heap_setCell w' _ u k (by simpa using hb)).trans (h.block k hk hr)⟩
theorem Mv.blk {b : Nat} {r : Option Nat} {w w' : World} (h : Mv b r w w') {g : Nat} {t : TypeId} {cs : Array Value} (hB : Blk w g t cs) (h1 : g ≠ b) (h2 : some g ≠ r) : Blk w' g t cs := (h.block g hB.lt h1 h2).trans hB
theorem Mv.own {b : Nat} {r : Option Nat} {w w' : World} (h : Mv b r w w') {base : Nat} {e : TypeId} {size n : Nat} {v : Value} {xs : List Value} (hO : w.ownsRow base e size v n xs) (h1 : v.ownBlock ≠ some b) (h2 : v.ownBlock = none ∨ v.ownBlock ≠ r) : w'.ownsRow base e size v n xs := by
  refine ⟨hO.1, ?_⟩
  rcases hO.2 with hn | ⟨g, cap, cur, rfl, hb, hgg, rest⟩
  · exact .inl hn
  · refine .inr ⟨g, cap, cur, rfl, hb, ?_, rest⟩
    rw [h.block g (Array.getElem?_eq_some_iff.1 hgg).1 (fun e => h1 (by simp [Value.ownBlock, e])) (by simpa [Value.ownBlock] using h2)]
    exact hgg
theorem own_shape {w : World} {base n : Nat} {e : TypeId} {size : Nat} {v : Value} {xs : List Value} (hO : w.ownsRow base e size v n xs) : ∃ A c, v = .slice A n c := by
  rcases hO.2 with ⟨rfl, rfl⟩ | ⟨g, cap, cur, rfl, _⟩
  · exact ⟨_, _, rfl⟩
  · exact ⟨_, _, rfl⟩
theorem reads_one (w : World) (t : TypeId) (a : Value) : Reads (w.alloc (.cells #[a] t)) (w.heap.size + 1) 1 (some ⟨w.heap.size, 0, none⟩) 1 [a] := by
  refine ⟨rfl, fun _ => ⟨_, rfl, Nat.lt_succ_self _, fun j u hu => ?_⟩⟩
  rcases j with _ | j
  · simp at hu; subst hu; simp [Addr.add, World.cell?_alloc_at]
  · simp at hu
theorem one_of (x : Value) (h : x.oneCell' = true) : ∀ u ∈ [x], u.oneCell' = true := fun u hu => by
  rw [List.mem_singleton.1 hu]; exact h
theorem drawn_bl {w w' : World} (h : Drawn w w') (B : Nat) : Below B w w' := by
  obtain ⟨n, rfl⟩ := h
  exact ⟨rfl, rfl, rfl, Nat.le_refl _, fun _ _ => rfl⟩
theorem Mv.after {b : Nat} {r : Option Nat} {w V w' : World} (h : Below w.heap.size w V) (k : Mv b r V w') : Mv b r w w' :=
  ⟨k.os.trans h.os, k.tape.trans h.tape, k.output.trans h.output, Nat.le_trans h.size k.size, fun i hi h1 h2 => (k.block i (Nat.lt_of_lt_of_le hi h.size) h1 h2).trans (h.block i hi)⟩
theorem own_cap {w : World} {base n c : Nat} {e : TypeId} {size : Nat} {A : Option Addr} {xs : List Value} (hO : w.ownsRow base e size (.slice A n c) n xs) : n ≤ c := by
  rcases hO.2 with ⟨h, h0⟩ | ⟨g, cap, cur, h, _, _, hle, _⟩
  · omega
  · injection h with _ _ hc; omega
theorem map_snoc {α : Type} (f : α → Value) (L : List α) (x : α) : (L ++ [x]).map f = L.map f ++ [f x] := by simp

theorem own_kept {base n : Nat} {e : TypeId} {size : Nat} {v : Value} {xs : List Value} {w w' : World} (hO : w.ownsRow base e size v n xs) {row : Option Nat} (hg : w.grownBy w' row) (h : v.ownBlock = none ∨ v.ownBlock ≠ row) : w'.ownsRow base e size v n xs := by
  refine ⟨hO.1, ?_⟩
  rcases hO.2 with hn | ⟨g, cap, cur, rfl, hb, hgg, rest⟩
  · exact .inl hn
  · refine .inr ⟨g, cap, cur, rfl, hb, ?_, rest⟩
    rw [hg.block g (Array.getElem?_eq_some_iff.1 hgg).1 (by simpa [Value.ownBlock] using h)]
    exact hgg
theorem own_new {v v' : Value} {n : Nat} (h : v'.ownBlock = v.ownBlock ∨ v'.ownBlock = some n) {u : Value} (hu : u.ownBlock = none ∨ u.ownBlock ≠ v.ownBlock) (hn : ∀ g, u.ownBlock = some g → g < n) : u.ownBlock = none ∨ u.ownBlock ≠ v'.ownBlock := by
  rcases hu with hu | hu
  · exact .inl hu
  · rcases h with h | h
    · rw [h]; exact .inr hu
    · rw [h]
      exact .inr fun e => by have := hn n e; omega

theorem dj_symm {a b : Option Nat} (h : a = none ∨ a ≠ b) : b = none ∨ b ≠ a := by
  rcases b with _ | b
  · exact .inl rfl
  · rcases h with h | h
    · right; rw [h]; simp
    · exact .inr fun e => h e.symm
theorem dj_push {v vs vs' : Value} {n : Nat} (ob : vs'.ownBlock = vs.ownBlock ∨ vs'.ownBlock = some (n + 1)) (hdj : v.ownBlock = none ∨ v.ownBlock ≠ vs.ownBlock) (hO : ∀ g, v.ownBlock = some g → g < n) : vs'.ownBlock = none ∨ vs'.ownBlock ≠ v.ownBlock := by
  rcases ob with h | h
  · rw [h]; exact dj_symm hdj
  · rw [h]
    exact .inr fun e => by have := hO _ e.symm; omega
theorem own_below {base n : Nat} {e : TypeId} {size : Nat} {v : Value} {xs : List Value} {w w' : World} (hO : w.ownsRow base e size v n xs) (hb : Below w.heap.size w w') : w'.ownsRow base e size v n xs :=
  hO.kept ⟨hb.os, hb.tape, hb.output, hb.size, fun k hk _ => hb.block k hk⟩ (row := none) (by cases v.ownBlock <;> simp)
end Go.Proofs.Ytblajeildolloaa
