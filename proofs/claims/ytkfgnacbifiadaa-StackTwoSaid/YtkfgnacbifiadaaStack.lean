/- The stack's methods. -/
import Derived.Test.YtkfgnacbifiadaaCut
import Derived.Test.YtkfgnacbifiadaaSpan
import Derived.Deep.QuietTactic
import Derived.BigQuiet
import Derived.Test.YtkfgnacbifiadaaWords
import Derived.WalkSmall
import Derived.OneCell
namespace Go.Proofs.Ytkfgnacbifiadaa
set_option linter.unusedVariables false
set_option linter.unusedSimpArgs false
open Go.RowKit

/-- Nothing but block b and the row has been turned. -/
structure Mv (b : Nat) (r : Option Nat) (w w' : World) : Prop where
  os : w'.os = w.os
  tape : w'.tape = w.tape
  output : w'.output = w.output
  size : w.heap.size ≤ w'.heap.size
  block : ∀ k, k < w.heap.size → k ≠ b → some k ≠ r → w'.heap[k]? = w.heap[k]?
theorem Mv.below {b base : Nat} {r : Option Nat} {w w' : World} (h : Mv b r w w') (hb : base ≤ b) (hs : base ≤ w.heap.size) (hr : ∀ g, r = some g → base ≤ g) : Below base w w' :=
  ⟨h.os, h.tape, h.output, h.size, fun k hk => h.block k (by omega) (by omega) (fun e => by have := hr k e.symm; omega)⟩
theorem Mv.of_grown {b : Nat} {r : Option Nat} {w w' : World} (h : w.grownBy w' r) (u : Value) : Mv b r w (w'.setCell ⟨b, 0, none⟩ u) :=
  ⟨h.os, h.tape, h.output, by simpa using h.size, fun k hk hb hr => (Below.heap_setCell w' _ u k (by simpa using hb)).trans (h.block k hk hr)⟩
theorem Mv.blk {b : Nat} {r : Option Nat} {w w' : World} (h : Mv b r w w') {g : Nat} {t : TypeId} {cs : Array Value} (hB : Blk w g t cs) (h1 : g ≠ b) (h2 : some g ≠ r) : Blk w' g t cs := (h.block g hB.lt h1 h2).trans hB
theorem Mv.own {b : Nat} {r : Option Nat} {w w' : World} (h : Mv b r w w') {base : Nat} {e : TypeId} {size n : Nat} {v : Value} {xs : List Value} (hO : w.ownsRow base e size v n xs) (h1 : v.ownBlock ≠ some b) (h2 : v.ownBlock = none ∨ v.ownBlock ≠ r) : w'.ownsRow base e size v n xs := by
  refine ⟨hO.1, ?_⟩
  rcases hO.2 with hn | ⟨g, cap, cur, rfl, hb, hgg, rest⟩
  · exact .inl hn
  · refine .inr ⟨g, cap, cur, rfl, hb, ?_, rest⟩
    rw [h.block g (Array.getElem?_eq_some_iff.1 hgg).1 (fun e => h1 (by simp [Value.ownBlock, e])) (by simpa [Value.ownBlock] using h2)]
    exact hgg
theorem own_shape {w : World} {base n : Nat} {e : TypeId} {size : Nat} {v : Value} {xs : List Value} (hO : w.ownsRow base e size v n xs) : ∃ A c, v = .slice A n c := by
  rcases hO.2 with ⟨rfl, rfl⟩ | ⟨g, cap, cur, rfl, _⟩
  · exact ⟨_, _, rfl⟩
  · exact ⟨_, _, rfl⟩
theorem reads_one (w : World) (t : TypeId) (a : Value) : Reads (w.alloc (.cells #[a] t)) (w.heap.size + 1) 1 (some ⟨w.heap.size, 0, none⟩) 1 [a] := by
  refine ⟨rfl, fun _ => ⟨_, rfl, Nat.lt_succ_self _, fun j u hu => ?_⟩⟩
  rcases j with _ | j
  · simp at hu; subst hu; simp [Addr.add, World.cell?_alloc_at]
  · simp at hu
theorem one_of (x : Value) (h : x.oneCell' = true) : ∀ u ∈ [x], u.oneCell' = true := fun u hu => by
  rw [List.mem_singleton.1 hu]; exact h
theorem drawn_bl {w w' : World} (h : Drawn w w') (B : Nat) : Below B w w' := by
  obtain ⟨n, rfl⟩ := h
  exact ⟨rfl, rfl, rfl, Nat.le_refl _, fun _ _ => rfl⟩
theorem Mv.after {b : Nat} {r : Option Nat} {w V w' : World} (h : Below w.heap.size w V) (k : Mv b r V w') : Mv b r w w' :=
  ⟨k.os.trans h.os, k.tape.trans h.tape, k.output.trans h.output, Nat.le_trans h.size k.size, fun i hi h1 h2 => (k.block i (Nat.lt_of_lt_of_le hi h.size) h1 h2).trans (h.block i hi)⟩
theorem own_cap {w : World} {base n c : Nat} {e : TypeId} {size : Nat} {A : Option Addr} {xs : List Value} (hO : w.ownsRow base e size (.slice A n c) n xs) : n ≤ c := by
  rcases hO.2 with ⟨h, h0⟩ | ⟨g, cap, cur, h, _, _, hle, _⟩
  · omega
  · injection h with _ _ hc; omega
theorem map_snoc {α : Type} (f : α → Value) (L : List α) (x : α) : (L ++ [x]).map f = L.map f ++ [f x] := by simp

/-! ### int -/
theorem info_int3 : (Try.prog.info? 3).map (fun i => (i.zero, i.size, i.bytes)) = some (some (.int .i64 0), 1, 8) := by kernel_rfl
structure StI (base b : Nat) (v : Value) (L : List Int) (w : World) : Prop where
  blk : Blk w b 51 #[v]
  own : w.ownsRow base 3 1 v L.length (L.map (Value.int .i64))
  base_le : base ≤ b
theorem StI.apart {base b : Nat} {v : Value} {L : List Int} {w : World} (h : StI base b v L w) : v.ownBlock ≠ some b := own_blk_ne h.own h.blk (by decide)
theorem StI.below {base b B : Nat} {v : Value} {L : List Int} {w w' : World} (h : StI base b v L w) (hb : Below B w w') (hB : w.heap.size ≤ B) : StI base b v L w' := by
  refine ⟨h.blk.below hb (Nat.lt_of_lt_of_le h.blk.lt hB), ?_, h.base_le⟩
  exact h.own.kept ⟨hb.os, hb.tape, hb.output, hb.size, fun k hk _ => hb.block k (Nat.lt_of_lt_of_le hk hB)⟩ (row := none) (by cases v.ownBlock <;> simp)

set_option maxHeartbeats 2000000 in
theorem pushI_any (base b : Nat) (v : Value) (L : List Int) (x : Int) (w : World) (h : StI base b v L w) (hl : L.length ≤ 1000) :
    Calls Try.prog 36 #[.pointer (some ⟨b, 0, none⟩), Value.int .i64 x] w fun e w' => e = .returned (.tuple #[]) ∧ ∃ v', StI base b v' (L ++ [x]) w' ∧ Mv b v.ownBlock w w' ∧ (v'.ownBlock = v.ownBlock ∨ v'.ownBlock = some (w.heap.size + 1)) := by
  obtain ⟨i0, hi0, hz0, hz1, hz2⟩ := info_parts info_int3
  have hc : w.cell? ⟨b, 0, none⟩ = some v := h.blk.cell 0
  have hf := h.blk.frozen 0
  have hbs : base ≤ w.heap.size := by have := h.base_le; have := h.blk.lt; omega
  have H := Lib.hid h
  have hO := h.own
  clear h
  go_enter Try.func36, Try.ntmps36
  go_wp2_with (at_builtin; refine wpList_append_any _ rfl _ _ 48 rfl base 3 i0 (.int .i64 0) 1 8 Try.underlying48 hi0 hz0 hz1 hz2 rfl (by decide) v L.length (L.map (Value.int .i64)) rfl (hO.alloc _) (w.heap.size + 1) (some ⟨w.heap.size, 0, none⟩) 1 1 [Value.int .i64 x] rfl (reads_one _ _ _) (one_of _ rfl) ?p1 ?p2 ?p3 ?_; (case p1 => (unfold maxLen; omega)); (case p2 => omega); (case p3 => (have := World.size_alloc w (.cells #[Value.int .i64 x] 3); omega)); intro v' w1 hO' hg hvb; obtain ⟨A1, c1, rfl⟩ := own_shape hO'; have hvb1 : (Value.slice A1 (L.length + 1) c1).ownBlock = v.ownBlock ∨ (Value.slice A1 (L.length + 1) c1).ownBlock = some (w.heap.size + 1) := (by simpa using hvb); clear hvb; have hB1 : Blk w1 b 51 #[v] := (H.out.blk.alloc _).grown hg (fun e => H.out.apart e.symm); have hf1 := hB1.frozen 0; have hc1 : w1.cell? ⟨b, 0, none⟩ = some v := hB1.cell 0)
  go_end0
  refine ⟨rfl, _, ⟨hB1.set_ 0 _, ?_, H.out.base_le⟩, ?_, hvb1⟩
  · have := ownsRow_setCell_other hO' (a := ⟨b, 0, none⟩) (fun e => own_blk_ne hO' hB1 (by decide) e) (Value.slice A1 (L.length + 1) c1)
    simpa using this
  · have hg2 : w.grownBy w1 v.ownBlock := (World.grownBy_alloc w _ _).trans hg
    exact Mv.of_grown hg2 _

set_option maxHeartbeats 2000000 in
theorem topI_nil (base b : Nat) (v : Value) (w : World) (h : StI base b v [] w) :
    Calls Try.prog 44 #[.pointer (some ⟨b, 0, none⟩)] w fun e w' => e = .returned (.tuple #[.int .i64 0, .bool false]) ∧ w = w' := by
  obtain ⟨A, c, rfl⟩ := own_shape h.own
  have hc : w.cell? ⟨b, 0, none⟩ = some (.slice A 0 c) := h.blk.cell 0
  clear h
  go_enter Try.func44, Try.ntmps44
  go_wp2
  go_ret2
  exact ⟨rfl, rfl⟩
set_option maxHeartbeats 2000000 in
theorem topI_snoc (base b : Nat) (v : Value) (L : List Int) (x : Int) (w : World) (h : StI base b v (L ++ [x]) w) (hl : L.length ≤ 1000) :
    Calls Try.prog 44 #[.pointer (some ⟨b, 0, none⟩)] w fun e w' => e = .returned (.tuple #[Value.int .i64 x, .bool true]) ∧ Drawn w w' := by
  obtain ⟨g, c, rfl, _, hlt⟩ := h.own.form (by simp)
  have hc := h.blk.cell 0
  have hx2 : w.cell? ⟨g, L.length, none⟩ = some (Value.int .i64 x) := by rw [h.own.cellAt L.length (by simp)]; simp
  have hn : (L ++ [x]).length = L.length + 1 := by simp
  rw [hn] at hc
  have hc2 : w.cell? ⟨b, 0, none⟩ = some (.slice (some ⟨g, 0, none⟩) (L.length + 1) c) := hc
  clear h hc hn
  have e1 : ((L.length : Int) + 1 == 0) = false := by rw [beq_eq_false_iff_ne]; omega
  have e2 : (L.length : Int) + 1 - 1 = L.length := by omega
  go_enter Try.func44, Try.ntmps44
  go_wp2
  go_quiet (fail)
  go_wp2
  go_ret2
  exact ⟨rfl, Drawn.of _ _⟩
set_option maxHeartbeats 2000000 in
theorem popI_nil (base b : Nat) (v : Value) (w : World) (h : StI base b v [] w) :
    Calls Try.prog 37 #[.pointer (some ⟨b, 0, none⟩)] w fun e w' => e = .returned (.tuple #[.int .i64 0, .bool false]) ∧ w = w' := by
  go_enter Try.func37, Try.ntmps37
  go_wp2_with (fail)
  refine (topI_nil base b v w h).mono ?_
  rintro e V ⟨rfl, rfl⟩
  clear h
  go_wp2
  go_ret2
  exact ⟨rfl, rfl⟩
set_option maxHeartbeats 2000000 in
theorem popI_snoc (base b : Nat) (v : Value) (L : List Int) (x : Int) (w : World) (h : StI base b v (L ++ [x]) w) (hl : L.length ≤ 1000) :
    Calls Try.prog 37 #[.pointer (some ⟨b, 0, none⟩)] w fun e w' => e = .returned (.tuple #[Value.int .i64 x, .bool true]) ∧ ∃ v', StI base b v' L w' ∧ v'.ownBlock = v.ownBlock ∧ Mv b v.ownBlock w w' := by
  go_enter Try.func37, Try.ntmps37
  go_wp2_with (fail)
  refine (topI_snoc base b v L x w h hl).mono ?_
  rintro e V ⟨rfl, hd⟩
  have hbl := drawn_bl hd w.heap.size
  have hV := h.below hbl (Nat.le_refl _)
  clear h hd
  obtain ⟨g, c, rfl, _, hlt⟩ := hV.own.form (by simp)
  have hc := hV.blk.cell 0
  have hn : (L ++ [x]).length = L.length + 1 := by simp
  rw [hn] at hc
  have hc2 : V.cell? ⟨b, 0, none⟩ = some (.slice (some ⟨g, 0, none⟩) (L.length + 1) c) := hc
  have hx2 : V.cell? ⟨g, L.length, none⟩ = some (Value.int .i64 x) := by rw [hV.own.cellAt L.length (by simp)]; simp
  have hfx := hV.own.frozenAt L.length
  have hfb := hV.blk.frozen 0
  have e2 : (L.length : Int) + 1 - 1 = L.length := by omega
  have hgb : b ≠ g := fun e => hV.apart (by simp [Value.ownBlock, e])
  have hlc : L.length + 1 ≤ c := by have := own_cap hV.own; simpa using this
  have hB3 := hV.blk.far (p := ⟨g, L.length, none⟩) hgb (.int .i64 0)
  have hc3 : (V.setCell ⟨g, L.length, none⟩ (.int .i64 0)).cell? ⟨b, 0, none⟩ = some (.slice (some ⟨g, 0, none⟩) (L.length + 1) c) := (hB3.cell 0).trans (by rw [hn]; rfl)
  have hf3 := hB3.frozen 0
  obtain ⟨hs1, hs2⟩ := hV.own.stored L.length (.int .i64 0)
  have hset : (List.map (Value.int .i64) (L ++ [x])).set L.length (.int .i64 0) = L.map (Value.int .i64) ++ [.int .i64 0] := by simp [List.set_append]
  rw [hset, hn] at hs1
  have hp := ownsRow_pop (by simp) hs1
  have hbase := hV.base_le
  clear hV hc hn hset hs1
  go_wp2
  go_ret2
  refine ⟨rfl, .slice (some ⟨g, 0, none⟩) L.length c, ⟨hB3.set_ 0 _, ?_, hbase⟩, rfl, Mv.after hbl (Mv.of_grown hs2 _)⟩
  exact ownsRow_setCell_other hp (a := ⟨b, 0, none⟩) (fun e => hgb (by simpa [Value.ownBlock] using e.symm)) _
set_option maxHeartbeats 2000000 in
theorem lenI_any (base b : Nat) (v : Value) (L : List Int) (w : World) (h : StI base b v L w) :
    Calls Try.prog 41 #[.pointer (some ⟨b, 0, none⟩)] w fun e w' => e = .returned (.int .i64 L.length) ∧ w = w' := by
  obtain ⟨A, c, rfl⟩ := own_shape h.own
  have hc : w.cell? ⟨b, 0, none⟩ = some (.slice A L.length c) := h.blk.cell 0
  clear h
  go_enter Try.func41, Try.ntmps41
  go_wp2
  go_ret
  exact ⟨rfl, rfl⟩

/-! ### string -/
theorem info_string3 : (Try.prog.info? 9).map (fun i => (i.zero, i.size, i.bytes)) = some (some (.string ByteArray.empty), 1, 16) := by kernel_rfl
structure StS (base b : Nat) (v : Value) (L : List ByteArray) (w : World) : Prop where
  blk : Blk w b 40 #[v]
  own : w.ownsRow base 9 1 v L.length (L.map (Value.string))
  base_le : base ≤ b
theorem StS.apart {base b : Nat} {v : Value} {L : List ByteArray} {w : World} (h : StS base b v L w) : v.ownBlock ≠ some b := own_blk_ne h.own h.blk (by decide)
theorem StS.below {base b B : Nat} {v : Value} {L : List ByteArray} {w w' : World} (h : StS base b v L w) (hb : Below B w w') (hB : w.heap.size ≤ B) : StS base b v L w' := by
  refine ⟨h.blk.below hb (Nat.lt_of_lt_of_le h.blk.lt hB), ?_, h.base_le⟩
  exact h.own.kept ⟨hb.os, hb.tape, hb.output, hb.size, fun k hk _ => hb.block k (Nat.lt_of_lt_of_le hk hB)⟩ (row := none) (by cases v.ownBlock <;> simp)

set_option maxHeartbeats 2000000 in
theorem pushS_any (base b : Nat) (v : Value) (L : List ByteArray) (x : ByteArray) (w : World) (h : StS base b v L w) (hl : L.length ≤ 1000) :
    Calls Try.prog 33 #[.pointer (some ⟨b, 0, none⟩), Value.string x] w fun e w' => e = .returned (.tuple #[]) ∧ ∃ v', StS base b v' (L ++ [x]) w' ∧ Mv b v.ownBlock w w' ∧ (v'.ownBlock = v.ownBlock ∨ v'.ownBlock = some (w.heap.size + 1)) := by
  obtain ⟨i0, hi0, hz0, hz1, hz2⟩ := info_parts info_string3
  have hc : w.cell? ⟨b, 0, none⟩ = some v := h.blk.cell 0
  have hf := h.blk.frozen 0
  have hbs : base ≤ w.heap.size := by have := h.base_le; have := h.blk.lt; omega
  have H := Lib.hid h
  have hO := h.own
  clear h
  go_enter Try.func33, Try.ntmps33
  go_wp2_with (at_builtin; refine wpList_append_any _ rfl _ _ 38 rfl base 9 i0 (.string ByteArray.empty) 1 16 Try.underlying38 hi0 hz0 hz1 hz2 rfl (by decide) v L.length (L.map (Value.string)) rfl (hO.alloc _) (w.heap.size + 1) (some ⟨w.heap.size, 0, none⟩) 1 1 [Value.string x] rfl (reads_one _ _ _) (one_of _ rfl) ?p1 ?p2 ?p3 ?_; (case p1 => (unfold maxLen; omega)); (case p2 => omega); (case p3 => (have := World.size_alloc w (.cells #[Value.string x] 9); omega)); intro v' w1 hO' hg hvb; obtain ⟨A1, c1, rfl⟩ := own_shape hO'; have hvb1 : (Value.slice A1 (L.length + 1) c1).ownBlock = v.ownBlock ∨ (Value.slice A1 (L.length + 1) c1).ownBlock = some (w.heap.size + 1) := (by simpa using hvb); clear hvb; have hB1 : Blk w1 b 40 #[v] := (H.out.blk.alloc _).grown hg (fun e => H.out.apart e.symm); have hf1 := hB1.frozen 0; have hc1 : w1.cell? ⟨b, 0, none⟩ = some v := hB1.cell 0)
  go_end0
  refine ⟨rfl, _, ⟨hB1.set_ 0 _, ?_, H.out.base_le⟩, ?_, hvb1⟩
  · have := ownsRow_setCell_other hO' (a := ⟨b, 0, none⟩) (fun e => own_blk_ne hO' hB1 (by decide) e) (Value.slice A1 (L.length + 1) c1)
    simpa using this
  · have hg2 : w.grownBy w1 v.ownBlock := (World.grownBy_alloc w _ _).trans hg
    exact Mv.of_grown hg2 _

set_option maxHeartbeats 2000000 in
theorem topS_nil (base b : Nat) (v : Value) (w : World) (h : StS base b v [] w) :
    Calls Try.prog 31 #[.pointer (some ⟨b, 0, none⟩)] w fun e w' => e = .returned (.tuple #[.string ByteArray.empty, .bool false]) ∧ w = w' := by
  obtain ⟨A, c, rfl⟩ := own_shape h.own
  have hc : w.cell? ⟨b, 0, none⟩ = some (.slice A 0 c) := h.blk.cell 0
  clear h
  go_enter Try.func31, Try.ntmps31
  go_wp2
  go_ret2
  exact ⟨rfl, rfl⟩
set_option maxHeartbeats 2000000 in
theorem topS_snoc (base b : Nat) (v : Value) (L : List ByteArray) (x : ByteArray) (w : World) (h : StS base b v (L ++ [x]) w) (hl : L.length ≤ 1000) :
    Calls Try.prog 31 #[.pointer (some ⟨b, 0, none⟩)] w fun e w' => e = .returned (.tuple #[Value.string x, .bool true]) ∧ Drawn w w' := by
  obtain ⟨g, c, rfl, _, hlt⟩ := h.own.form (by simp)
  have hc := h.blk.cell 0
  have hx2 : w.cell? ⟨g, L.length, none⟩ = some (Value.string x) := by rw [h.own.cellAt L.length (by simp)]; simp
  have hn : (L ++ [x]).length = L.length + 1 := by simp
  rw [hn] at hc
  have hc2 : w.cell? ⟨b, 0, none⟩ = some (.slice (some ⟨g, 0, none⟩) (L.length + 1) c) := hc
  clear h hc hn
  have e1 : ((L.length : Int) + 1 == 0) = false := by rw [beq_eq_false_iff_ne]; omega
  have e2 : (L.length : Int) + 1 - 1 = L.length := by omega
  go_enter Try.func31, Try.ntmps31
  go_wp2
  go_quiet (fail)
  go_wp2
  go_ret2
  exact ⟨rfl, Drawn.of _ _⟩
set_option maxHeartbeats 2000000 in
theorem popS_nil (base b : Nat) (v : Value) (w : World) (h : StS base b v [] w) :
    Calls Try.prog 34 #[.pointer (some ⟨b, 0, none⟩)] w fun e w' => e = .returned (.tuple #[.string ByteArray.empty, .bool false]) ∧ w = w' := by
  go_enter Try.func34, Try.ntmps34
  go_wp2_with (fail)
  refine (topS_nil base b v w h).mono ?_
  rintro e V ⟨rfl, rfl⟩
  clear h
  go_wp2
  go_ret2
  exact ⟨rfl, rfl⟩
set_option maxHeartbeats 2000000 in
theorem popS_snoc (base b : Nat) (v : Value) (L : List ByteArray) (x : ByteArray) (w : World) (h : StS base b v (L ++ [x]) w) (hl : L.length ≤ 1000) :
    Calls Try.prog 34 #[.pointer (some ⟨b, 0, none⟩)] w fun e w' => e = .returned (.tuple #[Value.string x, .bool true]) ∧ ∃ v', StS base b v' L w' ∧ v'.ownBlock = v.ownBlock ∧ Mv b v.ownBlock w w' := by
  go_enter Try.func34, Try.ntmps34
  go_wp2_with (fail)
  refine (topS_snoc base b v L x w h hl).mono ?_
  rintro e V ⟨rfl, hd⟩
  have hbl := drawn_bl hd w.heap.size
  have hV := h.below hbl (Nat.le_refl _)
  clear h hd
  obtain ⟨g, c, rfl, _, hlt⟩ := hV.own.form (by simp)
  have hc := hV.blk.cell 0
  have hn : (L ++ [x]).length = L.length + 1 := by simp
  rw [hn] at hc
  have hc2 : V.cell? ⟨b, 0, none⟩ = some (.slice (some ⟨g, 0, none⟩) (L.length + 1) c) := hc
  have hx2 : V.cell? ⟨g, L.length, none⟩ = some (Value.string x) := by rw [hV.own.cellAt L.length (by simp)]; simp
  have hfx := hV.own.frozenAt L.length
  have hfb := hV.blk.frozen 0
  have e2 : (L.length : Int) + 1 - 1 = L.length := by omega
  have hgb : b ≠ g := fun e => hV.apart (by simp [Value.ownBlock, e])
  have hlc : L.length + 1 ≤ c := by have := own_cap hV.own; simpa using this
  have hB3 := hV.blk.far (p := ⟨g, L.length, none⟩) hgb (.string ByteArray.empty)
  have hc3 : (V.setCell ⟨g, L.length, none⟩ (.string ByteArray.empty)).cell? ⟨b, 0, none⟩ = some (.slice (some ⟨g, 0, none⟩) (L.length + 1) c) := (hB3.cell 0).trans (by rw [hn]; rfl)
  have hf3 := hB3.frozen 0
  obtain ⟨hs1, hs2⟩ := hV.own.stored L.length (.string ByteArray.empty)
  have hset : (List.map (Value.string) (L ++ [x])).set L.length (.string ByteArray.empty) = L.map (Value.string) ++ [.string ByteArray.empty] := by simp [List.set_append]
  rw [hset, hn] at hs1
  have hp := ownsRow_pop (by simp) hs1
  have hbase := hV.base_le
  clear hV hc hn hset hs1
  go_wp2
  go_ret2
  refine ⟨rfl, .slice (some ⟨g, 0, none⟩) L.length c, ⟨hB3.set_ 0 _, ?_, hbase⟩, rfl, Mv.after hbl (Mv.of_grown hs2 _)⟩
  exact ownsRow_setCell_other hp (a := ⟨b, 0, none⟩) (fun e => hgb (by simpa [Value.ownBlock] using e.symm)) _
set_option maxHeartbeats 2000000 in
theorem lenS_any (base b : Nat) (v : Value) (L : List ByteArray) (w : World) (h : StS base b v L w) :
    Calls Try.prog 35 #[.pointer (some ⟨b, 0, none⟩)] w fun e w' => e = .returned (.int .i64 L.length) ∧ w = w' := by
  obtain ⟨A, c, rfl⟩ := own_shape h.own
  have hc : w.cell? ⟨b, 0, none⟩ = some (.slice A L.length c) := h.blk.cell 0
  clear h
  go_enter Try.func35, Try.ntmps35
  go_wp2
  go_ret
  exact ⟨rfl, rfl⟩
end Go.Proofs.Ytkfgnacbifiadaa
