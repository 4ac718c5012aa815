/-
  Shared words: 'Chg S w w'': of the blocks that were there, those outside S hold what they held; block facts and what a store does to them.
-/
import Derived.Test.YtpbadnnolheblaaProg
import Derived.WalkKit
import Derived.WalkSpells
import Derived.WalkLawsBesides
import Derived.Deep.Draws
import Derived.Deep.QuietTactic
import Derived.BigQuiet
import Derived.Deep.DeepCutAuto
import Derived.Deep.CutBlock
import Derived.Deep.LoopGhost
import Derived.Deep.RegionHeld3
import Derived.KernelRfl
import Derived.Lib.Hide
import Derived.Deep.MidRow
namespace Go.Proofs.Ytpbadnnolheblaa
open Go.RowKit

/-- Outside the blocks S nothing that was there has turned. -/
structure Chg (S : List Nat) (w w' : World) : Prop where
  os : w'.os = w.os
  tape : w'.tape = w.tape
  output : w'.output = w.output
  size : w.heap.size ≤ w'.heap.size
  block : ∀ k, k < w.heap.size → k ∉ S → w'.heap[k]? = w.heap[k]?

theorem lt_of_some {w : World} {b : Nat} {o : Obj} (h : w.heap[b]? = some o) : b < w.heap.size := by
  rcases Nat.lt_or_ge b w.heap.size with h' | h'
  · exact h'
  · rw [Array.getElem?_eq_none h'] at h; cases h

theorem Chg.refl (S : List Nat) (w : World) : Chg S w w := ⟨rfl, rfl, rfl, Nat.le_refl _, fun _ _ _ => rfl⟩
theorem Chg.trans {S : List Nat} {a b c : World} (h : Chg S a b) (k : Chg S b c) : Chg S a c :=
  ⟨k.os.trans h.os, k.tape.trans h.tape, k.output.trans h.output, Nat.le_trans h.size k.size,
    fun i hi hs => (k.block i (Nat.lt_of_lt_of_le hi h.size) hs).trans (h.block i hi hs)⟩
theorem Chg.mono {S S' : List Nat} {a b : World} (h : Chg S a b) (hs : ∀ x, x ∈ S → x ∈ S') : Chg S' a b :=
  ⟨h.os, h.tape, h.output, h.size, fun i hi hn => h.block i hi fun hm => hn (hs i hm)⟩
/-- A step that may write S2 behind one that may write S: what of S2 is new does not count. -/
theorem Chg.then {S S2 : List Nat} {a b c : World} (h : Chg S a b) (k : Chg S2 b c) (hs : ∀ x, x ∈ S2 → x ∈ S ∨ a.heap.size ≤ x) : Chg S a c :=
  ⟨k.os.trans h.os, k.tape.trans h.tape, k.output.trans h.output, Nat.le_trans h.size k.size,
    fun i hi hn => (k.block i (Nat.lt_of_lt_of_le hi h.size) (fun hm => (hs i hm).elim hn (fun q => by omega))).trans (h.block i hi hn)⟩
theorem Chg.drew {S : List Nat} {a w : World} (h : Chg S a w) : Chg S a w.drew := ⟨h.os, h.tape, h.output, h.size, h.block⟩
theorem Chg.drewN {S : List Nat} {a w : World} (h : Chg S a w) (n : Nat) : Chg S a (w.drewN n) := ⟨h.os, h.tape, h.output, h.size, h.block⟩
theorem Chg.of_drew {S : List Nat} {w w' : World} (h : Chg S w.drew w') : Chg S w w' := ⟨h.os, h.tape, h.output, h.size, h.block⟩
theorem Chg.alloc {S : List Nat} {a w : World} (h : Chg S a w) (o : Obj) : Chg S a (w.alloc o) :=
  h.trans ⟨rfl, rfl, rfl, by simp, fun k hk _ => Below.heap_alloc _ _ _ hk⟩
theorem Chg.setCell {S : List Nat} {a w : World} (h : Chg S a w) {p : Addr} (hp : p.block ∈ S ∨ a.heap.size ≤ p.block) (u : Value) : Chg S a (w.setCell p u) :=
  h.then (S2 := [p.block]) ⟨rfl, rfl, rfl, by simp [World.setCell], fun k _ hn => Below.heap_setCell _ _ _ _ (fun e => hn (by simp [e]))⟩
    (fun x hx => by simp at hx; subst hx; exact hp)
theorem Chg.setCells {S : List Nat} {a : World} {b : Nat} (hp : b ∈ S ∨ a.heap.size ≤ b) : ∀ (vs : List Value) (o : Nat) (w : World), Chg S a w → Chg S a (w.setCells b o vs)
  | [], _, _, h => h
  | v :: r, o, w, h => by rw [World.setCells]; exact Chg.setCells hp r (o + 1) _ (h.setCell hp v)
theorem Chg.of_below {S : List Nat} {w w' : World} (h : Below w.heap.size w w') : Chg S w w' := ⟨h.os, h.tape, h.output, h.size, fun k hk _ => h.block k hk⟩
theorem Chg.below {w w' : World} (h : Chg [] w w') : Below w.heap.size w w' := ⟨h.os, h.tape, h.output, h.size, fun k hk => h.block k hk (by simp)⟩
theorem Chg.at {S : List Nat} {w w' : World} (h : Chg S w w') {b : Nat} {o : Obj} (hb : w.heap[b]? = some o) (hn : b ∉ S) : w'.heap[b]? = some o :=
  (h.block b (lt_of_some hb) hn).trans hb
theorem Chg.cell {S : List Nat} {w w' : World} (h : Chg S w w') {p : Addr} (hp : p.block < w.heap.size) (hn : p.block ∉ S) : w'.cell? p = w.cell? p :=
  World.cell?_of_block (w := w) (h.block p.block hp hn)

theorem cell_of_block {w : World} {b : Nat} {xs : Array Value} {T : Nat} {f : Nat × Nat} (h : w.heap[b]? = some (.cells xs T f)) (o : Nat) :
    w.cell? ⟨b, o, none⟩ = xs[o]? := by
  simp [World.cell?, h]
theorem free_of_block {w : World} {b : Nat} {xs : Array Value} {T : Nat} (h : w.heap[b]? = some (.cells xs T)) (o : Nat) :
    w.frozen? ⟨b, o, none⟩ = false := by
  simp [World.frozen?, h]
theorem block_set {w : World} {b o : Nat} {v : Value} {xs : Array Value} {T : Nat} {f : Nat × Nat} (h : w.heap[b]? = some (.cells xs T f)) :
    (w.setCell ⟨b, o, none⟩ v).heap[b]? = some (.cells (xs.setIfInBounds o v) T f) := by
  simp [World.setCell, Array.getElem?_modify, h]
theorem block_set_ne {w : World} {b b' o : Nat} {v : Value} (h : b' ≠ b) : (w.setCell ⟨b, o, none⟩ v).heap[b']? = w.heap[b']? :=
  Below.heap_setCell _ _ _ _ h
theorem block_alloc {w : World} {b : Nat} {o o' : Obj} (h : w.heap[b]? = some o) : (w.alloc o').heap[b]? = some o := by
  rw [Below.heap_alloc _ _ _ (lt_of_some h), h]
theorem block_new (w : World) (o : Obj) : (w.alloc o).heap[w.heap.size]? = some o := by
  show (w.heap.push o)[_]? = _
  simp

theorem two_blocks (w : World) (A B : Obj) : ((w.alloc A).alloc B).heap[w.heap.size]? = some A ∧ ((w.alloc A).alloc B).heap[w.heap.size + 1]? = some B := by
  refine ⟨block_alloc (block_new _ _), ?_⟩
  have := block_new (w.alloc A) B; simpa using this
theorem three_blocks (w : World) (A B C : Obj) : (((w.alloc A).alloc B).alloc C).heap[w.heap.size]? = some A ∧ (((w.alloc A).alloc B).alloc C).heap[w.heap.size + 1]? = some B ∧
    (((w.alloc A).alloc B).alloc C).heap[w.heap.size + 1 + 1]? = some C := by
  refine ⟨block_alloc (block_alloc (block_new _ _)), block_alloc ?_, ?_⟩
  · have := block_new (w.alloc A) B; simpa using this
  · have := block_new ((w.alloc A).alloc B) C; simpa using this

theorem Chg.of_grown {S : List Nat} {w w' : World} {row : Option Nat} (h : w.grownBy w' row) (hr : ∀ k, row = some k → k ∈ S) : Chg S w w' :=
  ⟨h.os, h.tape, h.output, h.size, fun k hk hn => h.block k hk (fun e => hn (hr k e.symm))⟩
/-- What an owned row with an element looks like. -/
theorem owned_shape {w : World} {base e size n : Nat} {v : Value} {xs : List Value} (h : w.ownsRow base e size v n xs) (hn : 0 < n) :
    ∃ g cap, v = .slice (some ⟨g, 0, none⟩) n cap ∧ base ≤ g ∧ g < w.heap.size ∧ n ≤ cap ∧ cap ≤ maxLen := by
  rcases h.2 with ⟨_, h0⟩ | ⟨g, cap, cur, h1, h2, h3, h4, h5, _⟩
  · omega
  · exact ⟨g, cap, h1, h2, lt_of_some h3, h4, h5⟩
theorem owned_ty {w : World} {base e size n m g cap : Nat} {xs : List Value} (h : w.ownsRow base e size (.slice (some ⟨g, 0, none⟩) m cap) n xs) : ∃ cs, w.heap[g]? = some (.cells cs e) := by
  rcases h.2 with ⟨h0, _⟩ | ⟨g', cap', cur, h1, _, h3, _⟩
  · cases h0
  · simp only [Value.slice.injEq, Option.some.injEq, Addr.mk.injEq, and_true] at h1
    obtain ⟨rfl, _⟩ := h1
    exact ⟨cur, h3⟩
theorem owned_chg {w w' : World} {S : List Nat} {base e size n : Nat} {v : Value} {xs : List Value} (h : w.ownsRow base e size v n xs) (hc : Chg S w w') (hs : ∀ k, v.ownBlock = some k → k ∉ S) : w'.ownsRow base e size v n xs := by
  refine ⟨h.1, ?_⟩
  rcases h.2 with h0 | ⟨g, cap, cur, h1, h2, h3, h4⟩
  · exact .inl h0
  · exact .inr ⟨g, cap, cur, h1, h2, hc.at h3 (hs g (by rw [h1]; rfl)), h4⟩

theorem cell_set_ne {w : World} {a b : Addr} {v : Value} (h : a ≠ b) : (w.setCell a v).cell? b = w.cell? b := World.cell?_setCell_other w a b v h
theorem cell_set_eq {w : World} {a : Addr} {v u : Value} (h : w.cell? a = some u) : (w.setCell a v).cell? a = some v := World.cell?_setCell_same w a v h

/-- Rows of pairs. -/
def pairs (a b : Nat → Value) : Nat → List Value
  | 0 => []
  | n + 1 => pairs a b n ++ [a n, b n]
theorem pairs_len (a b : Nat → Value) : ∀ n, (pairs a b n).length = n * 2
  | 0 => rfl
  | n + 1 => by simp [pairs, pairs_len a b n]; omega
theorem pairs_get (a b : Nat → Value) : ∀ n i, i < n → (pairs a b n)[i * 2]? = some (a i) ∧ (pairs a b n)[i * 2 + 1]? = some (b i)
  | 0, i, h => by omega
  | n + 1, i, h => by
    have hl := pairs_len a b n
    unfold pairs
    by_cases e : i = n
    · subst e; simp [List.getElem?_append, hl]
    · obtain ⟨h1, h2⟩ := pairs_get a b n i (by omega)
      rw [List.getElem?_append_left (by omega), List.getElem?_append_left (by omega)]
      exact ⟨h1, h2⟩
theorem half (j : Nat) : j = j / 2 * 2 ∨ j = j / 2 * 2 + 1 := by omega
theorem pairs_cells {w : World} {bl o : Nat} {a b : Nat → Value} {n : Nat} (ha : ∀ i, i < n → w.cell? ⟨bl, o + i * 2, none⟩ = some (a i)) (hb : ∀ i, i < n → w.cell? ⟨bl, o + i * 2 + 1, none⟩ = some (b i)) :
    ∀ j u, (pairs a b n)[j]? = some u → w.cell? ((⟨bl, o, none⟩ : Addr).add j) = some u := by
  intro j u hj
  have hl : j < n * 2 := by have := (List.getElem?_eq_some_iff.1 hj).1; rwa [pairs_len] at this
  obtain ⟨i, rfl | rfl⟩ : ∃ i, j = i * 2 ∨ j = i * 2 + 1 := ⟨j / 2, half j⟩
  · rw [(pairs_get a b n i (by omega)).1] at hj
    rw [Addr.add_lit, ha i (by omega), hj]
  · rw [(pairs_get a b n i (by omega)).2] at hj
    rw [Addr.add_lit, ← Nat.add_assoc, hb i (by omega), hj]
theorem pairs_one (a b : Nat → Value) (ha : ∀ i, (a i).oneCell' = true) (hb : ∀ i, (b i).oneCell' = true) : ∀ n, ∀ u ∈ pairs a b n, u.oneCell' = true
  | 0, u, h => by simp [pairs] at h
  | n + 1, u, h => by
    simp only [pairs, List.mem_append, List.mem_cons, List.not_mem_nil, or_false] at h
    rcases h with h | rfl | rfl
    · exact pairs_one a b ha hb n u h
    · exact ha _
    · exact hb _

/-- A row of cells of one element type: what parts it from rows of others. -/
def isRow (w : World) (b T : Nat) : Prop := ∃ cs, w.heap[b]? = some (.cells cs T)
theorem isRow.keep {w w' : World} {b T : Nat} {S : List Nat} (h : isRow w b T) (hc : Chg S w w') (hn : b ∉ S) : isRow w' b T := by
  obtain ⟨cs, h⟩ := h; exact ⟨cs, hc.at h hn⟩
theorem isRow.set {w : World} {b T : Nat} (h : isRow w b T) (a : Addr) (v : Value) : isRow (w.setCell a v) b T := by
  obtain ⟨cs, h⟩ := h
  obtain ⟨ab, ao, sp⟩ := a
  by_cases e : b = ab
  · subst e
    cases sp with
    | none => exact ⟨_, block_set h⟩
    | some s => exact ⟨cs, by simp [World.setCell, Array.getElem?_modify, h]⟩
  · exact ⟨cs, by rw [Below.heap_setCell _ _ _ _ e]; exact h⟩
theorem isRow.lt {w : World} {b T : Nat} (h : isRow w b T) : b < w.heap.size := by obtain ⟨cs, h⟩ := h; exact lt_of_some h
theorem isRow.ne {w : World} {b b' T T' : Nat} {cs : Array Value} (h : isRow w b T) (h' : w.heap[b']? = some (.cells cs T')) (hT : T ≠ T') : b ≠ b' := by
  rintro rfl
  obtain ⟨c, h⟩ := h
  rw [h] at h'
  simp only [Option.some.injEq, Obj.cells.injEq] at h'
  exact hT h'.2.1

/-- The cells of a row made of a list. -/
theorem map_get {α : Type} (l : List α) (f : α → Value) (n : Nat) (d : α) (h : n < l.length) : (l.map f).toArray[n]? = some (f (l.getD n d)) := by
  simp [h, List.getD]
theorem map_set {α : Type} (l : List α) (f : α → Value) (n : Nat) (x : α) : (l.map f).toArray.setIfInBounds n (f x) = ((l.set n x).map f).toArray := by
  simp [List.map_set]
theorem madeCells_one (z : Value) (n : Nat) : madeCells #[z] n = (List.replicate n z).toArray := by
  apply Array.ext
  · simp [madeCells]
  · intro i h1 h2
    simp [madeCells, Nat.mod_one]
end Go.Proofs.Ytpbadnnolheblaa
