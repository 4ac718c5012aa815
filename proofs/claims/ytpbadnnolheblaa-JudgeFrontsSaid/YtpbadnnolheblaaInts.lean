/-
  Rows of whole numbers in memory.
-/
import Derived.Test.YtpbadnnolheblaaKit
namespace Go.Proofs.Ytpbadnnolheblaa
open Go.RowKit

/-- The numbers of l lie at ao, of kind k. -/
def isInts (k : IntKind) (w : World) (ao : Option Addr) (l : List Int) : Prop :=
  ∀ i, i < l.length → ∃ b off, ao = some ⟨b, off, none⟩ ∧ b < w.heap.size ∧ w.cell? ⟨b, off + i, none⟩ = some (.int k (l.getD i 0))
section
variable {k : IntKind}
theorem isInts.keep {w w' : World} {ao : Option Addr} {l : List Int} {S : List Nat} (h : isInts k w ao l) (hc : Chg S w w') (hs : ∀ b off, ao = some ⟨b, off, none⟩ → b ∉ S) : isInts k w' ao l := by
  intro i hi
  obtain ⟨b, off, h1, h2, h3⟩ := h i hi
  exact ⟨b, off, h1, Nat.lt_of_lt_of_le h2 hc.size, (hc.cell (p := ⟨b, off + i, none⟩) h2 (hs _ _ h1)).trans h3⟩
theorem isInts.keep0 {w w' : World} {ao : Option Addr} {l : List Int} (h : isInts k w ao l) (hc : Chg [] w w') : isInts k w' ao l := h.keep hc (by simp)
theorem isInts.at {w : World} {b off : Nat} {l : List Int} (h : isInts k w (some ⟨b, off, none⟩) l) {i : Nat} (hi : i < l.length) :
    b < w.heap.size ∧ w.cell? ⟨b, off + i, none⟩ = some (.int k (l.getD i 0)) := by
  obtain ⟨b', off', h1, h2, h3⟩ := h i hi
  simp only [Option.some.injEq, Addr.mk.injEq, and_true] at h1
  obtain ⟨rfl, rfl⟩ := h1
  exact ⟨h2, h3⟩
theorem isInts.addr {w : World} {ao : Option Addr} {l : List Int} (h : isInts k w ao l) {i : Nat} (hi : i < l.length) : ∃ b off, ao = some ⟨b, off, none⟩ := by
  obtain ⟨b, off, h1, _⟩ := h i hi; exact ⟨b, off, h1⟩
theorem isInts_nil (w : World) (ao : Option Addr) : isInts k w ao [] := fun i hi => by simp at hi
theorem block_ints {w : World} {b t : Nat} {f : Nat × Nat} {l : List Int} (h : w.heap[b]? = some (.cells (l.map (Value.int k)).toArray t f)) : isInts k w (some ⟨b, 0, none⟩) l := by
  intro i hi
  refine ⟨b, 0, rfl, lt_of_some h, ?_⟩
  rw [Nat.zero_add, cell_of_block h]
  simp [List.getD, hi]
/-- The numbers of a row of the call's own. -/
theorem owned_ints {w : World} {base e : Nat} {v : Value} {n : Nat} {l : List Int} (h : w.ownsRow base e 1 v n (l.map (Value.int k))) :
    ∃ ao cap, v = .slice ao l.length cap ∧ isInts k w ao l ∧ l.length ≤ cap ∧ cap ≤ maxLen ∧ (ao = none → cap = 0) ∧ (∀ b off, ao = some ⟨b, off, none⟩ → base ≤ b) := by
  have hn : n = l.length := by have := h.1; simpa using this.symm
  subst hn
  rcases h.2 with ⟨h1, h2⟩ | ⟨g, cap, cur, h1, h2, h3, h4, h5, h6, h7⟩
  · obtain rfl : l = [] := by simpa using h2
    exact ⟨none, 0, h1, fun i hi => by simp at hi, by simp, by simp, fun _ => rfl, by simp⟩
  · refine ⟨some ⟨g, 0, none⟩, cap, h1, ?_, h4, h5, by simp, ?_⟩
    · intro i hi
      refine ⟨g, 0, rfl, lt_of_some h3, ?_⟩
      rw [Nat.zero_add, cell_of_block h3]
      have : (cur.toList.take (l.length * 1))[i]? = (l.map (Value.int k))[i]? := by rw [h7]
      rw [List.getElem?_take, if_pos (by omega)] at this
      rw [← Array.getElem?_toList, this]
      simp [List.getD, hi]
    · intro b off e; simp at e; omega
theorem isInts.news {w : World} {a : Addr} {l : List Int} (h : isInts k w (some a) l) : ∀ j u, (l.map (Value.int k))[j]? = some u → w.cell? (a.add j) = some u := by
  intro j u hj
  rw [List.getElem?_map] at hj
  cases hl : l[j]? with
  | none => rw [hl] at hj; cases hj
  | some x =>
    rw [hl] at hj
    have hlt := (List.getElem?_eq_some_iff.1 hl).1
    obtain ⟨b, off, e, _, hc⟩ := h j hlt
    cases e
    rw [Addr.add_mid, hc]
    simp only [Option.map_some, Option.some.injEq] at hj
    rw [← hj]
    simp [List.getD, hl]
/-- Numbers behind a row of the call's own. -/
theorem wpList_append_ints {P : Program} {w : World} {ops : Array Oper} {rest : List Oper} {o : Oper} {a : Act} {Q : Exit → Act → World → Prop} (hgd : o.guard = none) (s x : Operand) (t : TypeId)
    (ho : o.op = .call { callee := .builtin .append, args := #[s, x], argTypes := #[t, t] })
    (base : Nat) (e : TypeId) (i : TypeInfo) (z : Value) (bytes : Nat) (ht : P.underlying t = some (.slice e)) (hi : P.info? e = some i) (hz : i.zero = some z)
    (hsize : i.size = 1) (hby : i.bytes = bytes) (hb8 : bytes ≤ 8) (hzs : z.cells.size = 1)
    (v : Value) (n : Nat) (xs : List Value) (hs : a.eval s = v) (hown : w.ownsRow base e 1 v n xs)
    (ad : Addr) (c : Nat) (l : List Int) (hx : a.eval x = .slice (some ad) l.length c) (hb : isInts k w (some ad) l)
    (h63 : n + l.length ≤ 10000000) (hbase : base ≤ w.heap.size)
    (h : ∀ v' w', w'.ownsRow base e 1 v' (n + l.length) (xs ++ l.map (Value.int k)) → Chg v.ownBlock.toList w w' → (∀ q, v'.ownBlock = some q → base ≤ q) → wpList P ops Q rest (a.put o.dst v') w') : wpList P ops Q (o :: rest) a w := by
  refine wpList_append_own w hgd s x t ho base e i z 1 bytes ht hi hz hsize hby hzs (by omega) v n xs hs hown ad l.length c (l.map (Value.int k)) hx (by simp) hb.news (by intro u hu; simp at hu; obtain ⟨q, _, rfl⟩ := hu; rfl) (by unfold maxLen; omega)
    (Nat.le_trans (Nat.mul_le_mul h63 hb8) (by omega)) hbase ?_
  intro v' w' h1 h2 _
  exact h v' w' h1 (Chg.of_grown h2 (by simp)) (fun q hq => (h1.lt q hq).1)
end
theorem foldl_take {α β : Type} (f : β → α → β) (s : β) (l : List α) (d : α) {k : Nat} (h : k < l.length) : (l.take (k + 1)).foldl f s = f ((l.take k).foldl f s) (l.getD k d) := by
  rw [List.take_succ_eq_append_getElem h, List.foldl_append]
  simp [List.getD, h]
end Go.Proofs.Ytpbadnnolheblaa
