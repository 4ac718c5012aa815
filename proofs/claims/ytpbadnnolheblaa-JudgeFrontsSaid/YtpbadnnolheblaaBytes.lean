/-
  Rows of bytes, and rows of such rows, in memory.
-/
import Derived.Test.YtpbadnnolheblaaKit
import Derived.Laws.AppendOwnNone
namespace Go.Proofs.Ytpbadnnolheblaa
open Go.RowKit

/-- The bytes of l lie at ao. -/
def isBytes (w : World) (ao : Option Addr) (l : List Nat) : Prop :=
  ∀ i, i < l.length → ∃ b off, ao = some ⟨b, off, none⟩ ∧ b < w.heap.size ∧ w.cell? ⟨b, off + i, none⟩ = some (.int .u8 (l.getD i 0)) ∧ l.getD i 0 < 256
theorem isBytes.keep {w w' : World} {ao : Option Addr} {l : List Nat} {S : List Nat} (h : isBytes w ao l) (hc : Chg S w w') (hs : ∀ b off, ao = some ⟨b, off, none⟩ → b ∉ S) : isBytes w' ao l := by
  intro i hi
  obtain ⟨b, off, h1, h2, h3, h4⟩ := h i hi
  exact ⟨b, off, h1, Nat.lt_of_lt_of_le h2 hc.size, (hc.cell (p := ⟨b, off + i, none⟩) h2 (hs _ _ h1)).trans h3, h4⟩
theorem isBytes.keep0 {w w' : World} {ao : Option Addr} {l : List Nat} (h : isBytes w ao l) (hc : Chg [] w w') : isBytes w' ao l := h.keep hc (by simp)
theorem isBytes.take {w : World} {ao : Option Addr} {l : List Nat} (h : isBytes w ao l) (n : Nat) : isBytes w ao (l.take n) := by
  intro i hi
  rw [List.length_take] at hi
  have e : (l.take n).getD i 0 = l.getD i 0 := by simp [List.getD, List.getElem?_take, show i < n by omega]
  rw [e]; exact h i (by omega)
theorem isBytes.at {w : World} {b off : Nat} {l : List Nat} (h : isBytes w (some ⟨b, off, none⟩) l) {i : Nat} (hi : i < l.length) :
    b < w.heap.size ∧ w.cell? ⟨b, off + i, none⟩ = some (.int .u8 (l.getD i 0)) ∧ l.getD i 0 < 256 := by
  obtain ⟨b', off', h1, h2, h3, h4⟩ := h i hi
  simp only [Option.some.injEq, Addr.mk.injEq, and_true] at h1
  obtain ⟨rfl, rfl⟩ := h1
  exact ⟨h2, h3, h4⟩
theorem isBytes.addr {w : World} {ao : Option Addr} {l : List Nat} (h : isBytes w ao l) {i : Nat} (hi : i < l.length) : ∃ b off, ao = some ⟨b, off, none⟩ := by
  obtain ⟨b, off, h1, _⟩ := h i hi; exact ⟨b, off, h1⟩
theorem isBytes.set {w : World} {b off : Nat} {l : List Nat} (h : isBytes w (some ⟨b, off, none⟩) l) {k : Nat} (hk : k < l.length) (x : Nat) (hx : x < 256) :
    isBytes (w.setCell ⟨b, off + k, none⟩ (.int .u8 (x : Int))) (some ⟨b, off, none⟩) (l.set k x) := by
  intro i hi
  rw [List.length_set] at hi
  obtain ⟨h1, h2, h3⟩ := h.at hi
  refine ⟨b, off, rfl, by simpa [World.setCell] using h1, ?_⟩
  by_cases e : i = k
  · subst e
    rw [cell_set_eq h2]
    simp [List.getD, hi, hx]
  · rw [cell_set_ne (by intro q; simp at q <;> omega), h2]
    have e2 : k ≠ i := fun q => e q.symm
    have : (l.set k x).getD i 0 = l.getD i 0 := by simp [List.getD, List.getElem?_set, e2]
    rw [this]; exact ⟨rfl, h3⟩
theorem isBytes.all {w : World} {ao : Option Addr} {l : List Nat} (h : isBytes w ao l) : ∀ x ∈ l, x < 256 := by
  intro x hx
  obtain ⟨i, hi, rfl⟩ := List.mem_iff_getElem.1 hx
  obtain ⟨_, _, _, _, _, h4⟩ := h i hi
  simpa [List.getD, hi] using h4

/-- The rows of ls lie at ao. -/
def isLists (w : World) (ao : Option Addr) (ls : List (List Nat)) : Prop :=
  ∀ i, i < ls.length → ∃ b off a' cap, ao = some ⟨b, off, none⟩ ∧ b < w.heap.size ∧ w.cell? ⟨b, off + i, none⟩ = some (.slice a' (ls.getD i []).length cap) ∧ isBytes w a' (ls.getD i []) ∧
    (ls.getD i []).length ≤ cap ∧ cap ≤ maxLen ∧ (a' = none → cap = 0)
theorem isLists.keep0 {w w' : World} {ao : Option Addr} {ls : List (List Nat)} (h : isLists w ao ls) (hc : Chg [] w w') : isLists w' ao ls := by
  intro i hi
  obtain ⟨b, off, a', cap, h1, h2, h3, h4, h5⟩ := h i hi
  exact ⟨b, off, a', cap, h1, Nat.lt_of_lt_of_le h2 hc.size, (hc.cell (p := ⟨b, off + i, none⟩) h2 (by simp)).trans h3, h4.keep0 hc, h5⟩
theorem isLists.at {w : World} {b off : Nat} {l : List (List Nat)} (h : isLists w (some ⟨b, off, none⟩) l) {i : Nat} (hi : i < l.length) :
    ∃ a' cap, b < w.heap.size ∧ w.cell? ⟨b, off + i, none⟩ = some (.slice a' (l.getD i []).length cap) ∧ isBytes w a' (l.getD i []) ∧ (l.getD i []).length ≤ cap ∧ cap ≤ maxLen ∧ (a' = none → cap = 0) := by
  obtain ⟨b', off', a', cap, h1, h2, h3, h4⟩ := h i hi
  simp only [Option.some.injEq, Addr.mk.injEq, and_true] at h1
  obtain ⟨rfl, rfl⟩ := h1
  exact ⟨a', cap, h2, h3, h4⟩
theorem isLists.addr {w : World} {ao : Option Addr} {l : List (List Nat)} (h : isLists w ao l) {i : Nat} (hi : i < l.length) : ∃ b off, ao = some ⟨b, off, none⟩ := by
  obtain ⟨b, off, _, _, h1, _⟩ := h i hi; exact ⟨b, off, h1⟩

def byteV (n : Nat) : Value := .int .u8 (n : Int)
theorem isBytes.news {w : World} {a : Addr} {l : List Nat} (h : isBytes w (some a) l) : ∀ j u, (l.map byteV)[j]? = some u → w.cell? (a.add j) = some u := by
  intro j u hj
  rw [List.getElem?_map] at hj
  cases hl : l[j]? with
  | none => rw [hl] at hj; cases hj
  | some x =>
    rw [hl] at hj
    have hlt := (List.getElem?_eq_some_iff.1 hl).1
    obtain ⟨b, off, e, _, hc, _⟩ := h j hlt
    cases e
    rw [Addr.add_mid, hc]
    simp only [Option.map_some, Option.some.injEq] at hj
    rw [← hj]
    simp [byteV, List.getD, hl]
theorem isBytes.ofNone {w : World} {l : List Nat} (h : isBytes w none l) : l = [] := by
  cases l with
  | nil => rfl
  | cons x l => obtain ⟨_, _, e, _⟩ := h 0 (by simp); cases e
/-- Bytes behind a row of the call's own, nil or not. -/
theorem wpList_append_bytes {P : Program} {w : World} {ops : Array Oper} {rest : List Oper} {o : Oper} {a : Act} {Q : Exit → Act → World → Prop} (hgd : o.guard = none) (s x : Operand) (t : TypeId)
    (ho : o.op = .call { callee := .builtin .append, args := #[s, x], argTypes := #[t, t] })
    (base : Nat) (e : TypeId) (i : TypeInfo) (z : Value) (ht : P.underlying t = some (.slice e)) (hi : P.info? e = some i) (hz : i.zero = some z)
    (hsize : i.size = 1) (hby : i.bytes = 1) (hzs : z.cells.size = 1)
    (v : Value) (n : Nat) (xs : List Value) (hs : a.eval s = v) (hown : w.ownsRow base e 1 v n xs)
    (ao : Option Addr) (c : Nat) (l : List Nat) (hx : a.eval x = .slice ao l.length c) (hb : isBytes w ao l) (hn : ao = none → c = 0)
    (h63 : n + l.length ≤ 140737488355328) (hbase : base ≤ w.heap.size)
    (h : ∀ v' w', w'.ownsRow base e 1 v' (n + l.length) (xs ++ l.map byteV) → Chg v.ownBlock.toList w w' → (∀ q, v'.ownBlock = some q → base ≤ q) → wpList P ops Q rest (a.put o.dst v') w') : wpList P ops Q (o :: rest) a w := by
  cases ao with
  | none =>
    obtain rfl := hb.ofNone
    obtain rfl := hn rfl
    refine wpList_append_own_none hgd s x t ho base e i 1 ht hi v n xs hs hown hx ?_
    exact h v w (by simpa using hown) (Chg.refl _ _) (fun q hq => (hown.lt q hq).1)
  | some ad =>
    refine wpList_append_own w hgd s x t ho base e i z 1 1 ht hi hz hsize hby hzs (by omega) v n xs hs hown ad l.length c (l.map byteV) hx (by simp) hb.news (by intro u hu; simp at hu; obtain ⟨q, _, rfl⟩ := hu; rfl) (by unfold maxLen; omega) (by omega) hbase ?_
    intro v' w' h1 h2 _
    exact h v' w' h1 (Chg.of_grown h2 (by simp)) (fun q hq => (h1.lt q hq).1)
/-- The bytes of a row of the call's own. -/
theorem owned_bytes {w : World} {base e : Nat} {v : Value} {n : Nat} {l : List Nat} (h : w.ownsRow base e 1 v n (l.map byteV)) (hl : ∀ x ∈ l, x < 256) :
    ∃ ao cap, v = .slice ao l.length cap ∧ isBytes w ao l ∧ l.length ≤ cap ∧ cap ≤ maxLen ∧ (ao = none → cap = 0) ∧ (∀ b off, ao = some ⟨b, off, none⟩ → base ≤ b) := by
  have hn : n = l.length := by have := h.1; simpa using this.symm
  subst hn
  rcases h.2 with ⟨h1, h2⟩ | ⟨g, cap, cur, h1, h2, h3, h4, h5, h6, h7⟩
  · obtain rfl : l = [] := by simpa using h2
    exact ⟨none, 0, h1, fun i hi => by simp at hi, by simp, by simp, fun _ => rfl, by simp⟩
  · refine ⟨some ⟨g, 0, none⟩, cap, h1, ?_, h4, h5, by simp, ?_⟩
    · intro i hi
      refine ⟨g, 0, rfl, lt_of_some h3, ?_, hl _ (by simp [List.getD, hi])⟩
      rw [Nat.zero_add, cell_of_block h3]
      have : (cur.toList.take (l.length * 1))[i]? = (l.map byteV)[i]? := by rw [h7]
      rw [List.getElem?_take, if_pos (by omega)] at this
      rw [← Array.getElem?_toList, this]
      simp [byteV, List.getD, hi]
    · intro b off e; simp at e; omega
theorem owned_row {w : World} {base e n m cap : Nat} {ao : Option Addr} {xs : List Value} (h : w.ownsRow base e 1 (.slice ao m cap) n xs) : ∀ b off, ao = some ⟨b, off, none⟩ → isRow w b e := by
  intro b off he
  subst he
  rcases h.2 with ⟨h1, _⟩ | ⟨g, cap', cur, h1, h2, h3, _⟩
  · cases h1
  · simp only [Value.slice.injEq, Option.some.injEq, Addr.mk.injEq, and_true] at h1
    obtain ⟨⟨rfl, _⟩, _⟩ := h1
    exact ⟨cur, h3⟩
theorem block_bytes {w : World} {b t : Nat} {f : Nat × Nat} {l : List Nat} (h : w.heap[b]? = some (.cells (l.map byteV).toArray t f)) (hl : ∀ x ∈ l, x < 256) : isBytes w (some ⟨b, 0, none⟩) l := by
  intro i hi
  refine ⟨b, 0, rfl, lt_of_some h, ?_, hl _ (by simp [List.getD, hi])⟩
  rw [Nat.zero_add, cell_of_block h]
  simp [byteV, List.getD, hi]
theorem one_list {W : World} {b cap t : Nat} {f : Nat × Nat} {ao : Option Addr} {L : List Nat} (h : W.heap[b]? = some (.cells #[.slice ao L.length cap] t f)) (hb : isBytes W ao L) (h1 : L.length ≤ cap) (h2 : cap ≤ maxLen) (h3 : ao = none → cap = 0) :
    isLists W (some ⟨b, 0, none⟩) [L] := by
  intro i hi
  match i, hi with
  | 0, _ => exact ⟨b, 0, ao, cap, rfl, lt_of_some h, (cell_of_block h 0).trans rfl, hb, h1, h2, h3⟩
  | n + 1, h => exact absurd h (by simp)
theorem one_small {L : List Nat} (h : L.length ≤ 100000) : ∀ k, (([L].take k).flatten).length ≤ 100000 := by
  intro k
  cases k with
  | zero => simp
  | succ k => simpa using h
theorem one_listN {W : World} {b cap t n : Nat} {f : Nat × Nat} {ao : Option Addr} {L : List Nat} (h : W.heap[b]? = some (.cells #[.slice ao n cap] t f)) (hn : L.length = n) (hb : isBytes W ao L) (h1 : L.length ≤ cap) (h2 : cap ≤ maxLen) (h3 : ao = none → cap = 0) :
    isLists W (some ⟨b, 0, none⟩) [L] := by
  subst hn; exact one_list h hb h1 h2 h3
theorem isBytes_nil (w : World) (ao : Option Addr) : isBytes w ao [] := fun i hi => by simp at hi
theorem isLists_nil (w : World) (ao : Option Addr) : isLists w ao [] := fun i hi => by simp at hi
theorem take_getD {α : Type} (l : List α) (d : α) {k : Nat} (h : k < l.length) : l.take (k + 1) = l.take k ++ [l.getD k d] := by
  rw [List.take_succ_eq_append_getElem h]; simp [List.getD, h]
theorem flat_take (l : List (List Nat)) {k : Nat} (h : k < l.length) : (l.take (k + 1)).flatten = (l.take k).flatten ++ l.getD k [] := by
  rw [take_getD l [] h]; simp
end Go.Proofs.Ytpbadnnolheblaa
