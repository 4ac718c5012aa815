/-
  A row of acts that came in, in memory: what the rows' readings give to the walks.
-/
import Derived.Test.YtdoebgbjpimkaaaGrantAw
import Derived.Test.YtdoebgbjpimkaaaGrantComm
import Derived.Test.YtdoebgbjpimkaaaLaw
namespace Go.Proofs.Ytdoebgbjpimkaaa
open Go.ChangeShapes Go.WideShapes Go.ChangeAt Go.RowKit

theorem fold_snoc (g : GM) (l : List Act3) (k : Nat) (h : k < l.length) : (l.take (k + 1)).foldl GM.act g = GM.act ((l.take k).foldl GM.act g) (l.getD k (false, 0, 0)) := by
  rw [List.take_succ_eq_append_getElem h, List.foldl_append]
  simp only [List.foldl_cons, List.foldl_nil, List.getD, List.getElem?_eq_getElem h]
  rfl
theorem fold_rev (g : GM) (l : List Act3) {k m : Nat} (h : m + 1 + k = l.length) : (l.reverse.take (k + 1)).foldl GM.act g = GM.act ((l.reverse.take k).foldl GM.act g) (l.getD m (false, 0, 0)) := by
  rw [fold_snoc g l.reverse k (by simp; omega)]
  congr 1
  have : l.length - 1 - k = m := by omega
  simp only [List.getD, List.getElem?_reverse (show k < l.length by omega), this]

/-- The acts in memory. -/
def isActs (w : World) (ao : Option Addr) (l : List Act3) : Prop :=
  ∀ i, i < l.length → ∃ b off, ao = some ⟨b, off, none⟩ ∧ b < w.heap.size ∧ w.cell? ⟨b, off + i * 3, none⟩ = some (.bool (l.getD i (false, 0, 0)).1) ∧
    w.cell? ⟨b, off + i * 3 + 1, none⟩ = some (.int .i64 (l.getD i (false, 0, 0)).2.1) ∧ w.cell? ⟨b, off + i * 3 + 2, none⟩ = some (.int .u64 (l.getD i (false, 0, 0)).2.2) ∧
    0 ≤ (l.getD i (false, 0, 0)).2.2 ∧ (l.getD i (false, 0, 0)).2.2 < 18446744073709551616

theorem isActs.keep {w w' : World} {ao : Option Addr} {l : List Act3} (h : isActs w ao l) (hc : Chg [] w w') : isActs w' ao l := by
  intro i hi
  obtain ⟨b, off, h1, h2, h3, h4, h5, h6⟩ := h i hi
  have e := fun o => hc.cell (p := ⟨b, o, none⟩) h2 (by simp)
  exact ⟨b, off, h1, Nat.lt_of_lt_of_le h2 hc.size, (e _).trans h3, (e _).trans h4, (e _).trans h5, h6⟩

theorem Try.cellsAct : Try.prog.cellsOf 28 = 3 := by kernel_rfl
theorem Try.cellsBool : Try.prog.cellsOf 4 = 1 := by kernel_rfl
theorem Try.cellsInt : Try.prog.cellsOf 3 = 1 := by kernel_rfl
theorem Try.cellsU64 : Try.prog.cellsOf 26 = 1 := by kernel_rfl

theorem acts_of {H : Type} {enc : TypeId × Value → H} {W : World} {r : Reach} {b0 : Nat} {v : Value} (h : Value.okWide Try.prog W r b0 22 v ∧ Rd enc Try.prog W 22 v.cells.toList) :
    ∃ ao l cap, v = .slice ao (List.length l) cap ∧ l.length ≤ 9223372036854775807 ∧ isActs W ao l := by
  rcases arg_slice Try.underlying22 h with rfl | ⟨a, len, cap, rfl, hl, hc, he⟩
  · exact ⟨none, [], 0, rfl, by simp, fun i hi => by simp at hi⟩
  · have hx : ∀ i, i < len → ∃ x : Act3, ∃ b off, some a = some ⟨b, off, none⟩ ∧ b < W.heap.size ∧ W.cell? ⟨b, off + i * 3, none⟩ = some (.bool x.1) ∧
        W.cell? ⟨b, off + i * 3 + 1, none⟩ = some (.int .i64 x.2.1) ∧ W.cell? ⟨b, off + i * 3 + 2, none⟩ = some (.int .u64 x.2.2) ∧ 0 ≤ x.2.2 ∧ x.2.2 < 18446744073709551616 := by
      intro i hi
      obtain ⟨b, off, rfl, hb⟩ := row_addr he (by omega) (by rw [Try.cellsAct]; omega)
      obtain ⟨cs, h1, h2⟩ := he i hi
      rw [Try.cellsAct] at h1
      obtain ⟨h3, h4⟩ := row_cells h1
      obtain ⟨_, h5⟩ := h2.struct Try.underlying28
      match cs, h3 with
      | [c0, c1, c2], _ =>
        have f0 : Rd enc Try.prog W 4 (([c0, c1, c2].drop 0).take (Try.prog.cellsOf 4)) := h5 0 _ rfl
        have f1 : Rd enc Try.prog W 3 (([c0, c1, c2].drop 1).take (Try.prog.cellsOf 3)) := h5 1 _ rfl
        have f2 : Rd enc Try.prog W 26 (([c0, c1, c2].drop 2).take (Try.prog.cellsOf 26)) := h5 2 _ rfl
        rw [Try.cellsBool] at f0
        rw [Try.cellsInt] at f1
        rw [Try.cellsU64] at f2
        simp only [List.drop_zero, List.take_succ_cons, List.take_zero, List.drop_succ_cons] at f0 f1 f2
        obtain ⟨g, e0⟩ := f0.bool Try.underlying4
        obtain ⟨p, e1, _⟩ := f1.int Try.underlying3
        obtain ⟨u, e2, wu⟩ := f2.int Try.underlying26
        simp only [List.cons.injEq, and_true] at e0 e1 e2
        subst e0; subst e1; subst e2
        have k0 := h4 0 (by omega)
        have k1 := h4 1 (by omega)
        have k2 := h4 2 (by omega)
        simp only [Nat.add_zero, List.getElem?_cons_zero, List.getElem?_cons_succ] at k0 k1 k2
        have := bounds_u64 wu
        exact ⟨(g, p, u), b, off, rfl, hb, k0, k1, k2, this.1, by dsimp only; omega⟩
    obtain ⟨l, hl2, h⟩ := list_of (false, (0 : Int), (0 : Int)) _ len hx
    subst hl2
    exact ⟨some a, l, cap, rfl, by unfold maxLen at hc; omega, h⟩
end Go.Proofs.Ytdoebgbjpimkaaa
