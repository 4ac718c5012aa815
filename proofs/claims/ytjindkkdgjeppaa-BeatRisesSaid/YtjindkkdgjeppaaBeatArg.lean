/-
  What comes in: rows of acts, how a detector is made, rows of gaps.
-/
import Derived.Test.YtjindkkdgjeppaaLaw
import Derived.Test.YtjindkkdgjeppaaInts
namespace Go.Proofs.Ytjindkkdgjeppaa
open Go.ChangeShapes Go.WideShapes Go.ChangeAt Go.RowKit

abbrev Act3 := Int × Int × Int
/-- The acts in memory. -/
def isActs (w : World) (ao : Option Addr) (l : List Act3) : Prop :=
  ∀ i, i < l.length → ∃ b off, ao = some ⟨b, off, none⟩ ∧ b < w.heap.size ∧ w.cell? ⟨b, off + i * 3, none⟩ = some (.int .i64 (l.getD i (0, 0, 0)).1) ∧
    w.cell? ⟨b, off + i * 3 + 1, none⟩ = some (.int .i64 (l.getD i (0, 0, 0)).2.1) ∧ w.cell? ⟨b, off + i * 3 + 2, none⟩ = some (.int .i64 (l.getD i (0, 0, 0)).2.2)
theorem isActs.keep0 {w w' : World} {ao : Option Addr} {l : List Act3} (h : isActs w ao l) (hc : Chg [] w w') : isActs w' ao l := by
  intro i hi
  obtain ⟨b, off, h1, h2, h3, h4, h5⟩ := h i hi
  have e := fun o => hc.cell (p := ⟨b, o, none⟩) h2 (by simp)
  exact ⟨b, off, h1, Nat.lt_of_lt_of_le h2 hc.size, (e _).trans h3, (e _).trans h4, (e _).trans h5⟩

theorem isActs.at {w : World} {b off : Nat} {l : List Act3} (h : isActs w (some ⟨b, off, none⟩) l) {i : Nat} (hi : i < l.length) :
    b < w.heap.size ∧ w.cell? ⟨b, off + i * 3, none⟩ = some (.int .i64 (l.getD i (0, 0, 0)).1) ∧ w.cell? ⟨b, off + i * 3 + 1, none⟩ = some (.int .i64 (l.getD i (0, 0, 0)).2.1) ∧ w.cell? ⟨b, off + i * 3 + 2, none⟩ = some (.int .i64 (l.getD i (0, 0, 0)).2.2) := by
  obtain ⟨b', off', h1, h2⟩ := h i hi
  simp only [Option.some.injEq, Addr.mk.injEq, and_true] at h1
  obtain ⟨rfl, rfl⟩ := h1
  exact h2
theorem isActs.addr {w : World} {ao : Option Addr} {l : List Act3} (h : isActs w ao l) {i : Nat} (hi : i < l.length) : ∃ b off, ao = some ⟨b, off, none⟩ := by
  obtain ⟨b, off, h1, _⟩ := h i hi; exact ⟨b, off, h1⟩
theorem three_keep {L : List Nat} {w w' : World} {x o o1 o2 : Nat} {u v z : Value} (hx : x < w.heap.size) (hn : x ∉ L) (h0 : w.cell? ⟨x, o, none⟩ = some u) (h1 : w.cell? ⟨x, o1, none⟩ = some v) (h2 : w.cell? ⟨x, o2, none⟩ = some z) (hc : Chg L w w') :
    (w'.cell? ⟨x, o, none⟩ = some u ∧ w'.cell? ⟨x, o1, none⟩ = some v ∧ w'.cell? ⟨x, o2, none⟩ = some z) ∧ Chg L w w' :=
  ⟨⟨(hc.cell (p := ⟨x, o, none⟩) hx hn).trans h0, (hc.cell (p := ⟨x, o1, none⟩) hx hn).trans h1, (hc.cell (p := ⟨x, o2, none⟩) hx hn).trans h2⟩, hc⟩

theorem Try.cellsAct : Try.prog.cellsOf 42 = 3 := by kernel_rfl
theorem Try.cellsInt : Try.prog.cellsOf 3 = 1 := by kernel_rfl
theorem Try.cellsI64 : Try.prog.cellsOf 2 = 1 := by kernel_rfl
theorem Try.cellsU16 : Try.prog.cellsOf 25 = 1 := by kernel_rfl
theorem Try.cellsNums : Try.prog.cellsOf 23 = 5 := by kernel_rfl

section
variable {H : Type} {enc : TypeId × Value → H} {W : World} {r : Reach} {b0 : Nat}
theorem acts_of {v : Value} (h : Value.okWide Try.prog W r b0 40 v ∧ Rd enc Try.prog W 40 v.cells.toList) :
    ∃ ao l cap, v = .slice ao (List.length l) cap ∧ l.length ≤ 9223372036854775807 ∧ isActs W ao l := by
  rcases arg_slice Try.underlying40 h with rfl | ⟨a, len, cap, rfl, hl, hc, he⟩
  · exact ⟨none, [], 0, rfl, by simp, fun i hi => by simp at hi⟩
  · have hx : ∀ i, i < len → ∃ x : Act3, ∃ b off, some a = some ⟨b, off, none⟩ ∧ b < W.heap.size ∧ W.cell? ⟨b, off + i * 3, none⟩ = some (.int .i64 x.1) ∧
        W.cell? ⟨b, off + i * 3 + 1, none⟩ = some (.int .i64 x.2.1) ∧ W.cell? ⟨b, off + i * 3 + 2, none⟩ = some (.int .i64 x.2.2) := by
      intro i hi
      obtain ⟨b, off, rfl, hb⟩ := row_addr he (by omega) (by rw [Try.cellsAct]; omega)
      obtain ⟨cs, h1, h2⟩ := he i hi
      rw [Try.cellsAct] at h1
      obtain ⟨h3, h4⟩ := row_cells h1
      obtain ⟨_, h5⟩ := h2.struct Try.underlying42
      match cs, h3 with
      | [c0, c1, c2], _ =>
        have f0 : Rd enc Try.prog W 3 (([c0, c1, c2].drop 0).take (Try.prog.cellsOf 3)) := h5 0 _ rfl
        have f1 : Rd enc Try.prog W 3 (([c0, c1, c2].drop 1).take (Try.prog.cellsOf 3)) := h5 1 _ rfl
        have f2 : Rd enc Try.prog W 2 (([c0, c1, c2].drop 2).take (Try.prog.cellsOf 2)) := h5 2 _ rfl
        rw [Try.cellsInt] at f0 f1
        rw [Try.cellsI64] at f2
        simp only [List.drop_zero, List.take_succ_cons, List.take_zero, List.drop_succ_cons] at f0 f1 f2
        obtain ⟨g, e0, _⟩ := f0.int Try.underlying3
        obtain ⟨p, e1, _⟩ := f1.int Try.underlying3
        obtain ⟨u, e2, _⟩ := f2.int Try.underlying2
        simp only [List.cons.injEq, and_true] at e0 e1 e2
        subst e0; subst e1; subst e2
        have k0 := h4 0 (by omega)
        have k1 := h4 1 (by omega)
        have k2 := h4 2 (by omega)
        simp only [Nat.add_zero, List.getElem?_cons_zero, List.getElem?_cons_succ] at k0 k1 k2
        exact ⟨(g, p, u), b, off, rfl, hb, k0, k1, k2⟩
    obtain ⟨l, hl2, h⟩ := list_of ((0 : Int), (0 : Int), (0 : Int)) _ len hx
    subst hl2
    exact ⟨some a, l, cap, rfl, by unfold maxLen at hc; omega, h⟩
theorem nums_of {v : Value} (h : Value.okWide Try.prog W r b0 23 v ∧ Rd enc Try.prog W 23 v.cells.toList) :
    ∃ n me wait more most : Int, v = .agg #[.int .i64 n, .int .i64 me, .int .i64 wait, .int .i64 more, .int .i64 most] ∧ -9223372036854775808 ≤ n ∧ n ≤ 9223372036854775807 ∧ -9223372036854775808 ≤ wait ∧ wait ≤ 9223372036854775807 := by
  obtain ⟨cs, rfl, hs, hf⟩ := arg_struct Try.underlying23 h
  rw [Try.cellsNums] at hs
  obtain ⟨l⟩ := cs
  match l, hs with
  | [c0, c1, c2, c3, c4], _ =>
    have f0 : Rd enc Try.prog W 3 (([c0, c1, c2, c3, c4].drop 0).take (Try.prog.cellsOf 3)) := hf 0 _ rfl
    have f1 : Rd enc Try.prog W 3 (([c0, c1, c2, c3, c4].drop 1).take (Try.prog.cellsOf 3)) := hf 1 _ rfl
    have f2 : Rd enc Try.prog W 2 (([c0, c1, c2, c3, c4].drop 2).take (Try.prog.cellsOf 2)) := hf 2 _ rfl
    have f3 : Rd enc Try.prog W 2 (([c0, c1, c2, c3, c4].drop 3).take (Try.prog.cellsOf 2)) := hf 3 _ rfl
    have f4 : Rd enc Try.prog W 2 (([c0, c1, c2, c3, c4].drop 4).take (Try.prog.cellsOf 2)) := hf 4 _ rfl
    rw [Try.cellsInt] at f0 f1
    rw [Try.cellsI64] at f2 f3 f4
    simp only [List.drop_zero, List.take_succ_cons, List.take_zero, List.drop_succ_cons] at f0 f1 f2 f3 f4
    obtain ⟨x0, e0, b0⟩ := f0.int Try.underlying3
    obtain ⟨x1, e1, b1⟩ := f1.int Try.underlying3
    obtain ⟨x2, e2, b2⟩ := f2.int Try.underlying2
    obtain ⟨x3, e3, b3⟩ := f3.int Try.underlying2
    obtain ⟨x4, e4, b4⟩ := f4.int Try.underlying2
    simp only [List.cons.injEq, and_true] at e0 e1 e2 e3 e4
    subst e0; subst e1; subst e2; subst e3; subst e4
    have := bounds_i64 b0
    have := bounds_i64 b2
    exact ⟨x0, x1, x2, x3, x4, rfl, by omega, by omega, by omega, by omega⟩
theorem gaps_of {v : Value} (h : Value.okWide Try.prog W r b0 24 v ∧ Rd enc Try.prog W 24 v.cells.toList) :
    ∃ ao l cap, v = .slice ao (List.length l) cap ∧ l.length ≤ 9223372036854775807 ∧ isInts .u16 W ao l ∧ ∀ i, i < l.length → 0 ≤ l.getD i 0 ∧ l.getD i 0 ≤ 65535 := by
  rcases arg_slice Try.underlying24 h with rfl | ⟨a, len, cap, rfl, hl, hc, he⟩
  · exact ⟨none, [], 0, rfl, by simp, isInts_nil _ _, fun i hi => by simp at hi⟩
  · have hx : ∀ i, i < len → ∃ x : Int, (∃ b off, some a = some ⟨b, off, none⟩ ∧ b < W.heap.size ∧ W.cell? ⟨b, off + i, none⟩ = some (.int .u16 x)) ∧ 0 ≤ x ∧ x ≤ 65535 := by
      intro i hi
      obtain ⟨b, off, rfl, hb⟩ := row_addr he (by omega) (by rw [Try.cellsU16]; omega)
      obtain ⟨cs, h1, h2⟩ := he i hi
      rw [Try.cellsU16] at h1
      obtain ⟨h3, h4⟩ := row_cells h1
      obtain ⟨n, e1, wn⟩ := h2.int Try.underlying25
      subst e1
      have := bounds_u16 wn
      have := h4 0 (by omega)
      exact ⟨n, ⟨b, off, rfl, hb, by simpa using this⟩, by omega, by omega⟩
    obtain ⟨l, h1, h2⟩ := list_of (0 : Int) _ len hx
    subst h1
    exact ⟨some a, l, cap, rfl, by unfold maxLen at hc; omega, fun i hi => (h2 i hi).1, fun i hi => (h2 i hi).2⟩
end
end Go.Proofs.Ytjindkkdgjeppaa
