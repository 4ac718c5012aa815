/-
  What was sent, as it came in.
-/
import Derived.Test.YtpbadnnolheblaaBytesArg
import Derived.Test.YtpbadnnolheblaaJudge2
namespace Go.Proofs.Ytpbadnnolheblaa
open Go.ChangeShapes Go.WideShapes Go.ChangeAt Go.RowKit

theorem Try.cellsU8ss : Try.prog.cellsOf 43 = 1 := by kernel_rfl

section
variable {H : Type} {enc : TypeId × Value → H} {W : World}
/-- A value that is a row of rows of bytes. -/
theorem lists_rd {cs : List Value} (h : Rd enc Try.prog W 43 cs) : ∃ ao l cap, cs = [.slice ao (List.length l) cap] ∧ isLists W ao l ∧ l.length ≤ cap ∧ cap ≤ maxLen ∧ (ao = none → cap = 0) := by
  rcases h.slice Try.underlying43 with rfl | ⟨a, len, cap, rfl, hl, hc, he⟩
  · exact ⟨none, [], 0, rfl, isLists_nil _ _, by simp, by simp, fun _ => rfl⟩
  · have hx : ∀ i, i < len → ∃ x : List Nat, ∃ b off a' cap, some a = some ⟨b, off, none⟩ ∧ b < W.heap.size ∧ W.cell? ⟨b, off + i, none⟩ = some (.slice a' x.length cap) ∧ isBytes W a' x ∧ x.length ≤ cap ∧ cap ≤ maxLen ∧ (a' = none → cap = 0) := by
      intro i hi
      obtain ⟨b, off, rfl, hb⟩ := row_addr he (by omega) (by rw [Try.cellsU8s]; omega)
      obtain ⟨cs, h1, h2⟩ := he i hi
      rw [Try.cellsU8s] at h1
      obtain ⟨h3, h4⟩ := row_cells h1
      obtain ⟨a', l, cap', rfl, q1, q2, q3, q4⟩ := bytes_rd h2
      have := h4 0 (by omega)
      exact ⟨l, b, off, a', cap', rfl, hb, by simpa using this, q1, q2, q3, q4⟩
    obtain ⟨l, h1, h2⟩ := list_of ([] : List Nat) _ len hx
    subst h1
    exact ⟨some a, l, cap, rfl, h2, hl, hc, by simp⟩
theorem arg_sent {r : Reach} {b0 : Nat} {v : Value} (h : Value.okWide Try.prog W r b0 22 v ∧ Rd enc Try.prog W 22 v.cells.toList) :
    ∃ ao l cap, v = .slice ao (List.length l) cap ∧ isSent W ao l ∧ l.length ≤ cap ∧ cap ≤ maxLen := by
  rcases arg_slice Try.underlying22 h with rfl | ⟨a, len, cap, rfl, hl, hc, he⟩
  · exact ⟨none, [], 0, rfl, fun i hi => absurd hi (by simp), by simp, by simp⟩
  · have hx : ∀ i, i < len → ∃ x : List (List Nat), ∃ b off a' cap, some a = some ⟨b, off, none⟩ ∧ b < W.heap.size ∧ W.cell? ⟨b, off + i, none⟩ = some (.slice a' x.length cap) ∧ isLists W a' x ∧ x.length ≤ cap ∧ cap ≤ maxLen := by
      intro i hi
      obtain ⟨b, off, rfl, hb⟩ := row_addr he (by omega) (by rw [Try.cellsU8ss]; omega)
      obtain ⟨cs, h1, h2⟩ := he i hi
      rw [Try.cellsU8ss] at h1
      obtain ⟨h3, h4⟩ := row_cells h1
      obtain ⟨a', l, cap', rfl, q1, q2, q3, q4⟩ := lists_rd h2
      have := h4 0 (by omega)
      exact ⟨l, b, off, a', cap', rfl, hb, by simpa using this, q1, q2, q3⟩
    obtain ⟨l, h1, h2⟩ := list_of ([] : List (List Nat)) _ len hx
    subst h1
    exact ⟨some a, l, cap, rfl, h2, hl, hc⟩
end
end Go.Proofs.Ytpbadnnolheblaa
