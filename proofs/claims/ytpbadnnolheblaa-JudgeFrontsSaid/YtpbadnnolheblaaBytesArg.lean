/-
  Rows of bytes that came in.
-/
import Derived.Test.YtpbadnnolheblaaLaw
import Derived.Test.YtpbadnnolheblaaBytes
namespace Go.Proofs.Ytpbadnnolheblaa
open Go.ChangeShapes Go.WideShapes Go.ChangeAt Go.RowKit

theorem Try.cellsU8 : Try.prog.cellsOf 5 = 1 := by kernel_rfl
theorem Try.cellsU8s : Try.prog.cellsOf 32 = 1 := by kernel_rfl

section
variable {H : Type} {enc : TypeId × Value → H} {W : World}
theorem bytes_list {a : Addr} {len : Nat} (he : ∀ i, i < len → ∃ cs', W.cells? 0 (a.add (i * Try.prog.cellsOf 5)) (Try.prog.cellsOf 5) = some cs' ∧ Rd enc Try.prog W 5 cs') :
    ∃ l : List Nat, l.length = len ∧ isBytes W (some a) l := by
  have hx : ∀ i, i < len → ∃ x : Nat, ∃ b off, some a = some ⟨b, off, none⟩ ∧ b < W.heap.size ∧ W.cell? ⟨b, off + i, none⟩ = some (.int .u8 x) ∧ x < 256 := by
    intro i hi
    obtain ⟨b, off, rfl, hb⟩ := row_addr he (by omega) (by rw [Try.cellsU8]; omega)
    obtain ⟨cs, h1, h2⟩ := he i hi
    rw [Try.cellsU8] at h1
    obtain ⟨h3, h4⟩ := row_cells h1
    obtain ⟨n, e1, wn⟩ := h2.int Try.underlying5
    subst e1
    have hb2 : 0 ≤ n ∧ n < 256 := by
      simp [Lit.wf, IntKind.bits, IntKind.signed, IntKind.min, IntKind.max] at wn
      omega
    have := h4 0 (by omega)
    refine ⟨n.toNat, b, off, rfl, hb, ?_, by omega⟩
    rw [show ((n.toNat : Nat) : Int) = n by omega]
    simpa using this
  obtain ⟨l, h1, h2⟩ := list_of (0 : Nat) _ len hx
  subst h1
  exact ⟨l, rfl, h2⟩

/-- A value that is a row of bytes. -/
theorem bytes_rd {cs : List Value} (h : Rd enc Try.prog W 32 cs) : ∃ ao l cap, cs = [.slice ao (List.length l) cap] ∧ isBytes W ao l ∧ l.length ≤ cap ∧ cap ≤ maxLen ∧ (ao = none → cap = 0) := by
  rcases h.slice Try.underlying32 with rfl | ⟨a, len, cap, rfl, hl, hc, he⟩
  · exact ⟨none, [], 0, rfl, isBytes_nil _ _, by simp, by simp, fun _ => rfl⟩
  · obtain ⟨l, rfl, hb⟩ := bytes_list he
    exact ⟨some a, l, cap, rfl, hb, hl, hc, by simp⟩
theorem arg_bytes {r : Reach} {b0 : Nat} {v : Value} (h : Value.okWide Try.prog W r b0 32 v ∧ Rd enc Try.prog W 32 v.cells.toList) :
    ∃ ao l cap, v = .slice ao (List.length l) cap ∧ isBytes W ao l ∧ l.length ≤ cap ∧ cap ≤ maxLen ∧ (ao = none → cap = 0) := by
  rcases arg_slice Try.underlying32 h with rfl | ⟨a, len, cap, rfl, hl, hc, he⟩
  · exact ⟨none, [], 0, rfl, isBytes_nil _ _, by simp, by simp, fun _ => rfl⟩
  · obtain ⟨l, rfl, hb⟩ := bytes_list he
    exact ⟨some a, l, cap, rfl, hb, hl, hc, by simp⟩
theorem arg_lists {r : Reach} {b0 : Nat} {v : Value} (h : Value.okWide Try.prog W r b0 43 v ∧ Rd enc Try.prog W 43 v.cells.toList) :
    ∃ ao l cap, v = .slice ao (List.length l) cap ∧ isLists W ao l ∧ l.length ≤ cap ∧ cap ≤ maxLen ∧ (ao = none → cap = 0) := by
  rcases arg_slice Try.underlying43 h with rfl | ⟨a, len, cap, rfl, hl, hc, he⟩
  · exact ⟨none, [], 0, rfl, isLists_nil _ _, by simp, by simp, fun _ => rfl⟩
  · have hx : ∀ i, i < len → ∃ x : List Nat, ∃ b off a' cap, some a = some ⟨b, off, none⟩ ∧ b < W.heap.size ∧ W.cell? ⟨b, off + i, none⟩ = some (.slice a' x.length cap) ∧ isBytes W a' x ∧ x.length ≤ cap ∧ cap ≤ maxLen ∧ (a' = none → cap = 0) := by
      intro i hi
      obtain ⟨b, off, rfl, hb⟩ := row_addr he (by omega) (by rw [Try.cellsU8s]; omega)
      obtain ⟨cs, h1, h2⟩ := he i hi
      rw [Try.cellsU8s] at h1
      obtain ⟨h3, h4⟩ := row_cells h1
      obtain ⟨a', l, cap', rfl, q1, q2, q3, q4⟩ := bytes_rd h2
      have := h4 0 (by omega)
      exact ⟨l, b, off, a', cap', rfl, hb, by simpa using this, q1, q2, q3, q4⟩
    obtain ⟨l, h1, h2⟩ := list_of ([] : List Nat) _ len hx
    subst h1
    exact ⟨some a, l, cap, rfl, h2, hl, hc, by simp⟩
end
end Go.Proofs.Ytpbadnnolheblaa
