/-
  A struct of six cells that is stored whole; what parts it from a detector.
-/
import Derived.Test.YtjindkkdgjeppaaBeatRef
namespace Go.Proofs.Ytjindkkdgjeppaa
open Go.RowKit

theorem put6 {w : World} {B T : Nat} {u0 u1 u2 u3 u4 u5 v0 v1 v2 v3 v4 v5 : Value} (h : w.heap[B]? = some (.cells #[u0, u1, u2, u3, u4, u5] T)) :
    ((((((w.setCell ⟨B, 0, none⟩ v0).setCell ⟨B, 1, none⟩ v1).setCell ⟨B, 2, none⟩ v2).setCell ⟨B, 3, none⟩ v3).setCell ⟨B, 4, none⟩ v4).setCell ⟨B, 5, none⟩ v5).heap[B]? = some (.cells #[v0, v1, v2, v3, v4, v5] T) ∧
    Chg [B] w ((((((w.setCell ⟨B, 0, none⟩ v0).setCell ⟨B, 1, none⟩ v1).setCell ⟨B, 2, none⟩ v2).setCell ⟨B, 3, none⟩ v3).setCell ⟨B, 4, none⟩ v4).setCell ⟨B, 5, none⟩ v5) := by
  constructor
  · rw [block_set (block_set (block_set (block_set (block_set (block_set h)))))]; rfl
  · exact ((((((Chg.refl [B] w).setCell (.inl (by simp)) _).setCell (.inl (by simp)) _).setCell (.inl (by simp)) _).setCell (.inl (by simp)) _).setCell (.inl (by simp)) _).setCell (.inl (by simp)) _
theorem isB.sep {w : World} {b bt B T : Nat} {d : BD} {cs : Array Value} (H : isB w b bt d) (k : w.heap[B]? = some (.cells cs T)) (h1 : T ≠ 50) (h2 : 52 ≠ T) : b ≠ B ∧ bt ≠ B := by
  refine ⟨?_, H.ty.ne k h2⟩
  rintro rfl
  have := H.hb
  rw [k] at this
  simp only [Option.some.injEq, Obj.cells.injEq] at this
  exact h1 this.2.1
end Go.Proofs.Ytjindkkdgjeppaa
