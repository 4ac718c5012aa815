/-
  The document's example.
-/
import Derived.Test.YtoidbcmhlnelgaaCrcJoin
import Derived.Lib.SmallJoins
namespace Go.Proofs.Ytoidbcmhlnelgaa
open Go.RowKit Crc

theorem check_sum : (sum [49, 50, 51, 52, 53, 54, 55, 56, 57]).toNat = 3421780262 := by decide +kernel
theorem empty_sum : (sum []).toNat = 0 := by decide +kernel

abbrev row5 : Array Value := #[Value.int IntKind.u8 49, Value.int IntKind.u8 50, Value.int IntKind.u8 51, Value.int IntKind.u8 52, Value.int IntKind.u8 53]
set_option maxHeartbeats 1000000 in
theorem awake_any (w : World) : Calls Try.prog 8 #[] w fun e w' => e = .returned (.bool true) ∧ Chg [] w w' := by
  have kc := fun (w : World) (C : Array Value) (n c : Nat) => Lib.run_convert_bytes_const (P := Try.prog) w 28 5 C n c Try.underlying28 Try.underlying5
  have kc2 := fun (C : Array Value) (n c : Nat) => Joins.run_convert_bytes_const_at (P := Try.prog) (w.alloc (.cells row5 5 (5, 6))) 28 5 C n c (w.heap.size + 1) (by simp) Try.underlying28 Try.underlying5
  go_enter Try.func8, Try.ntmps8
  go_wp2_with fail
  obtain ⟨k1, k2, k3⟩ := three_blocks w (.cells row5 5 (5, 6)) (.cells #[Value.int IntKind.u8 54, Value.int IntKind.u8 55, Value.int IntKind.u8 56, Value.int IntKind.u8 57] 5 (4, 5))
    (.cells #[Value.slice (some { block := w.heap.size, off := 0 }) 5 5, Value.slice (some { block := w.heap.size + 1, off := 0 }) 4 4] 28)
  have hc := (((Chg.refl [] w).alloc (.cells row5 5 (5, 6))).alloc (.cells #[Value.int IntKind.u8 54, Value.int IntKind.u8 55, Value.int IntKind.u8 56, Value.int IntKind.u8 57] 5 (4, 5))).alloc
    (.cells #[Value.slice (some { block := w.heap.size, off := 0 }) 5 5, Value.slice (some { block := w.heap.size + 1, off := 0 }) 4 4] 28)
  generalize ((w.alloc (.cells row5 5 (5, 6))).alloc (.cells #[Value.int IntKind.u8 54, Value.int IntKind.u8 55, Value.int IntKind.u8 56, Value.int IntKind.u8 57] 5 (4, 5))).alloc
    (.cells #[Value.slice (some { block := w.heap.size, off := 0 }) 5 5, Value.slice (some { block := w.heap.size + 1, off := 0 }) 4 4] 28) = W at *
  have b1 := block_bytes (l := [49, 50, 51, 52, 53]) k1 (by decide)
  have b2 := block_bytes (l := [54, 55, 56, 57]) k2 (by decide)
  have hls : isLists W (some ⟨w.heap.size + 1 + 1, 0, none⟩) [[49, 50, 51, 52, 53], [54, 55, 56, 57]] := by
    intro i hi
    match i, hi with
    | 0, _ => exact ⟨_, 0, _, 5, rfl, lt_of_some k3, (cell_of_block k3 0).trans rfl, b1, by decide, by decide, by simp⟩
    | 1, _ => exact ⟨_, 0, _, 4, rfl, lt_of_some k3, (cell_of_block k3 1).trans rfl, b2, by decide, by decide, by simp⟩
    | n + 2, h => exact absurd h (by simp)
  refine (sum_any W _ _ 2 hls (by decide)).mono ?_
  rintro e w' ⟨rfl, hc2⟩
  have hs : (sum [[49, 50, 51, 52, 53], [54, 55, 56, 57]].flatten).toNat = 3421780262 := check_sum
  rw [hs]
  go_wp2_with fail
  refine (sum_any w' none [] 0 (isLists_nil _ _) (by simp)).mono ?_
  rintro e w'' ⟨rfl, hc3⟩
  have hs2 : (sum [].flatten).toNat = 0 := empty_sum
  rw [hs2]
  go_wp2_with fail
  go_ret
  exact ⟨rfl, (hc.trans hc2).trans hc3⟩
end Go.Proofs.Ytoidbcmhlnelgaa
