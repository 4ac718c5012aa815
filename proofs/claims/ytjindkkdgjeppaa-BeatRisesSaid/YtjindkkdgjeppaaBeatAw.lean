/-
  The document's example.
-/
import Derived.Test.YtjindkkdgjeppaaBeatRef
namespace Go.Proofs.Ytjindkkdgjeppaa
open Go.RowKit

theorem ex1 : ((newB 2 0 3 1 9).tell 3).suspL = [] := by decide +kernel
theorem ex2 : (((newB 2 0 3 1 9).tell 3).tell 4).suspL = [1] := by decide +kernel
theorem ex3 : ((((newB 2 0 3 1 9).tell 3).tell 4).heardL 4 [1]).2 = 1 := by decide +kernel
theorem ex4 : (((((newB 2 0 3 1 9).tell 3).tell 4).heardL 4 [1]).1.tell 8).suspL = [] := by decide +kernel
theorem ex5 : ((((((newB 2 0 3 1 9).tell 3).tell 4).heardL 4 [1]).1.tell 8).tell 9).suspL = [1] := by decide +kernel

set_option maxHeartbeats 1000000 in
theorem awake_any (w : World) : Calls Try.prog 7 #[] w fun e w' => e = .returned (.bool true) ∧ Chg [] w w' := by
  have X1 := Lib.hid ex1
  have X2 := Lib.hid ex2
  have X3 := Lib.hid ex3
  have X4 := Lib.hid ex4
  have X5 := Lib.hid ex5
  have hw0 : (((newB 2 0 3 1 9).tell 3).tell 4).wrong = 0 := rfl
  go_enter Try.func7, Try.ntmps7
  go_wp2_with fail
  refine (new_any 2 0 3 1 9 w (by omega) (by omega)).mono ?_
  rintro e w1 ⟨b, bt, rfl, H1, hc1, hb, hbt⟩
  generalize newB 2 0 3 1 9 = d0 at *
  have hS : ∀ x ∈ [b, bt], x ∈ ([] : List Nat) ∨ w.heap.size ≤ x := by simp; omega
  go_wp2_with fail
  refine (suspects_any 3 w1 H1).mono ?_
  rintro e w2 ⟨ao1, cap1, rfl, i1, H2, hc2, f1⟩
  have hb2 := lt_of_some H1.hb
  have hbt2 := H1.ty.lt
  rw [X1.out] at i1 ⊢
  generalize d0.tell 3 = d1 at *
  go_wp2_with fail
  refine (suspects_any 4 w2 H2).mono ?_
  rintro e w3 ⟨ao2, cap2, rfl, i2, H3, hc3, f2⟩
  rw [X2.out] at i2 ⊢
  generalize d1.tell 4 = d2 at *
  have hsz2 := hc2.size
  obtain ⟨x2, off2, rfl⟩ := i2.addr (i := 0) (by simp)
  have hx2 := f2 x2 off2 rfl
  go_wp2_with fail
  have kk := block_new w3 (.cells #[.int .i64 1] 3)
  have hca := (Chg.refl [] w3).alloc (.cells #[.int .i64 1] 3)
  have hb3 := lt_of_some H3.hb
  have hbt3 := H3.ty.lt
  have hone := block_ints (k := .i64) (l := [1]) kk
  have hh := heard_any 4 (some ⟨w3.heap.size, 0, none⟩) [1] 1 _ (H3.keep0 hca) hone (by simp) (by intro x off e; simp at e; omega) (by rw [hw0]; omega) (by rw [hw0]; omega)
  generalize w3.alloc (.cells #[.int .i64 1] 3) = W3 at *
  refine hh.mono ?_
  rintro e w4 ⟨rfl, H4, hc4⟩
  rw [X3.out]
  generalize (d2.heardL 4 [1]).1 = d3 at *
  go_wp2_with fail
  refine (suspects_any 8 w4 H4).mono ?_
  rintro e w5 ⟨ao3, cap3, rfl, i3, H5, hc5, f3⟩
  rw [X4.out] at i3 ⊢
  generalize d3.tell 8 = d4 at *
  go_wp2_with fail
  refine (suspects_any 9 w5 H5).mono ?_
  rintro e w6 ⟨ao4, cap4, rfl, i4, H6, hc6, f4⟩
  rw [X5.out] at i4 ⊢
  have hn : ∀ y ∈ [b, bt], x2 ≠ y := by simp; omega
  have hcx : Chg [b, bt] w3 w6 := (((hca.mono (by simp)).trans hc4).trans (hc5.mono (by simp))).trans (hc6.mono (by simp))
  have i2' := i2.keep hcx (by intro y off e; simp at e; obtain ⟨rfl, _⟩ := e; intro hm; exact hn _ hm rfl)
  obtain ⟨_, hcell⟩ := i2'.at (i := 0) (by simp)
  have hcell2 : w6.cell? ⟨x2, off2, none⟩ = some (.int .i64 1) := hcell
  have hall : Chg [] w w6 := hc1.then ((hc2.mono (S' := [b, bt]) (by simp)).trans ((hc3.mono (by simp)).trans hcx)) hS
  clear hcell
  go_wp2_with fail
  go_ret
  exact ⟨rfl, hall⟩
end Go.Proofs.Ytjindkkdgjeppaa
