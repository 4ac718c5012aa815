/-
  Package beat: New.
-/
import Derived.Test.YtjindkkdgjeppaaBeat5
namespace Go.Proofs.Ytjindkkdgjeppaa
open Go.RowKit

def nN (n : Int) : Int := max 1 (min n 64)
def nW (wait : Int) : Int := max 1 (min wait 1099511627776)
def nMe (n me : Int) : Int := max 0 (min me (nN n - 1))
def nMore (more : Int) : Int := max 0 (min more 1099511627776)
def nMost (wait most : Int) : Int := max (nW wait) (min most 1099511627776)
def newB (n me wait more most : Int) : BD := ⟨List.replicate (nN n).toNat ⟨0, nW wait, false⟩, nMe n me, nMore more, nMost wait most, 0, 0⟩
theorem newB_len (n me wait more most : Int) : (newB n me wait more most).len = (nN n).toNat := by simp [newB, BD.len]
theorem newB_at (n me wait more most : Int) {i : Nat} (h : i < (nN n).toNat) : (newB n me wait more most).at i = ⟨0, nW wait, false⟩ := by
  simp [newB, BD.at, List.getD, List.getElem?_replicate, h]
theorem newB_wf (n me wait more most : Int) : (newB n me wait more most).wf := by
  have hl := newB_len n me wait more most
  have h1 : 1 ≤ nN n ∧ nN n ≤ 64 := by unfold nN; omega
  have h2 : 1 ≤ nW wait ∧ nW wait ≤ 1099511627776 := by unfold nW; omega
  have hme : 0 ≤ nMe n me ∧ nMe n me < nN n := by unfold nMe; omega
  have hmo : 0 ≤ nMore more ∧ nMore more ≤ 1099511627776 := by unfold nMore; omega
  have hms : nW wait ≤ nMost wait most ∧ nMost wait most ≤ 1099511627776 := by unfold nMost; omega
  have q1 : (newB n me wait more most).me = nMe n me := rfl
  have q2 : (newB n me wait more most).more = nMore more := rfl
  have q3 : (newB n me wait more most).most = nMost wait most := rfl
  have q4 : (newB n me wait more most).now = 0 := rfl
  refine ⟨by omega, by omega, by omega, by omega, by omega, by omega, by omega, by omega, by omega, ?_, ?_, ?_, ?_⟩
  all_goals
    intro i hi
    rw [hl] at hi
    rw [newB_at n me wait more most hi]
  · exact Int.le_refl _
  · rw [q4]; exact Int.le_refl _
  · exact h2.1
  · rw [q3]; exact hms.1

theorem made3 (a b c : Value) (N : Nat) {i : Nat} (h : i < N) : (madeCells #[a, b, c] (N * 3))[i * 3]? = some a ∧ (madeCells #[a, b, c] (N * 3))[i * 3 + 1]? = some b ∧ (madeCells #[a, b, c] (N * 3))[i * 3 + 2]? = some c := by
  have hs : (madeCells #[a, b, c] (N * 3)).size = N * 3 := by simp [madeCells]
  refine ⟨?_, ?_, ?_⟩
  all_goals
    rw [Array.getElem?_eq_getElem (by rw [hs]; omega)]
    simp only [madeCells, Array.getElem_ofFn, Option.some.injEq]
    simp [Nat.add_mod, Nat.mul_mod]
theorem Try.info_other : (Try.prog.info? 52).map (fun i => (i.zero, i.size, i.bytes)) = some (some (.agg #[.int .i64 0, .int .i64 0, .bool false]), 3, 24) := by kernel_rfl

def NewPost (d : BD) (w : World) (e : Ending) (w' : World) : Prop := ∃ b bt, e = .returned (.pointer (some ⟨b,0,none⟩)) ∧ isB w' b bt d ∧ Chg [] w w' ∧ w.heap.size ≤ b ∧ w.heap.size ≤ bt

set_option maxRecDepth 100000 in
set_option maxHeartbeats 2000000 in
theorem new_any (n me wait more most : Int) (w : World) (b1 : -9223372036854775808 ≤ n) (b2 : n ≤ 9223372036854775807) :
    Calls Try.prog 8 #[.int .i64 n, .int .i64 me, .int .i64 wait, .int .i64 more, .int .i64 most] w (NewPost (newB n me wait more most) w) := by
  obtain ⟨i0, hi, hz0, hz1, hz2⟩ := info_parts Try.info_other
  have HW := Lib.hid (newB_wf n me wait more most)
  have hl := newB_len n me wait more most
  have HAT := Lib.hid (fun i => @newB_at n me wait more most i)
  obtain ⟨a1, e1⟩ : ∃ a, (if (64 : Int) < n then (64 : Int) else n) = a := ⟨_, rfl⟩
  obtain ⟨N, e2⟩ : ∃ N : Nat, (if (1 : Int) < a1 then a1 else 1) = (N : Int) := ⟨(if (1 : Int) < a1 then a1 else 1).toNat, by split <;> omega⟩
  have hN : nN n = N := by rw [← e2, ← e1]; unfold nN; split <;> split <;> omega
  have hN1 : 1 ≤ N ∧ N ≤ 64 := by unfold nN at hN; omega
  obtain ⟨a2, e3⟩ : ∃ a, (if (1099511627776 : Int) < wait then (1099511627776 : Int) else wait) = a := ⟨_, rfl⟩
  obtain ⟨W, e4⟩ : ∃ W, (if (1 : Int) < a2 then a2 else 1) = W := ⟨_, rfl⟩
  have hW : nW wait = W := by rw [← e4, ← e3]; unfold nW; split <;> split <;> omega
  obtain ⟨a3, e5⟩ : ∃ a, (if (N : Int) - 1 < me then (N : Int) - 1 else me) = a := ⟨_, rfl⟩
  obtain ⟨M, e6⟩ : ∃ M, (if (0 : Int) < a3 then a3 else 0) = M := ⟨_, rfl⟩
  have hM : nMe n me = M := by rw [← e6, ← e5]; unfold nMe; rw [hN]; split <;> split <;> omega
  obtain ⟨a4, e7⟩ : ∃ a, (if (1099511627776 : Int) < more then (1099511627776 : Int) else more) = a := ⟨_, rfl⟩
  obtain ⟨R, e8⟩ : ∃ R, (if (0 : Int) < a4 then a4 else 0) = R := ⟨_, rfl⟩
  have hR : nMore more = R := by rw [← e8, ← e7]; unfold nMore; split <;> split <;> omega
  obtain ⟨a5, e9⟩ : ∃ a, (if (1099511627776 : Int) < most then (1099511627776 : Int) else most) = a := ⟨_, rfl⟩
  obtain ⟨T, e10⟩ : ∃ T, (if W < a5 then a5 else W) = T := ⟨_, rfl⟩
  have hT : nMost wait most = T := by rw [← e10, ← e9]; unfold nMost; rw [hW]; split <;> split <;> omega
  have HB := Lib.hid (show newB n me wait more most = ⟨List.replicate N ⟨0, W, false⟩, M, R, T, 0, 0⟩ by unfold newB; rw [hN, hW, hM, hR, hT]; rfl)
  have HNN := Lib.hid hN
  have HWW := Lib.hid hW
  rw [hN] at hl
  have HL := Lib.hid hl
  clear hN hW hM hR hT hl
  have r1 := fun wx => run_make (P := Try.prog) wx 48 52 i0 _ Try.underlying48 hi hz0 .i64 .i64 N N (by omega) (by omega) (by rw [hz2]; omega) (by omega)
  rw [hz1] at r1
  go_enter Try.func8, Try.ntmps8
  go_upto_region 4 with fail
  obtain ⟨k1, k2⟩ := two_blocks w (.cells (madeCells #[Value.int IntKind.i64 0, Value.int IntKind.i64 0, Value.bool false] (N * 3)) 52)
    (.cells #[.slice (some ⟨w.heap.size, 0, none⟩) N N, .int .i64 M, .int .i64 R, .int .i64 T, .int .i64 0, .int .i64 0] 50)
  have hcc := ((Chg.refl [] w).alloc (.cells (madeCells #[Value.int IntKind.i64 0, Value.int IntKind.i64 0, Value.bool false] (N * 3)) 52)).alloc
    (.cells #[.slice (some ⟨w.heap.size, 0, none⟩) N N, .int .i64 M, .int .i64 R, .int .i64 T, .int .i64 0, .int .i64 0] 50)
  generalize (w.alloc (.cells (madeCells #[Value.int IntKind.i64 0, Value.int IntKind.i64 0, Value.bool false] (N * 3)) 52)).alloc
    (.cells #[.slice (some ⟨w.heap.size, 0, none⟩) N N, .int .i64 M, .int .i64 R, .int .i64 T, .int .i64 0, .int .i64 0] 50) = W2 at *
  have hm3 := Lib.hid (fun i => @made3 (.int .i64 0) (.int .i64 0) (.bool false) N i)
  have hk : ∀ i, i < N → W2.cell? ⟨w.heap.size, i * 3, none⟩ = some (.int .i64 0) ∧ W2.cell? ⟨w.heap.size, i * 3 + 1, none⟩ = some (.int .i64 0) ∧ W2.cell? ⟨w.heap.size, i * 3 + 2, none⟩ = some (.bool false) := by
    intro i hi
    obtain ⟨q1, q2, q3⟩ := hm3.out i hi
    exact ⟨(cell_of_block k1 _).trans q1, (cell_of_block k1 _).trans q2, (cell_of_block k1 _).trans q3⟩
  have hrow : isRow W2 w.heap.size 52 := ⟨_, k1⟩
  obtain ⟨B, hB⟩ : ∃ B, w.heap.size = B := ⟨_, rfl⟩
  have HBB := Lib.hid hB
  rw [hB] at k1 k2 hk hrow ⊢
  clear hB k1 hm3 r1
  have c0 : W2.cell? ⟨B + 1, 0, none⟩ = some (.slice (some ⟨B, 0, none⟩) N N) := (cell_of_block k2 0).trans rfl
  clear e1 e2 e3 e4 e5 e6 e7 e8 e9 e10
  go_wp2_with fail
  go_loopw [40] (fun i wr => ∃ k : Nat, k ≤ N ∧ i = .int .i64 k ∧ wr.heap[B + 1]? = some (.cells #[.slice (some ⟨B, 0, none⟩) N N, .int .i64 M, .int .i64 R, .int .i64 T, .int .i64 0, .int .i64 0] 50) ∧
      (∀ i, i < N → wr.cell? ⟨B, i * 3, none⟩ = some (.int .i64 0) ∧ wr.cell? ⟨B, i * 3 + 1, none⟩ = some (.int .i64 (if i < k then W else 0)) ∧ wr.cell? ⟨B, i * 3 + 2, none⟩ = some (.bool false)) ∧
      isRow wr B 52 ∧ Chg [] w wr) (fun i _ => N - (intOf i).toNat)
  case atStart => exact ⟨0, by omega, rfl, k2, fun i hi => by simpa using hk i hi, hrow, hcc⟩
  case round =>
    obtain ⟨k, hkN, rfl, kb, hkk, hrw, hcr⟩ := hrel
    by_cases hlt : k < N
    · have c0' : wr.cell? ⟨B + 1, 0, none⟩ = some (.slice (some ⟨B, 0, none⟩) N N) := (cell_of_block kb 0).trans rfl
      obtain ⟨cs, hcs⟩ := hrw
      have hff := free_of_block hcs (k * 3 + 1)
      obtain ⟨q1, q2, q3⟩ := hkk k hlt
      rw [if_neg (by omega)] at q2
      have HK := Lib.hid hkk
      clear hkk
      go_wp2_with fail
      go_roundw
      case rel =>
        refine ⟨k + 1, by omega, by go_num, ?_, fun i hi => ?_, isRow.set ⟨cs, hcs⟩ _ _, hcr.setCell (.inr (by rw [HBB.out]; exact Nat.le_refl _)) _⟩
        · rw [block_set_ne (by omega)]; exact kb
        · obtain ⟨p1, p2, p3⟩ := HK.out i hi
          rw [cell_set_ne (by simp <;> omega), cell_set_ne (a := ⟨B, k * 3 + 1, none⟩) (b := ⟨B, i * 3 + 2, none⟩) (by simp <;> omega)]
          refine ⟨p1, ?_, p3⟩
          by_cases e : i = k
          · subst e; rw [cell_set_eq q2, if_pos (by omega)]
          · rw [cell_set_ne (by simp <;> omega), p2]
            by_cases e2 : i < k
            · rw [if_pos e2, if_pos (by omega)]
            · rw [if_neg e2, if_neg (by omega)]
      case measure => simp [intOf]; omega
    · obtain rfl : k = N := by omega
      go_wp2_with fail
      go_ret
      have hL2 : (newB n me wait more most).len = k := by rw [HL.out]; simp
      refine ⟨B + 1, B, rfl, ⟨?_, fun i hi => ?_, fun i hi => ?_, fun i hi => ?_, hrw, HW.out⟩, hcr, by rw [HBB.out]; omega, by rw [HBB.out]; exact Nat.le_refl _⟩
      · rw [hL2, HB.out]; exact kb
      all_goals
        rw [hL2] at hi
        have hat := HAT.out i (by rw [HNN.out]; simpa using hi)
        rw [hat]
        obtain ⟨p1, p2, p3⟩ := hkk i hi
      · exact p1
      · rw [p2, if_pos hi, HWW.out]
      · exact p3
end Go.Proofs.Ytjindkkdgjeppaa
