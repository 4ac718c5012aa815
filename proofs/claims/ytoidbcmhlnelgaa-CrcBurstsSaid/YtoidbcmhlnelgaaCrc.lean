/-
  Package crc: the table, and the sum's contract.
-/
import Derived.Test.YtoidbcmhlnelgaaCrcPlain
import Derived.Laws.BitsLemmas
import Derived.Deep.MidRow
namespace Go.Proofs.Ytoidbcmhlnelgaa
open Go.RowKit
namespace Crc

theorem bits_xor (x y : R) : bits .xor .u32 (x.toNat : Int) (y.toNat : Int) = ((x ^^^ y).toNat : Int) := by
  have h1 : BitVec.ofNat 32 x.toNat = x := by simp
  have h2 : BitVec.ofNat 32 y.toNat = y := by simp
  show IntKind.u32.wrap (((BitVec.ofInt 32 (x.toNat : Int)) ^^^ (BitVec.ofInt 32 (y.toNat : Int))).toNat : Int) = _
  rw [BitVec.ofInt_natCast, BitVec.ofInt_natCast, h1, h2, IntKind.wrap_u32]
  exact Int.emod_eq_of_lt (Int.natCast_nonneg _) (show ((_ : Nat) : Int) < ((4294967296 : Nat) : Int) from Int.ofNat_lt.2 (x ^^^ y).isLt)
theorem bits_and (x y : R) : bits .and .u32 (x.toNat : Int) (y.toNat : Int) = ((x &&& y).toNat : Int) := by
  have h1 : BitVec.ofNat 32 x.toNat = x := by simp
  have h2 : BitVec.ofNat 32 y.toNat = y := by simp
  show IntKind.u32.wrap (((BitVec.ofInt 32 (x.toNat : Int)) &&& (BitVec.ofInt 32 (y.toNat : Int))).toNat : Int) = _
  rw [BitVec.ofInt_natCast, BitVec.ofInt_natCast, h1, h2, IntKind.wrap_u32]
  exact Int.emod_eq_of_lt (Int.natCast_nonneg _) (show ((_ : Nat) : Int) < ((4294967296 : Nat) : Int) from Int.ofNat_lt.2 (x &&& y).isLt)
theorem neg_int (x : R) : (-(x.toNat : Int)) % 4294967296 = ((-x).toNat : Int) := by
  have := x.isLt
  rw [BitVec.toNat_neg]
  omega
theorem shr1 (x : R) : (x.toNat : Int) / (2 : Int) = ((x >>> 1).toNat : Int) := by
  rw [BitVec.toNat_ushiftRight, Nat.shiftRight_eq_div_pow]; omega
theorem shr4 (x : R) : (x.toNat : Int) / (16 : Int) = ((x >>> 4).toNat : Int) := by
  rw [BitVec.toNat_ushiftRight, Nat.shiftRight_eq_div_pow]; omega
theorem low (x : R) : x &&& 1 = if x.getLsbD 0 then 1 else 0 := by
  apply BitVec.eq_of_getLsbD_eq
  intro i hi
  rw [BitVec.getLsbD_and]
  have h1 : (1 : R).getLsbD i = decide (i = 0) := by
    match i with
    | 0 => rfl
    | i + 1 => simp
  rw [h1]
  match i with
  | 0 => cases x.getLsbD 0 <;> rfl
  | i + 1 => cases x.getLsbD 0 <;> simp
theorem step_bits (x : R) : step x = (x >>> 1) ^^^ (poly &&& -(x &&& 1)) := by
  rw [low]
  unfold step
  cases x.getLsbD 0 with
  | true => simp only [if_true]; rw [show (-1 : R) = ~~~0 from by decide]; simp [poly]
  | false => simp
theorem step_int (x : R) : bits .xor .u32 ((x.toNat : Int) / 2) (bits .and .u32 3988292384 (-bits .and .u32 (x.toNat : Int) 1 % 4294967296)) = ((step x).toNat : Int) := by
  have h1 : (1 : Int) = ((1 : R).toNat : Int) := by decide
  have h2 : (3988292384 : Int) = (poly.toNat : Int) := by decide
  rw [h1, h2, bits_and, neg_int, bits_and, shr1, bits_xor, step_bits]
/-- An entry of the table. -/
def ent (i : Nat) : R := steps 4 (BitVec.ofNat 32 i)
def entV (i : Nat) : Value := .int .u32 ((ent i).toNat : Int)
def tab : Array Value := #[entV 0, entV 1, entV 2, entV 3, entV 4, entV 5, entV 6, entV 7, entV 8, entV 9, entV 10, entV 11, entV 12, entV 13, entV 14, entV 15]
theorem tab_get {i : Nat} (h : i < 16) : tab[i]? = some (entV i) := by
  match i, h with
  | 0, _ => rfl
  | 1, _ => rfl
  | 2, _ => rfl
  | 3, _ => rfl
  | 4, _ => rfl
  | 5, _ => rfl
  | 6, _ => rfl
  | 7, _ => rfl
  | 8, _ => rfl
  | 9, _ => rfl
  | 10, _ => rfl
  | 11, _ => rfl
  | 12, _ => rfl
  | 13, _ => rfl
  | 14, _ => rfl
  | 15, _ => rfl
  | n + 16, h => omega
theorem tab_of {xs : Array Value} (hs : xs.size = 16) (h : ∀ i, i < 16 → xs[i]? = some (entV i)) : xs = tab := by
  apply Array.ext_getElem?
  intro i
  by_cases hi : i < 16
  · rw [h i hi, tab_get hi]
  · rw [Array.getElem?_eq_none (by omega), Array.getElem?_eq_none (by simp [tab]; omega)]
theorem step_ent (x : R) : steps 4 x = (x >>> 4) ^^^ ent (x &&& 15).toNat := by
  rw [nibble]; unfold ent; simp
end Crc
open Crc

set_option maxHeartbeats 1000000 in
theorem nibbles_any (w : World) : Calls Try.prog 16 #[] w fun e w' => e = .returned (.agg tab) ∧ Chg [] w w' := by
  go_enter Try.func16, Try.ntmps16
  go_wp2_with fail
  obtain ⟨Z, hZ⟩ : ∃ Z : Array Value, Z = #[Value.int IntKind.u32 0, Value.int IntKind.u32 0, Value.int IntKind.u32 0, Value.int IntKind.u32 0, Value.int IntKind.u32 0, Value.int IntKind.u32 0, Value.int IntKind.u32 0, Value.int IntKind.u32 0, Value.int IntKind.u32 0, Value.int IntKind.u32 0, Value.int IntKind.u32 0, Value.int IntKind.u32 0, Value.int IntKind.u32 0, Value.int IntKind.u32 0, Value.int IntKind.u32 0, Value.int IntKind.u32 0] := ⟨_, rfl⟩
  rw [← hZ]
  have hs : Z.size = 16 := by rw [hZ]; rfl
  obtain ⟨k1, k2⟩ := two_blocks w (.cells Z 40) (.cells Z 40)
  have hcc := ((Chg.refl [] w).alloc (.cells Z 40)).alloc (.cells Z 40)
  generalize (w.alloc (.cells Z 40)).alloc (.cells Z 40) = W2 at *
  go_loopw [4] (fun i wr => ∃ k : Nat, k ≤ 16 ∧ i = .int .i64 k ∧ wr.heap[w.heap.size]? = some (.cells Z 40) ∧ (∃ xs : Array Value, wr.heap[w.heap.size + 1]? = some (.cells xs 40) ∧ xs.size = 16 ∧ ∀ i, i < k → xs[i]? = some (entV i)) ∧ Chg [] w wr) (fun i _ => 16 - (intOf i).toNat)
  case atStart => exact ⟨0, by omega, rfl, k1, ⟨Z, k2, hs, fun i hi => by omega⟩, hcc⟩
  case round =>
    obtain ⟨k, hk, rfl, h0, ⟨xs, h1, hxs, hx⟩, hc⟩ := hrel
    by_cases hlt : k < 16
    · go_wp2_with fail
      go_loop [3, 9] (fun r i => ∃ (j : Nat), j ≤ 4 ∧ i = .int .i64 j ∧ r = .int .u32 ((steps j (BitVec.ofNat 32 k)).toNat : Int)) (fun _ i => 4 - (intOf i).toNat)
      case atStart => exact ⟨0, by omega, rfl, by simp [steps]; omega⟩
      case round =>
        obtain ⟨j, hj, rfl, rfl⟩ := hrel
        have hlt' := (steps j (BitVec.ofNat 32 k)).isLt
        by_cases hl4 : j < 4
        · go_wp2_with fail
          rw [step_int]
          go_round
          case rel => 
            refine ⟨j + 1, by omega, by go_num, ?_⟩
            rw [steps_add]; rfl
          case measure => simp [intOf]; omega
        · obtain rfl : j = 4 := by omega
          have f1 := free_of_block h1 k
          have c1 : wr.cell? ⟨w.heap.size + 1, k, none⟩ = xs[k]? := cell_of_block h1 k
          rw [Array.getElem?_eq_getElem (by omega)] at c1
          go_wp2_with fail
          go_roundw
          case rel =>
            refine ⟨k + 1, by omega, by go_num, ?_, ⟨_, block_set h1, by simpa using hxs, ?_⟩, hc.setCell (.inr (by simp)) _⟩
            · rw [block_set_ne (by omega)]; exact h0
            · intro i hi
              by_cases e : i = k
              · subst e; simp [hxs, hlt]; rfl
              · rw [Array.getElem?_setIfInBounds_ne (by omega)]; exact hx i (by omega)
          case measure => simp [intOf]; omega
    · obtain rfl : k = 16 := by omega
      obtain rfl := tab_of hxs hx
      subst hZ
      go_upto_region 12 with fail
      refine wp_region_lit ?_
      refine wpList_load_mid rfl 40 (.tmp 1) rfl (w.heap.size + 1) 0 rfl tab.toList _ ?l1 Try.underlying40 rfl (by kernel_rfl) ?_
      case l1 => intro j v hv; rw [show 0 + j = j by omega, cell_of_block h1]; simpa using hv
      have hth : wr.there w.heap.size 0 tab.size := by
        intro j hj
        rw [show 0 + j = j by omega, cell_of_block h0]
        refine ⟨?_, free_of_block h0 _⟩
        rw [Array.getElem?_eq_getElem (by simpa [tab] using hj)]; rfl
      refine wpList_store_mid rfl 40 (.tmp 0) (.tmp 23) rfl w.heap.size 0 tab rfl rfl hth (by kernel_rfl) (by kernel_rfl) ?_
      have hch : Chg [] w (wr.setCells w.heap.size 0 tab.toList) := Chg.setCells (.inr (Nat.le_refl _)) _ _ _ hc
      have hrg : (wr.setCells w.heap.size 0 tab.toList).rangeAt w.heap.size 0 tab.toList := World.rangeAt_setCells_same _ _ _ _ (hth)
      generalize wr.setCells w.heap.size 0 tab.toList = WF at *
      go_wp2_with fail
      have hld := run_loadVar_mid (P := Try.prog) WF w.heap.size 0 40 tab.toList _ hrg Try.underlying40 rfl (by kernel_rfl)
      refine bodyPost_ret (v := .agg tab) ?_ rfl ⟨rfl, hch⟩
      simp [results, Try.results16, Act.put, asAddr, Sem.run_bind, Result.andThen, hld]
end Go.Proofs.Ytoidbcmhlnelgaa
