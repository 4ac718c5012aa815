/-
  Package crc: the sum.
-/
import Derived.Test.YtoidbcmhlnelgaaCrc
import Derived.Test.YtoidbcmhlnelgaaBytes
import Derived.Deep.WholeRow
namespace Go.Proofs.Ytoidbcmhlnelgaa
open Go.RowKit Crc

abbrev zeros16 : Array Value := #[Value.int IntKind.u32 0, Value.int IntKind.u32 0, Value.int IntKind.u32 0, Value.int IntKind.u32 0, Value.int IntKind.u32 0, Value.int IntKind.u32 0, Value.int IntKind.u32 0, Value.int IntKind.u32 0, Value.int IntKind.u32 0, Value.int IntKind.u32 0, Value.int IntKind.u32 0, Value.int IntKind.u32 0, Value.int IntKind.u32 0, Value.int IntKind.u32 0, Value.int IntKind.u32 0, Value.int IntKind.u32 0]
theorem half_step (x : R) : ∃ m e : Nat, bits .and .u32 (x.toNat : Int) 15 = (m : Int) ∧ m < 16 ∧ tab[m]? = some (.int .u32 (e : Int)) ∧ bits .xor .u32 ((x.toNat : Int) / 16) (e : Int) = ((steps 4 x).toNat : Int) := by
  have h3 : (x &&& 15).toNat < 16 := by rw [BitVec.toNat_and]; exact Nat.lt_succ_of_le Nat.and_le_right
  exact ⟨(x &&& 15).toNat, (ent (x &&& 15).toNat).toNat, bits_and x 15, h3, by rw [tab_get h3]; rfl, by rw [shr4, bits_xor, ← step_ent]⟩
theorem not_int (x : R) : bits .xor .u32 IntKind.u32.max (x.toNat : Int) = ((~~~x).toNat : Int) := by
  have e : ~~~x = ~~~0 ^^^ x := by
    rw [show (~~~0 : R) = BitVec.allOnes 32 by decide, BitVec.allOnes_xor]
  rw [e, ← bits_xor]; rfl
set_option maxRecDepth 100000 in
set_option maxHeartbeats 1000000 in
theorem sum_any (w : World) (ao : Option Addr) (ls : List (List Nat)) (cap : Nat) (h : isLists w ao ls) (hl : ls.length ≤ maxLen) :
    Calls Try.prog 9 #[.slice ao ls.length cap] w fun e w' => e = .returned (.int .u32 ((sum ls.flatten).toNat : Int)) ∧ Chg [] w w' := by
  unfold maxLen at hl
  go_enter Try.func9, Try.ntmps9
  go_wp2_with fail
  refine (nibbles_any w).mono ?_
  rintro e w' ⟨rfl, hc⟩
  go_upto_region 2 with fail
  rw [run_storeCells_new (P := Try.prog) w' 40 zeros16 tab (by kernel_rfl) rfl (by kernel_rfl)]
  have kT := block_new w' (.cells tab 40)
  have hc1 := hc.alloc (.cells tab 40)
  have hB : w.heap.size ≤ w'.heap.size := hc.size
  generalize w'.alloc (.cells tab 40) = W1 at *
  generalize w'.heap.size = B at *
  rw [show (Result.ok () W1).andThen (fun a w' => Result.ok Next.skip w') = Result.ok Next.skip W1 from rfl, Oper.upon_skip]
  have h1 := h.keep0 hc1
  clear hc h
  go_wp2_with fail
  go_loop [4, 12] (fun r i => ∃ k : Nat, k ≤ ls.length ∧ i = .int .i64 k ∧ r = .int .u32 ((run (~~~0) (ls.take k).flatten).toNat : Int)) (fun _ i => ls.length - (intOf i).toNat)
  case atStart => exact ⟨0, by omega, rfl, rfl⟩
  case round =>
    obtain ⟨k, hk, rfl, rfl⟩ := hrel
    by_cases hlt : k < ls.length
    · obtain ⟨b, off, rfl⟩ := h1.addr hlt
      obtain ⟨a', cap', hbl, hcell, hby, hcap, hmax, _⟩ := h1.at hlt
      have fk := flat_take ls hlt
      generalize hL : ls.getD k [] = L at *
      generalize hR : (ls.take k).flatten = R0 at *
      have HL := Lib.hid hL
      have HR := Lib.hid hR
      have FK := Lib.hid fk
      clear hL hR fk
      unfold maxLen at hmax
      go_wp2_with fail
      go_loop [4, 18] (fun r i => ∃ j : Nat, j ≤ L.length ∧ i = .int .i64 j ∧ r = .int .u32 ((run (run (~~~0) R0) (L.take j)).toNat : Int)) (fun _ i => L.length - (intOf i).toNat)
      case atStart => exact ⟨0, by omega, rfl, rfl⟩
      case round =>
        obtain ⟨j, hj, rfl, rfl⟩ := hrel
        by_cases hl : j < L.length
        · obtain ⟨b2, off2, rfl⟩ := hby.addr hl
          obtain ⟨hb2, hcell2, hc256⟩ := hby.at hl
          have e := take_getD L 0 hl
          generalize L.getD j 0 = c at *
          generalize hr0 : run (run (~~~0) R0) (L.take j) = r0 at *
          obtain ⟨x, hx⟩ : ∃ x, r0 ^^^ BitVec.ofNat 32 c = x := ⟨_, rfl⟩
          have q1 : bits .xor .u32 (r0.toNat : Int) (c : Int) = (x.toNat : Int) := by rw [← hx, ← bits_xor, BitVec.toNat_ofNat, Nat.mod_eq_of_lt (by omega)]
          have HX := Lib.hid hx
          have HR0 := Lib.hid hr0
          have E := Lib.hid e
          clear hx hr0 e
          obtain ⟨m1, e1, a1, a2, a3, a4⟩ := half_step x
          obtain ⟨m2, e2, b1, b2', b3, b4⟩ := half_step (steps 4 x)
          have c1 : W1.cell? ⟨B, m1, none⟩ = some (.int .u32 e1) := (cell_of_block kT m1).trans a3
          have c2 : W1.cell? ⟨B, m2, none⟩ = some (.int .u32 e2) := (cell_of_block kT m2).trans b3
          have r0lt := r0.isLt
          have xlt := x.isLt
          have ylt := (steps 4 x).isLt
          have HS := Lib.hid (show steps 4 (steps 4 x) = byteStep r0 c by unfold byteStep; rw [HX.out]; rfl)
          generalize steps 4 (steps 4 x) = z at *
          generalize steps 4 x = y at *
          go_wp2_with fail
          go_round
          case rel =>
            refine ⟨j + 1, by omega, by go_num, ?_⟩
            rw [E.out, run_append, HR0.out, HS.out]; rfl
          case measure => simp [intOf]; omega
        · obtain rfl : j = L.length := by omega
          have HJ := Lib.hid (List.take_length (l := L))
          go_wp2_with fail
          go_round
          case rel =>
            refine ⟨k + 1, by omega, by go_num, ?_⟩
            rw [FK.out, run_append, HJ.out]
          case measure => simp [intOf]; omega
    · obtain rfl : k = ls.length := by omega
      rw [List.take_length]
      have HZ := Lib.hid (show sum ls.flatten = ~~~(run (~~~0) ls.flatten) from rfl)
      generalize run (~~~0) ls.flatten = z at *
      have q := z.isLt
      have q2 := not_int z
      have q3 := (~~~z).isLt
      have HN := Lib.hid (show (sum ls.flatten).toNat = (~~~z).toNat by rw [HZ.out])
      generalize (~~~z).toNat = N at *
      go_wp2_with fail
      go_ret
      rw [HN.out]
      exact ⟨rfl, hc1⟩
end Go.Proofs.Ytoidbcmhlnelgaa
