/-
  The reference of crc: its sum; rows joined.
-/
import Derived.Test.YtoidbcmhlnelgaaCrcSum
namespace Go.Proofs.Ytoidbcmhlnelgaa
open Go.RowKit Crc

set_option maxRecDepth 100000 in
set_option maxHeartbeats 1000000 in
theorem rsum_any (w : World) (ao : Option Addr) (L : List Nat) (cap : Nat) (h : isBytes w ao L) (hl : L.length ≤ maxLen) :
    Calls Try.prog 10 #[.slice ao L.length cap] w fun e w' => e = .returned (.int .u32 ((sum L).toNat : Int)) ∧ w' = w := by
  unfold maxLen at hl
  go_enter Try.func10, Try.ntmps10
  go_wp2_with fail
  go_loop [3, 10] (fun r i => ∃ k : Nat, k ≤ L.length ∧ i = .int .i64 k ∧ r = .int .u32 ((run (~~~0) (L.take k)).toNat : Int)) (fun _ i => L.length - (intOf i).toNat)
  case atStart => exact ⟨0, by omega, rfl, rfl⟩
  case round =>
    obtain ⟨k, hk, rfl, rfl⟩ := hrel
    by_cases hlt : k < L.length
    · obtain ⟨b, off, rfl⟩ := h.addr hlt
      obtain ⟨hb, hcell, hc⟩ := h.at hlt
      have E := Lib.hid (take_getD L 0 hlt)
      generalize L.getD k 0 = c at *
      obtain ⟨r0, hr0⟩ : ∃ r0, run (~~~0) (L.take k) = r0 := ⟨_, rfl⟩
      rw [hr0]
      have HR0 := Lib.hid hr0
      clear hr0
      have HB := Lib.hid (byteStep_ref r0 hc)
      have HC := Lib.hid (show (BitVec.ofNat 32 c).toNat = c by rw [BitVec.toNat_ofNat]; omega)
      generalize BitVec.ofNat 32 c = C at *
      go_wp2_with fail
      go_loop [3, 5, 6] (fun r d i => ∃ j : Nat, j ≤ 8 ∧ i = .int .i64 j ∧ r = .int .u32 ((bitSteps j r0 C).toNat : Int) ∧ d = .int .i64 ((C >>> j).toNat : Int)) (fun _ _ i => 8 - (intOf i).toNat)
      case atStart => exact ⟨0, by omega, rfl, rfl, by simp [HC.out]⟩
      case round =>
        obtain ⟨j, hj, rfl, rfl, rfl⟩ := hrel
        by_cases hl8 : j < 8
        · have HS := Lib.hid (bitSteps_snoc j r0 C)
          have HT := Lib.hid (show (C >>> (j + 1)).toNat = (C >>> j).toNat / 2 by rw [BitVec.shiftRight_add, BitVec.toNat_ushiftRight (C >>> j), Nat.shiftRight_eq_div_pow])
          generalize bitSteps j r0 C = x at *
          generalize C >>> j = d at *
          have xl := x.isLt
          have dl := d.isLt
          have HQ := Lib.hid (shr1 x)
          have HP := Lib.hid (show bits .xor .u32 ((x.toNat : Int) / 2) 3988292384 = (((x >>> 1) ^^^ poly).toNat : Int) by rw [shr1, ← bits_xor]; rfl)
          have HE := Lib.hid (@bitStep_same x d)
          have HN := Lib.hid (@bitStep_ne x d)
          by_cases hd : x.toNat % 2 = d.toNat % 2
          · have hd1 : ((x.toNat : Int) % 2) = (d.toNat : Int) % 2 := by omega
            go_wp2_with fail
            go_round
            case rel =>
              refine ⟨j + 1, by omega, by go_num, ?_, ?_⟩
              · rw [HS.out, HE.out hd, HQ.out]
              · rw [HT.out]; rfl
            case measure => simp [intOf]; omega
          · have hd1 : ¬ ((x.toNat : Int) % 2) = (d.toNat : Int) % 2 := by omega
            go_wp2_with fail
            go_round
            case rel =>
              refine ⟨j + 1, by omega, by go_num, ?_, ?_⟩
              · rw [HS.out, HN.out hd, HP.out]
              · rw [HT.out]; rfl
            case measure => simp [intOf]; omega
        · obtain rfl : j = 8 := by omega
          go_wp2_with fail
          go_round
          case rel =>
            refine ⟨k + 1, by omega, by go_num, ?_⟩
            rw [E.out, run_append, HR0.out, ← HB.out]; rfl
          case measure => simp [intOf]; omega
    · obtain rfl : k = L.length := by omega
      rw [List.take_length]
      have HZ := Lib.hid (show sum L = ~~~(run (~~~0) L) from rfl)
      generalize run (~~~0) L = z at *
      have q := z.isLt
      have HN := Lib.hid (show (sum L).toNat = 4294967295 - z.toNat by rw [HZ.out, BitVec.toNat_not])
      go_wp2_with fail
      go_ret
      rw [HN.out]
      refine ⟨?_, rfl⟩
      simp [go_sem]
      omega
end Go.Proofs.Ytoidbcmhlnelgaa
