/-
  CrcBursts: marked bytes in which bits are turned that lie within 32 in a row don't fit.
-/
import Derived.Test.YtoidbcmhlnelgaaCrcBurst
import Derived.Test.YtoidbcmhlnelgaaBytesArg
namespace Go.Proofs.Ytoidbcmhlnelgaa
open Go.ChangeShapes Go.WideShapes Go.ChangeAt Go.RowKit Crc

theorem bits_xor_u8 (x y : Nat) (hx : x < 256) (hy : y < 256) : bits .xor .u8 (x : Int) (y : Int) = ((x ^^^ y : Nat) : Int) := by
  show IntKind.u8.wrap (((BitVec.ofInt 8 (x : Int)) ^^^ (BitVec.ofInt 8 (y : Int))).toNat : Int) = _
  rw [BitVec.ofInt_natCast, BitVec.ofInt_natCast, BitVec.toNat_xor, BitVec.toNat_ofNat, BitVec.toNat_ofNat, Nat.mod_eq_of_lt hx, Nat.mod_eq_of_lt hy, IntKind.wrap_u8]
  have : x ^^^ y < 2 ^ 8 := Nat.xor_lt_two_pow hx hy
  omega

theorem bit_int (D : R) (k : Nat) : (((D.toNat : Int) / 2 ^ k).tmod 2 == 1) = D.getLsbD k := by
  have e : (D.toNat : Int) / 2 ^ k = ((D.toNat / 2 ^ k : Nat) : Int) := by simp
  rw [e, BitVec.getLsbD, Nat.testBit_eq_decide_div_mod_eq, Int.tmod_eq_emod_of_nonneg (Int.natCast_nonneg _), show ((D.toNat / 2 ^ k : Nat) : Int) % 2 = ((D.toNat / 2 ^ k % 2 : Nat) : Int) by omega]
  by_cases h : D.toNat / 2 ^ k % 2 = 1
  · rw [h]; rfl
  · have h0 : D.toNat / 2 ^ k % 2 = 0 := by omega
    rw [h0]; rfl
set_option maxRecDepth 100000 in
set_option maxHeartbeats 4000000 in
theorem bursts_walk (ao : Option Addr) (L : List Nat) (cap : Nat) (at_ : Int) (D : R) (w : World) (h : isBytes w ao L) (hl : L.length ≤ cap) (hcap : cap ≤ maxLen) (hnil : ao = none → cap = 0)
    (ha0 : -9223372036854775808 ≤ at_) (ha1 : at_ ≤ 9223372036854775807) :
    Calls Try.prog 6 #[.slice ao L.length cap, .int .i64 at_, .int .u32 (D.toNat : Int)] w fun e w' => e = .returned (.bool true) ∧ Chg [] w w' := by
  have HC := Lib.hid hcap
  have hlL : L.length ≤ 9223372036854775807 := by unfold maxLen at hcap; omega
  clear hcap
  have hDl := D.isLt
  by_cases hL : 1000 < L.length
  · go_enter Try.func6, Try.ntmps6
    go_wp2_with fail
    refine (awake_any _).mono ?_
    rintro e w' ⟨rfl, hc⟩
    go_wp2_with fail
    go_ret
    exact ⟨rfl, hc⟩
  · by_cases hz : D.toNat = 0
    · go_enter Try.func6, Try.ntmps6
      go_wp2_with fail
      refine (awake_any _).mono ?_
      rintro e w' ⟨rfl, hc⟩
      go_wp2_with fail
      go_ret
      exact ⟨rfl, hc⟩
    · have hz1 : ((D.toNat : Int) == 0) = false := by simp; omega
      have hL1 : decide (1000 < (L.length : Int)) = false := by simp; omega
      have HD0 := Lib.hid (show D ≠ 0 from fun e => hz (by rw [e]; rfl))
      go_enter Try.func6, Try.ntmps6
      go_wp2_with fail
      have hk := block_new w (.cells #[.slice ao L.length cap] 28)
      have hc0 := (Chg.refl [] w).alloc (.cells #[.slice ao L.length cap] 28)
      generalize w.alloc (.cells #[.slice ao L.length cap] 28) = W1 at *
      refine (mark_any W1 _ [L] 1 (one_list hk (h.keep0 hc0) hl HC.out hnil) (by simp [maxLen]) (one_small (by omega))).mono ?_
      rintro e w2 ⟨aom, capm, rfl, m1, m2, m3, m4, m5, hc2, m6⟩
      rw [show [L].flatten = L by simp] at *
      have hM9 : (L ++ foot (sum L)).length = L.length + 4 := by simp [foot]
      have HBF := Lib.hid (fun A (hA : A + 32 ≤ 8 * (L.length + 4)) => burst_fits L A D h.all hA HD0.out)
      generalize L ++ foot (sum L) = M at *
      have hMi : (M.length : Int) = (L.length : Int) + 4 := by omega
      by_cases hat : at_ < 0
      · go_wp2_with fail
        refine (awake_any _).mono ?_
        rintro e w' ⟨rfl, hc⟩
        go_wp2_with fail
        go_ret
        exact ⟨rfl, (hc0.trans hc2).trans hc⟩
      · obtain ⟨A, rfl⟩ : ∃ A : Nat, at_ = A := ⟨at_.toNat, by omega⟩
        by_cases hgt : 8 * (L.length + 4) < A + 32
        · have hw1 : 8 * ((L.length : Int) + 4) - 32 < (A : Int) := by omega
          go_wp2_with fail
          refine (awake_any _).mono ?_
          rintro e w' ⟨rfl, hc⟩
          go_wp2_with fail
          go_ret
          exact ⟨rfl, (hc0.trans hc2).trans hc⟩
        · have hw1 : ¬ 8 * ((L.length : Int) + 4) - 32 < (A : Int) := by omega
          have hc12 := hc0.trans hc2
          have hsz := hc0.size
          go_wp2_with fail
          go_loopw [8] (fun i wr => ∃ k : Nat, k ≤ 32 ∧ i = .int .i64 k ∧ isBytes wr aom (burst M A D k) ∧ (∀ b off, aom = some ⟨b, off, none⟩ → isRow wr b 5) ∧ Chg [] w wr) (fun i _ => 32 - (intOf i).toNat)
          case atStart => exact ⟨0, by omega, rfl, m1, m6, hc12⟩
          case round =>
            obtain ⟨k, hk32, rfl, hbr, hrw, hcr⟩ := hrel
            by_cases hlt : k < 32
            · have hlen := burst_len M A D k
              by_cases hd : D.getLsbD k = true
              · have hb1 := (bit_int D k).trans hd
                have hbu := Lib.hid (show burst M A D (k + 1) = (burst M A D k).set ((A + k) / 8) ((burst M A D k).getD ((A + k) / 8) 0 ^^^ 2 ^ ((A + k) % 8)) by rw [burst, if_pos hd])
                have hAk := Lib.hid (show (A : Int) + (k : Int) = ((A + k : Nat) : Int) by omega)
                have hidx : (A + k) / 8 < (burst M A D k).length := by omega
                go_upto_region 13 with fail
                rw [hAk.out]
                have hJ9 : A + k < 8 * (L.length + 4) := by omega
                generalize A + k = J at *
                generalize burst M A D k = T at *
                obtain ⟨b, off, rfl⟩ := hbr.addr hidx
                obtain ⟨t1, t2, t3⟩ := hbr.at hidx
                obtain ⟨cs, hfr2⟩ := hrw b off rfl
                have hff := free_of_block hfr2 (off + J / 8)
                have hpw : 2 ^ (J % 8) < 2 ^ 8 := Nat.pow_lt_pow_right (by omega) (Nat.mod_lt _ (by omega))
                have hxx := Lib.hid (show bits .xor .u8 ((T.getD (J / 8) 0 : Nat) : Int) ((2 : Int) ^ (J % 8) % 256) = ((T.getD (J / 8) 0 ^^^ 2 ^ (J % 8) : Nat) : Int) by
                  rw [← bits_xor_u8 _ _ t3 hpw]
                  congr 1
                  have e : (2 : Int) ^ (J % 8) = ((2 ^ (J % 8) : Nat) : Int) := by simp
                  rw [e]
                  generalize 2 ^ (J % 8) = pw at hpw
                  omega)
                have hset := Lib.hid (hbr.set hidx (T.getD (J / 8) 0 ^^^ 2 ^ (J % 8)) (Nat.xor_lt_two_pow (n := 8) t3 hpw))
                generalize T.getD (J / 8) 0 = x at *
                have hj1 : (J : Int) / 8 < (L.length : Int) + 4 := by omega
                have hch := Lib.hid (fun v => hcr.setCell (p := ⟨b, off + J / 8, none⟩) (.inr (Nat.le_trans hsz (m5 b off rfl))) v)
                go_region
                rw [hxx.out]
                go_wp2_with fail
                go_roundw
                case rel =>
                  refine ⟨k + 1, by omega, by go_num, by rw [hbu.out]; exact (fun q => q) hset.out, ?_, (hch.out _).drew⟩
                  intro b' off' e
                  simp at e
                  obtain ⟨rfl, rfl⟩ := e
                  exact isRow.set ⟨cs, hfr2⟩ _ _
                case measure => simp [intOf]; omega
              · have hb1 := (bit_int D k).trans (Bool.eq_false_iff.2 hd)
                have hbu := Lib.hid (show burst M A D (k + 1) = burst M A D k by rw [burst, if_neg hd])
                go_wp2_with fail
                go_roundw
                case rel => exact ⟨k + 1, by omega, by go_num, by rw [hbu.out]; exact hbr, hrw, hcr⟩
                case measure => simp [intOf]; omega
            · obtain rfl : k = 32 := by omega
              have hBE := HBF.out A (by omega)
              have hBB : fitsB (burst M A D 32) = [] := by unfold fitsB; rw [if_neg (by rw [hBE]; omega)]
              have hBl := burst_len M A D 32
              generalize burst M A D 32 = T at *
              have hfc := fits_any wr aom T capm hbr (by omega) m3 (by omega)
              rw [hBl, hM9] at hfc
              go_wp2_with fail
              refine hfc.mono ?_
              rintro e w5 ⟨aof, capf, rfl, f1, f2, f3, f4, f5, hc5, _⟩
              rw [hBE, hBB]
              go_wp2_with fail
              refine (awake_any _).mono ?_
              rintro e w6 ⟨rfl, hc6⟩
              go_wp2_with fail
              go_ret
              exact ⟨rfl, (hcr.trans hc5).trans hc6⟩

theorem crcBursts_lifted (os : Os) (started : os.Started) (H : Type) (enc : TypeId × Value → H) :
    ReturnsInHanded {} Try.checked os 6 .any (Rows.crcBurstsSpec.pre6 enc Try.prog Try.f6 Rows.crcBurstsRow.domain false) (Rows.crcBurstsSpec.post enc Try.prog Try.f6 false true false false) := by
  refine law_lifted (C := Try.checked) (tb := 4) (by kernel_rfl) (by kernel_rfl) Try.func6 rfl (fun H ds h => ?_) rfl Try.underlying4 (by kernel_rfl) (by decide +kernel) os started H enc
    (ChangeSpec.witness6 (enc := enc) (C := Try.checked) false ⟨#[], #[.slice none 0 0, .int .i64 0, .int .u32 0], []⟩ 8 (by kernel_rfl) (by kernel_rfl) (by kernel_rfl) (by kernel_rfl)) ?_
  · match ds, h with | [a, b, c], _ => rfl
  · intro W base args ha hv
    obtain ⟨v0, v1, v2, rfl⟩ : ∃ v0 v1 v2, args = [v0, v1, v2] := by match args, ha with | [a, b, c], _ => exact ⟨a, b, c, rfl⟩
    obtain ⟨ao, L, cap, rfl, h1, h2, h3, h4⟩ := arg_bytes (hv 0 28 v0 rfl rfl)
    obtain ⟨n, rfl, w1⟩ := arg_int Try.underlying3 (hv 1 3 v1 rfl rfl)
    obtain ⟨d, rfl, w2⟩ := arg_int Try.underlying25 (hv 2 25 v2 rfl rfl)
    have b1 := bounds_i64 w1
    have b2 := bounds_u32 w2
    have hd : d = ((BitVec.ofNat 32 d.toNat).toNat : Int) := by rw [BitVec.toNat_ofNat]; omega
    rw [hd]
    exact (bursts_walk ao L cap n (BitVec.ofNat 32 d.toNat) W h1 h2 h3 h4 (by omega) (by omega)).mono fun e W' ⟨h1, h2⟩ => ⟨h1, h2.below⟩

theorem crcBursts_holds : Rows.CrcBurstsSaid :=
  OpenClaim.holds_of_wide 6 Try.f6 rfl rfl rfl rfl rfl rfl rfl ⟨rfl, rfl, rfl, rfl, rfl⟩ rfl rfl rfl rfl rfl (by kernel_rfl) Try.func6 (by kernel_rfl)
    (of_decide_eq_true (by kernel_rfl)) (by unfold Func.isWrapper; first | (rw [if_pos (by decide +kernel)]; kernel_rfl) | (rw [if_neg (by decide +kernel)]; exact ⟨rfl, rfl⟩))
    (fun os started H enc _ => crcBursts_lifted os started H enc)
#print axioms crcBursts_holds
end Go.Proofs.Ytoidbcmhlnelgaa
