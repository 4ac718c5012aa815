/-
  CrcSums: the sum of rows is the document's sum of them joined.
-/
import Derived.Test.YtoidbcmhlnelgaaCrcAwake
import Derived.Test.YtoidbcmhlnelgaaBytesArg
namespace Go.Proofs.Ytoidbcmhlnelgaa
open Go.ChangeShapes Go.WideShapes Go.ChangeAt Go.RowKit Crc

set_option maxHeartbeats 1000000 in
theorem sums_walk (ao : Option Addr) (ls : List (List Nat)) (cap : Nat) (w : World) (h : isLists w ao ls) (hl : ls.length ≤ maxLen) :
    Calls Try.prog 3 #[.slice ao ls.length cap] w fun e w' => e = .returned (.bool true) ∧ Chg [] w w' := by
  go_enter Try.func3, Try.ntmps3
  go_wp2_with fail
  refine (great_any w ao ls cap h hl).mono ?_
  rintro e w' ⟨rfl, rfl⟩
  cases hg : great ls with
  | true =>
    go_wp2_with fail
    refine (awake_any _).mono ?_
    rintro e w' ⟨rfl, hc⟩
    go_wp2_with fail
    go_ret
    exact ⟨rfl, hc⟩
  | false =>
    go_wp2_with fail
    refine (sum_any w' ao ls cap h hl).mono ?_
    rintro e w1 ⟨rfl, hc1⟩
    go_wp2_with fail
    refine (join_any w1 ao ls cap (h.keep0 hc1) hg).mono ?_
    rintro e w2 ⟨ao2, cap2, rfl, q1, q2, q3, q4, q5, hc2⟩
    have hz : ls.flatten.length ≤ maxLen := by omega
    generalize ls.flatten = F at *
    go_wp2_with fail
    refine (rsum_any w2 ao2 F cap2 q1 hz).mono ?_
    rintro e w3 ⟨rfl, rfl⟩
    generalize (sum F).toNat = N at *
    go_wp2_with fail
    refine (awake_any _).mono ?_
    rintro e w4 ⟨rfl, hc4⟩
    go_wp2_with fail
    go_ret
    exact ⟨rfl, (hc1.trans hc2).trans hc4⟩

theorem crcSums_lifted (os : Os) (started : os.Started) (H : Type) (enc : TypeId × Value → H) :
    ReturnsInHanded {} Try.checked os 3 .any (Rows.crcSumsSpec.pre6 enc Try.prog Try.f3 Rows.crcSumsRow.domain false) (Rows.crcSumsSpec.post enc Try.prog Try.f3 false true false false) := by
  refine law_lifted (C := Try.checked) (tb := 4) (by kernel_rfl) (by kernel_rfl) Try.func3 rfl (fun H ds h => ?_) rfl Try.underlying4 (by kernel_rfl) (by decide +kernel) os started H enc
    (ChangeSpec.witness6 (enc := enc) (C := Try.checked) false ⟨#[], #[.slice none 0 0], []⟩ 8 (by kernel_rfl) (by kernel_rfl) (by kernel_rfl) (by kernel_rfl)) ?_
  · match ds, h with | [a], _ => rfl
  · intro W base args ha hv
    obtain ⟨v0, rfl⟩ : ∃ v0, args = [v0] := by match args, ha with | [a], _ => exact ⟨a, rfl⟩
    obtain ⟨ao, ls, cap, rfl, h1, h2, h3, _⟩ := arg_lists (hv 0 22 v0 rfl rfl)
    exact (sums_walk ao ls cap W h1 (by omega)).mono fun e W' ⟨h1, h2⟩ => ⟨h1, h2.below⟩

theorem crcSums_holds : Rows.CrcSumsSaid :=
  OpenClaim.holds_of_wide 3 Try.f3 rfl rfl rfl rfl rfl rfl rfl ⟨rfl, rfl, rfl, rfl, rfl⟩ rfl rfl rfl rfl rfl (by kernel_rfl) Try.func3 (by kernel_rfl)
    (of_decide_eq_true (by kernel_rfl)) (by unfold Func.isWrapper; first | (rw [if_pos (by decide +kernel)]; kernel_rfl) | (rw [if_neg (by decide +kernel)]; exact ⟨rfl, rfl⟩))
    (fun os started H enc _ => crcSums_lifted os started H enc)
#print axioms crcSums_holds
end Go.Proofs.Ytoidbcmhlnelgaa
