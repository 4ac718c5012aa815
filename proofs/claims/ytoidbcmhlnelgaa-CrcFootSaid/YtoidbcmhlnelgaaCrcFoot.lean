/-
  CrcFoot: the sum of marked bytes is always the same.
-/
import Derived.Test.YtoidbcmhlnelgaaCrcMark
import Derived.Test.YtoidbcmhlnelgaaBytesArg
namespace Go.Proofs.Ytoidbcmhlnelgaa
open Go.ChangeShapes Go.WideShapes Go.ChangeAt Go.RowKit Crc

theorem sum_marked (F : List Nat) : (sum (F ++ foot (sum F))).toNat = 558161692 := by
  have e : sum (F ++ foot (sum F)) = ~~~(run (run (~~~0) F) (foot (~~~(run (~~~0) F)))) := by
    show ~~~(run (~~~0) (F ++ foot (sum F))) = _
    rw [run_append]; rfl
  rw [e, run_marked]; decide +kernel
theorem one_list {W : World} {b cap t : Nat} {f : Nat × Nat} {ao : Option Addr} {L : List Nat} (h : W.heap[b]? = some (.cells #[.slice ao L.length cap] t f)) (hb : isBytes W ao L) (h1 : L.length ≤ cap) (h2 : cap ≤ maxLen) (h3 : ao = none → cap = 0) :
    isLists W (some ⟨b, 0, none⟩) [L] := by
  intro i hi
  match i, hi with
  | 0, _ => exact ⟨b, 0, ao, cap, rfl, lt_of_some h, (cell_of_block h 0).trans rfl, hb, h1, h2, h3⟩
  | n + 1, h => exact absurd h (by simp)
theorem one_small {L : List Nat} (h : L.length ≤ 100000) : ∀ k, (([L].take k).flatten).length ≤ 100000 := by
  intro k
  cases k with
  | zero => simp
  | succ k => simpa using h

set_option maxHeartbeats 1000000 in
theorem foot_walk (ao : Option Addr) (L : List Nat) (cap : Nat) (w : World) (h : isBytes w ao L) (h1 : L.length ≤ cap) (h2 : cap ≤ maxLen) (h3 : ao = none → cap = 0) :
    Calls Try.prog 4 #[.slice ao L.length cap] w fun e w' => e = .returned (.bool true) ∧ Chg [] w w' := by
  have h2' := h2
  unfold maxLen at h2'
  by_cases hg : 1000 < L.length
  · go_enter Try.func4, Try.ntmps4
    go_wp2_with fail
    refine (awake_any _).mono ?_
    rintro e w' ⟨rfl, hc⟩
    go_wp2_with fail
    go_ret
    exact ⟨rfl, hc⟩
  · go_enter Try.func4, Try.ntmps4
    go_wp2_with fail
    have hk := block_new w (.cells #[.slice ao L.length cap] 28)
    have hc0 := (Chg.refl [] w).alloc (.cells #[.slice ao L.length cap] 28)
    generalize w.alloc (.cells #[.slice ao L.length cap] 28) = W1 at *
    refine (mark_any W1 _ [L] 1 (one_list hk (h.keep0 hc0) h1 h2 h3) (by simp [maxLen]) (one_small (by omega))).mono ?_
    rintro e w2 ⟨ao2, cap2, rfl, q1, q2, q3, q4, q5, hc2⟩
    have hm := sum_marked [L].flatten
    have hlen : ([L].flatten ++ foot (sum [L].flatten)).length ≤ 100000 := by simp [foot]; omega
    generalize [L].flatten ++ foot (sum [L].flatten) = M at *
    go_wp2_with fail
    have hk2 := block_new w2 (.cells #[.slice ao2 M.length cap2] 28)
    have hc3 := (Chg.refl [] w2).alloc (.cells #[.slice ao2 M.length cap2] 28)
    generalize w2.alloc (.cells #[.slice ao2 M.length cap2] 28) = W3 at *
    refine (sum_any W3 _ [M] 1 (one_list hk2 (q1.keep0 hc3) q2 q3 q4) (by simp [maxLen])).mono ?_
    rintro e w4 ⟨rfl, hc4⟩
    rw [show [M].flatten = M by simp, hm]
    go_wp2_with fail
    refine (awake_any _).mono ?_
    rintro e w' ⟨rfl, hc5⟩
    go_wp2_with fail
    go_ret
    exact ⟨rfl, (((hc0.trans hc2).trans hc3).trans hc4).trans hc5⟩

theorem crcFoot_lifted (os : Os) (started : os.Started) (H : Type) (enc : TypeId × Value → H) :
    ReturnsInHanded {} Try.checked os 4 .any (Rows.crcFootSpec.pre6 enc Try.prog Try.f4 Rows.crcFootRow.domain false) (Rows.crcFootSpec.post enc Try.prog Try.f4 false true false false) := by
  refine law_lifted (C := Try.checked) (tb := 4) (by kernel_rfl) (by kernel_rfl) Try.func4 rfl (fun H ds h => ?_) rfl Try.underlying4 (by kernel_rfl) (by decide +kernel) os started H enc
    (ChangeSpec.witness6 (enc := enc) (C := Try.checked) false ⟨#[], #[.slice none 0 0], []⟩ 8 (by kernel_rfl) (by kernel_rfl) (by kernel_rfl) (by kernel_rfl)) ?_
  · match ds, h with | [a], _ => rfl
  · intro W base args ha hv
    obtain ⟨v0, rfl⟩ : ∃ v0, args = [v0] := by match args, ha with | [a], _ => exact ⟨a, rfl⟩
    obtain ⟨ao, L, cap, rfl, h1, h2, h3, h4⟩ := arg_bytes (hv 0 28 v0 rfl rfl)
    exact (foot_walk ao L cap W h1 h2 h3 h4).mono fun e W' ⟨h1, h2⟩ => ⟨h1, h2.below⟩

theorem crcFoot_holds : Rows.CrcFootSaid :=
  OpenClaim.holds_of_wide 4 Try.f4 rfl rfl rfl rfl rfl rfl rfl ⟨rfl, rfl, rfl, rfl, rfl⟩ rfl rfl rfl rfl rfl (by kernel_rfl) Try.func4 (by kernel_rfl)
    (of_decide_eq_true (by kernel_rfl)) (by unfold Func.isWrapper; first | (rw [if_pos (by decide +kernel)]; kernel_rfl) | (rw [if_neg (by decide +kernel)]; exact ⟨rfl, rfl⟩))
    (fun os started H enc _ => crcFoot_lifted os started H enc)
#print axioms crcFoot_holds
end Go.Proofs.Ytoidbcmhlnelgaa
