/-
  GrantNil: for every process' number and every message's number: nil grants take note of nothing, and let nothing be sent. No condition.
-/
import Derived.Test.YtdoebgbjpimkaaaGrantAw
import Derived.Test.YtdoebgbjpimkaaaLaw
namespace Go.Proofs.Ytdoebgbjpimkaaa
open Go.ChangeShapes Go.WideShapes Go.ChangeAt Go.RowKit

set_option maxHeartbeats 800000 in
theorem left_nil (u : Int) (w : World) (h0 : 0 ≤ u) :
    Calls Try.prog 18 #[.pointer none, .int .u64 u] w fun e w' => e = .returned (.int .u64 0) ∧ w = w' := by
  go_enter Try.func18, Try.ntmps18
  go_wp2_with (go_at_call 11; refine (limit_nil _).mono ?_; rintro e w' ⟨rfl, rfl⟩)
  all_goals go_ret
  all_goals exact ⟨by simp [go_sem]; try omega, rfl⟩

set_option maxHeartbeats 800000 in
theorem nil_walk (p n : Int) (w : World) (h0 : 0 ≤ n) : Calls Try.prog 6 #[.int .i64 p, .int .u64 n] w fun e w' => e = .returned (.bool true) ∧ Chg [] w w' := by
  go_enter Try.func6, Try.ntmps6
  go_wp2_with fail
  refine (tell_nil _ _ _).mono ?_
  rintro e w' ⟨rfl, rfl⟩
  go_wp2_with fail
  refine (gone_nil _ _ _).mono ?_
  rintro e w' ⟨rfl, rfl⟩
  go_wp2_with fail
  refine (of_nil _ _).mono ?_
  rintro e w' ⟨rfl, rfl⟩
  go_wp2_with fail
  refine (limit_nil _).mono ?_
  rintro e w' ⟨rfl, rfl⟩
  go_wp2_with fail
  refine (may_nil _ _).mono ?_
  rintro e w' ⟨rfl, rfl⟩
  go_wp2_with fail
  refine (left_nil _ _ h0).mono ?_
  rintro e w' ⟨rfl, rfl⟩
  go_wp2_with fail
  refine (awake_any _).mono ?_
  rintro e w2 ⟨rfl, hc⟩
  go_wp2_with fail
  go_ret
  exact ⟨rfl, ((Chg.refl [] w).alloc _).trans hc⟩

theorem nil_lifted (os : Os) (started : os.Started) (H : Type) (enc : TypeId × Value → H) :
    ReturnsInHanded {} Try.checked os 6 .any (Rows.grantNilSpec.pre6 enc Try.prog Try.f6 Rows.grantNilRow.domain false) (Rows.grantNilSpec.post enc Try.prog Try.f6 false true false false) := by
  refine law_lifted (C := Try.checked) (tb := 4) (by kernel_rfl) (by kernel_rfl) Try.func6 rfl (fun H ds h => ?_) rfl Try.underlying4 (by kernel_rfl) (by decide +kernel) os started H enc
    (ChangeSpec.witness6 (enc := enc) (C := Try.checked) false ⟨#[], #[.int .i64 0, .int .u64 0], []⟩ 8 (by kernel_rfl) (by kernel_rfl) (by kernel_rfl) (by kernel_rfl)) ?_
  · match ds, h with | [a, b], _ => rfl
  · intro W base args ha hv
    obtain ⟨v0, v1, rfl⟩ : ∃ v0 v1, args = [v0, v1] := by match args, ha with | [a, b], _ => exact ⟨a, b, rfl⟩
    obtain ⟨p, rfl, w0⟩ := arg_int Try.underlying3 (hv 0 3 v0 rfl rfl)
    obtain ⟨n, rfl, w1⟩ := arg_int Try.underlying26 (hv 1 26 v1 rfl rfl)
    exact (nil_walk p n W (bounds_u64 w1).1).mono fun e W' ⟨h1, h2⟩ => ⟨h1, h2.below⟩

theorem grantNil_holds : Rows.GrantNilSaid :=
  OpenClaim.holds_of_wide 6 Try.f6 rfl rfl rfl rfl rfl rfl rfl ⟨rfl, rfl, rfl, rfl, rfl⟩ rfl rfl rfl rfl rfl (by kernel_rfl) Try.func6 (by kernel_rfl)
    (of_decide_eq_true (by kernel_rfl)) (by unfold Func.isWrapper; first | (rw [if_pos (by decide +kernel)]; kernel_rfl) | (rw [if_neg (by decide +kernel)]; exact ⟨rfl, rfl⟩))
    (fun os started H enc _ => nil_lifted os started H enc)
#print axioms grantNil_holds
end Go.Proofs.Ytdoebgbjpimkaaa
