/-
  BeatNil: a nil detector suspects nobody.
-/
import Derived.Test.YtjindkkdgjeppaaBeatAw
import Derived.Test.YtjindkkdgjeppaaLaw
namespace Go.Proofs.Ytjindkkdgjeppaa
open Go.ChangeShapes Go.WideShapes Go.ChangeAt Go.RowKit

set_option maxHeartbeats 1000000 in
theorem nil_walk (now p : Int) (w : World) :
    Calls Try.prog 6 #[.int .i64 now, .int .i64 p] w fun e w' => e = .returned (.bool true) ∧ Chg [] w w' := by
  go_enter Try.func6, Try.ntmps6
  go_wp2_with fail
  have hc1 := (Chg.refl [] w).alloc (.cells #[.int .i64 p] 3)
  generalize w.alloc (.cells #[.int .i64 p] 3) = W1 at *
  refine (heard_nil now _ W1).mono ?_
  rintro e w' ⟨rfl, rfl⟩
  go_wp2_with fail
  have kk := block_new w' (.cells #[.int .i64 p] 3)
  have hc2 := (Chg.refl [] w').alloc (.cells #[.int .i64 p] 3)
  have hone := block_ints (k := .i64) (l := [p]) kk
  have hgn := gone_nil (some ⟨w'.heap.size, 0, none⟩) [p] 1 _ hone (by simp)
  generalize w'.alloc (.cells #[.int .i64 p] 3) = W2 at *
  refine hgn.mono ?_
  rintro e w' ⟨rfl, rfl⟩
  go_wp2_with fail
  refine (suspects_nil now _).mono ?_
  rintro e w' ⟨rfl, rfl⟩
  go_wp2_with fail
  refine (wait_nil p _).mono ?_
  rintro e w' ⟨rfl, rfl⟩
  go_wp2_with fail
  refine (wrong_nil _).mono ?_
  rintro e w' ⟨rfl, rfl⟩
  go_wp2_with fail
  refine (awake_any _).mono ?_
  rintro e w' ⟨rfl, hc3⟩
  go_wp2_with fail
  go_ret
  exact ⟨rfl, (hc1.trans hc2).trans hc3⟩

theorem beatNil_lifted (os : Os) (started : os.Started) (H : Type) (enc : TypeId × Value → H) :
    ReturnsInHanded {} Try.checked os 6 .any (Rows.beatNilSpec.pre6 enc Try.prog Try.f6 Rows.beatNilRow.domain false) (Rows.beatNilSpec.post enc Try.prog Try.f6 false true false false) := by
  refine law_lifted (C := Try.checked) (tb := 4) (by kernel_rfl) (by kernel_rfl) Try.func6 rfl (fun H ds h => ?_) rfl Try.underlying4 (by kernel_rfl) (by decide +kernel) os started H enc
    (ChangeSpec.witness6 (enc := enc) (C := Try.checked) false ⟨#[], #[.int .i64 0, .int .i64 0], []⟩ 8 (by kernel_rfl) (by kernel_rfl) (by kernel_rfl) (by kernel_rfl)) ?_
  · match ds, h with | [a, b], _ => rfl
  · intro W base args ha hv
    obtain ⟨v0, v1, rfl⟩ : ∃ v0 v1, args = [v0, v1] := by match args, ha with | [a, b], _ => exact ⟨a, b, rfl⟩
    obtain ⟨now, rfl, _⟩ := arg_int Try.underlying2 (hv 0 2 v0 rfl rfl)
    obtain ⟨p, rfl, _⟩ := arg_int Try.underlying3 (hv 1 3 v1 rfl rfl)
    exact (nil_walk now p W).mono fun e W' ⟨h1, h2⟩ => ⟨h1, h2.below⟩

theorem beatNil_holds : Rows.BeatNilSaid :=
  OpenClaim.holds_of_wide 6 Try.f6 rfl rfl rfl rfl rfl rfl rfl ⟨rfl, rfl, rfl, rfl, rfl⟩ rfl rfl rfl rfl rfl (by kernel_rfl) Try.func6 (by kernel_rfl)
    (of_decide_eq_true (by kernel_rfl)) (by unfold Func.isWrapper; first | (rw [if_pos (by decide +kernel)]; kernel_rfl) | (rw [if_neg (by decide +kernel)]; exact ⟨rfl, rfl⟩))
    (fun os started H enc _ => beatNil_lifted os started H enc)
#print axioms beatNil_holds
end Go.Proofs.Ytjindkkdgjeppaa
