/-
  Package grant: Gone of one process; the laws' example; nil grants.
-/
import Derived.Test.YtdoebgbjpimkaaaGrant
namespace Go.Proofs.Ytdoebgbjpimkaaa
open Go.RowKit

theorem isG.lt {w : World} {b bt bg : Nat} {g : GM} (H : isG w b bt bg g) : b < w.heap.size ∧ bt < w.heap.size ∧ bg < w.heap.size := ⟨lt_of_some H.hb, lt_of_some H.ht, lt_of_some H.hg⟩
def GM.goesN (g : GM) (p : Int) : Int := if g.goes p then 1 else 0
theorem GM.gos_one (g : GM) (p : Int) : g.gos [p] = (g.go p, g.goesN p) := by
  simp [GM.gos, GM.goStep, GM.goesN]

/-- 'Gone' of one process. -/
theorem gone_one {b bt bg : Nat} {g : GM} (p : Int) (T : Nat) (w : World) (H : isG w b bt bg g) :
    Calls Try.prog 9 #[.pointer (some ⟨b,0,none⟩), .slice (some ⟨w.heap.size, 0, none⟩) 1 1] (w.alloc (.cells #[.int .i64 p] T)) fun e w' =>
      e = .returned (.int .i64 (g.goesN p)) ∧ isG w' b bt bg (g.go p) ∧ Chg [bg] w w' := by
  have hb := H.lt
  have h := gone_any (bl := w.heap.size) (off := 0) (cap := 1) [p] (w.alloc (.cells #[.int .i64 p] T)) (H.keep ((Chg.refl [] _).alloc _) (by simp) (by simp) (by simp)) (by simp) (by simp)
    (by intro j hj; obtain rfl : j = 0 := by simpa using hj
        rw [cell_of_block (block_new _ _)]; simp) (by omega)
  rw [GM.gos_one] at h
  exact h.mono fun e w' ⟨h1, h2, h3⟩ => ⟨h1, h2, ((Chg.refl [bg] w).alloc _).trans h3⟩

theorem gone_nil (p : Int) (T : Nat) (w : World) :
    Calls Try.prog 9 #[.pointer none, .slice (some ⟨w.heap.size, 0, none⟩) 1 1] (w.alloc (.cells #[.int .i64 p] T)) fun e w' =>
      e = .returned (.int .i64 0) ∧ w' = w.alloc (.cells #[.int .i64 p] T) := by
  have hc : (w.alloc (.cells #[.int .i64 p] T)).cell? ⟨w.heap.size, 0, none⟩ = some (.int .i64 p) := by rw [cell_of_block (block_new _ _)]; simp
  generalize w.alloc (.cells #[.int .i64 p] T) = W at *
  go_enter Try.func9, Try.ntmps9
  go_wp2_with fail
  refine wp_loop_rounds 2 ?_
  rw [rounds_succ]
  go_wp2_with (go_at_call 20; refine (there_nil _ _).mono ?_; rintro e w' ⟨rfl, rfl⟩)
  rw [rounds_succ]
  go_wp2_with fail
  go_ret
  exact ⟨rfl, rfl⟩

set_option maxHeartbeats 800000 in
theorem awake_any (w : World) : Calls Try.prog 7 #[] w fun e w' => e = .returned (.bool true) ∧ Chg [] w w' := by
  have e1 : (((newG 2 1).tell 0 3).tell 1 5).lim = 3 := by decide
  have e2 : (((newG 2 1).tell 0 3).tell 1 5).goesN 0 = 1 := by decide
  have e3 : ((((newG 2 1).tell 0 3).tell 1 5).go 0).lim = 5 := by decide
  go_enter Try.func7, Try.ntmps7
  go_wp2_with fail
  refine (new_any _ _ _).mono ?_
  rintro e w1 ⟨b, bt, bg, rfl, H, hc, q1, q2, q3⟩
  go_wp2_with fail
  refine (tell_any 0 3 _ H (by omega) (by omega)).mono ?_
  rintro e w2 ⟨rfl, H2, hc2⟩
  go_wp2_with fail
  refine (tell_any 1 5 _ H2 (by omega) (by omega)).mono ?_
  rintro e w3 ⟨rfl, H3, hc3⟩
  go_wp2_with fail
  refine (limit_any _ H3).mono ?_
  rintro e w' ⟨rfl, rfl⟩
  go_wp2_with fail
  refine (gone_one 0 _ _ H3).mono ?_
  rintro e w4 ⟨rfl, H4, hc4⟩
  go_wp2_with fail
  refine (limit_any _ H4).mono ?_
  rintro e w' ⟨rfl, rfl⟩
  go_wp2_with fail
  go_ret
  exact ⟨rfl, ((hc.then hc2 (by simpa using q2)).then hc3 (by simpa using q2)).then hc4 (by simpa using q3)⟩
end Go.Proofs.Ytdoebgbjpimkaaa
