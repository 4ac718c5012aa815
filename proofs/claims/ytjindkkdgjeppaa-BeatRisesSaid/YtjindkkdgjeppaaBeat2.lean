/-
  Package beat: tell, suspected, Wait, Wrong.
-/
import Derived.Test.YtjindkkdgjeppaaBeat
namespace Go.Proofs.Ytjindkkdgjeppaa
open Go.RowKit

theorem tell_wf {d : BD} (H : d.wf) (now : Int) : d.now ≤ max d.now (min now 1099511627776) ∧ max d.now (min now 1099511627776) ≤ 1099511627776 := by
  have := H.n1; omega

set_option maxHeartbeats 400000 in
theorem tell_any {b bt : Nat} {d : BD} (now : Int) (w : World) (H : isB w b bt d) :
    Calls Try.prog 19 #[.pointer (some ⟨b,0,none⟩), .int .i64 now] w fun e w' => e = .returned (.tuple #[]) ∧ isB w' b bt (d.tell now) ∧ Chg [b] w w' := by
  have h4 := H.c4
  have hf := H.fb 4
  obtain ⟨a1, a2⟩ := tell_wf H.wf now
  have hs := H.setNow _ a1 a2
  have key : ∀ v, v = max d.now (min now 1099511627776) → isB (w.setCell ⟨b,4,none⟩ (.int .i64 v)) b bt (d.tell now) := by rintro _ rfl; exact hs
  clear hs
  go_enter Try.func19, Try.ntmps19
  go_wp2
  all_goals refine bodyPost_end (v := .tuple #[]) (by simp [results, Try.results19, go_sem]) rfl ?_
  all_goals exact ⟨rfl, key _ (by omega), (Chg.refl _ _).setCell (.inl (by simp)) _⟩

set_option maxHeartbeats 400000 in
theorem susp_any {b bt n : Nat} {d : BD} (w : World) (H : isB w b bt d) (hn : n < d.len) :
    Calls Try.prog 20 #[.pointer (some ⟨b,0,none⟩), .pointer (some ⟨bt, n * 3, none⟩)] w fun e w' => e = .returned (.bool (d.susp (d.at n))) ∧ Chg [] w w' := by
  have h4 := H.c4
  have e0 := H.ch n hn
  have e1 := H.cw n hn
  have e2 := H.cg n hn
  have b1 := H.wf.e0 n hn
  have b2 := H.wf.e1 n hn
  have b3 := H.wf.n0
  have b4 := H.wf.n1
  unfold BD.susp
  generalize d.at n = x at *
  cases hg : x.gone with
  | true =>
    rw [hg] at e2
    go_enter Try.func20, Try.ntmps20
    go_upto_region 1 with fail
    go_quiet (fail)
    go_wp2
    go_ret
    exact ⟨by simp [go_sem], (Chg.refl _ _).drewN _⟩
  | false =>
    rw [hg] at e2
    by_cases hd : x.wait < d.now - x.heard
    · have hd1 : decide (x.wait < d.now - x.heard) = true := by simp [hd]
      have hd2 := Lib.hid hd1
      go_enter Try.func20, Try.ntmps20
      go_upto_region 1 with fail
      go_quiet (fail)
      go_wp2
      go_ret
      exact ⟨by simp [go_sem, hd], (Chg.refl _ _).drewN _⟩
    · have hd1 : decide (x.wait < d.now - x.heard) = false := by simp [hd]
      go_enter Try.func20, Try.ntmps20
      go_upto_region 1 with fail
      go_quiet (fail)
      go_wp2
      go_ret
      exact ⟨by simp [go_sem, hd], (Chg.refl _ _).drewN _⟩

set_option maxHeartbeats 400000 in
theorem wait_no {b bt : Nat} {d : BD} (p : Int) (w : World) (H : isB w b bt d) (h : d.there p = false) :
    Calls Try.prog 11 #[.pointer (some ⟨b,0,none⟩), .int .i64 p] w fun e w' => e = .returned (.int .i64 0) ∧ w = w' := by
  go_enter Try.func11, Try.ntmps11
  go_wp2_with (go_at_call 18; refine (of_no p _ H h).mono ?_; rintro e w' ⟨rfl, rfl⟩)
  go_ret
  simp [go_sem]
set_option maxHeartbeats 400000 in
theorem wait_yes {b bt n : Nat} {d : BD} (w : World) (H : isB w b bt d) (hn : n < d.len) (hm : (n : Int) ≠ d.me) :
    Calls Try.prog 11 #[.pointer (some ⟨b,0,none⟩), .int .i64 n] w fun e w' => e = .returned (.int .i64 (d.at n).wait) ∧ w = w' := by
  have e1 := H.cw n hn
  go_enter Try.func11, Try.ntmps11
  go_wp2_with (go_at_call 18; refine (of_yes _ H hn hm).mono ?_; rintro e w' ⟨rfl, rfl⟩)
  go_ret
  simp [go_sem]
theorem wait_nil (p : Int) (w : World) :
    Calls Try.prog 11 #[.pointer none, .int .i64 p] w fun e w' => e = .returned (.int .i64 0) ∧ w = w' := by
  go_enter Try.func11, Try.ntmps11
  go_wp2_with (go_at_call 18; refine (of_nil p _).mono ?_; rintro e w' ⟨rfl, rfl⟩)
  go_ret
  simp [go_sem]
theorem wrong_any {b bt : Nat} {d : BD} (w : World) (H : isB w b bt d) :
    Calls Try.prog 15 #[.pointer (some ⟨b,0,none⟩)] w fun e w' => e = .returned (.int .i64 d.wrong) ∧ w = w' := by
  have h5 := H.c5
  go_enter Try.func15, Try.ntmps15
  go_wp2
  go_ret
  simp [go_sem]
theorem wrong_nil (w : World) :
    Calls Try.prog 15 #[.pointer none] w fun e w' => e = .returned (.int .i64 0) ∧ w = w' := by
  go_enter Try.func15, Try.ntmps15
  go_wp2
  go_ret
  simp [go_sem]
end Go.Proofs.Ytjindkkdgjeppaa
