/-
  Package judge: a process' log.
-/
import Derived.Test.YtpbadnnolheblaaJudgeLPlain
import Derived.Test.YtpbadnnolheblaaJudgeRow2
namespace Go.Proofs.Ytpbadnnolheblaa
open Go.RowKit Go.Maps

set_option maxRecDepth 100000 in
set_option maxHeartbeats 1000000 in
theorem of_any (w0 w : World) (lo : Option Addr) (L : List (List Dl)) (lc : Nat) (hL : isLogs w0 lo L) (hc : Chg [] w0 w) (hLl : L.length ≤ 1000) (p : Nat) (hp : p < L.length) :
    Calls Try.prog 13 #[.slice lo L.length lc, .int .i64 (p : Int)] w fun e w' => ∃ ao cap, e = .returned (.slice ao (L.getD p []).length cap) ∧ isLog w0 ao (L.getD p []) ∧ Chg [] w w' := by
  obtain ⟨b, off, rfl⟩ := hL.addr hp
  obtain ⟨a', cap, x0, x1, x2⟩ := hL.at hp
  replace x1 := (hc.cell (p := ⟨b, off + p, none⟩) x0 (by simp)).trans x1
  generalize L.getD p [] = l at *
  have g1 : decide ((p : Int) < 0) = false := by simp
  have g2 : decide ((p : Int) ≥ (L.length : Int)) = false := by simp; omega
  have g3 : (p : Int) < (L.length : Int) := by omega
  go_enter Try.func13, Try.ntmps13
  go_wp2_with fail
  go_ret
  exact ⟨a', cap, rfl, x2, Chg.refl _ _⟩
end Go.Proofs.Ytpbadnnolheblaa
