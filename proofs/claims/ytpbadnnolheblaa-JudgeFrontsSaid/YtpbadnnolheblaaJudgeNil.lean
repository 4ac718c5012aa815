/-
  Package judge: nothing was sent.
-/
import Derived.Test.YtpbadnnolheblaaJudgeJ
namespace Go.Proofs.Ytpbadnnolheblaa
open Go.RowKit Go.Maps

set_option maxRecDepth 100000 in
set_option maxHeartbeats 1000000 in
theorem known_nil (w : World) (f s n : Nat) (ao : Option Addr) (ca : Nat) (hf : f < 256) :
    Calls Try.prog 14 #[.slice none 0 0, dlV f s ao n ca] w fun e w' => e = .returned (.bool false) ∧ Chg [] w w' := by
  unfold dlV
  have hc0 := (Chg.refl [] w).alloc (.cells #[.int .u8 (f : Int), .int .u64 (s : Int), .slice ao n ca] 34)
  have g1 : decide ((f : Int) < 0) = false := by simp
  go_enter Try.func14, Try.ntmps14
  go_upto_region 2 with fail
  generalize w.alloc (.cells #[.int .u8 (f : Int), .int .u64 (s : Int), .slice ao n ca] 34) = W at *
  go_quiet (fail)
  go_wp2_with fail
  go_ret
  exact ⟨rfl, hc0.drewN _⟩

set_option maxRecDepth 100000 in
set_option maxHeartbeats 1000000 in
theorem alone_nil (w : World) (ao : Option Addr) (l : List Dl) (cap : Nat) (hA : isLog w ao l) (hl : 0 < l.length) (hl2 : l.length ≤ 1000) (hf : (l.getD 0 Dl.z).f < 256) :
    Calls Try.prog 11 #[.slice none 0 0, .slice ao l.length cap] w fun e w' => e = .returned (.tuple #[.int .u8 1, .int .i64 0]) ∧ Chg [] w w' := by
  have hmm := @run_makeMap Try.prog
  have hc0 := (Chg.refl [] w).alloc (.map #[] 0)
  obtain ⟨b, off, rfl⟩ := hA.addr hl
  go_enter Try.func11, Try.ntmps11
  go_wp2_with fail
  generalize w.alloc (.map #[] 0) = W1 at *
  go_loopw [14] (fun i wr => i = .int .i64 0 ∧ Chg [] w wr) (fun i _ => 0)
  case atStart => exact ⟨rfl, hc0⟩
  case round =>
    obtain ⟨rfl, hcr⟩ := hrel
    obtain ⟨a', ca, _, x0, x1, x2, x3, x4, x5, x6⟩ := (hA.keep0 hcr).at hl
    generalize l.getD 0 Dl.z = d at *
    obtain ⟨df, ds, dp⟩ := d
    dsimp only at *
    simp only [Nat.zero_mul, Nat.add_zero, Nat.zero_add] at x0 x1 x2
    go_upto_region 5 with fail
    have hkw := fun wx => known_nil wx df ds dp.length a' ca hf
    unfold dlV at hkw
    have kD := block_new wr (.cells #[.int .u8 (df : Int), .int .u64 (ds : Int), .slice a' dp.length ca] 34)
    have hcD := hcr.alloc (.cells #[.int .u8 (df : Int), .int .u64 (ds : Int), .slice a' dp.length ca] 34)
    obtain ⟨BD, hBD⟩ : ∃ b, wr.heap.size = b := ⟨_, rfl⟩
    rw [hBD] at kD ⊢
    clear hBD
    generalize wr.alloc (.cells #[.int .u8 (df : Int), .int .u64 (ds : Int), .slice a' dp.length ca] 34) = WD at *
    have z0 : WD.cell? ⟨BD, 0, none⟩ = some (.int .u8 (df : Int)) := (cell_of_block kD 0).trans rfl
    have z1 : WD.cell? ⟨BD, 1, none⟩ = some (.int .u64 (ds : Int)) := (cell_of_block kD 1).trans rfl
    have z2 : WD.cell? ⟨BD, 2, none⟩ = some (.slice a' dp.length ca) := (cell_of_block kD 2).trans rfl
    go_wp2_with fail
    refine (hkw WD).mono ?_
    rintro e w2 ⟨rfl, hc2⟩
    go_wp2_with fail
    refine bodyPost_ret (v := .tuple #[.int .u8 1, .int .i64 0]) (by simp [results, Try.results11, go_sem]) rfl ?_
    exact ⟨rfl, hcD.trans hc2⟩

set_option maxHeartbeats 1000000 in
theorem judge_nil (w : World) (lo : Option Addr) (L : List (List Dl)) (lc : Nat) (hL : isLogs w lo L) (hLl : 0 < L.length) (hLl2 : L.length ≤ 1000) (hl : 0 < (L.getD 0 []).length) (hl2 : (L.getD 0 []).length ≤ 1000) (hf : ((L.getD 0 []).getD 0 Dl.z).f < 256) :
    Calls Try.prog 8 #[.slice none 0 0, .slice lo L.length lc] w fun e w' => e = .returned (.tuple #[.int .u8 1, .int .i64 0, .int .i64 0]) ∧ Chg [] w w' := by
  obtain ⟨bl, ol, rfl⟩ := hL.addr hLl
  go_enter Try.func8, Try.ntmps8
  go_wp2_with fail
  go_loopw [16] (fun i wr => i = .int .i64 0 ∧ Chg [] w wr) (fun i _ => 0)
  case atStart => exact ⟨rfl, Chg.refl _ _⟩
  case round =>
    obtain ⟨rfl, hcr⟩ := hrel
    obtain ⟨a1, ca1, _, x0, x1⟩ := (hL.keep0 hcr).at hLl
    generalize L.getD 0 [] = l at *
    simp only [Nat.add_zero] at x0
    go_wp2_with fail
    refine (alone_nil wr a1 l ca1 x1 hl hl2 hf).mono ?_
    rintro e w' ⟨rfl, hc⟩
    go_wp2_with fail
    refine bodyPost_ret (v := .tuple #[.int .u8 1, .int .i64 0, .int .i64 0]) (by simp [results, Try.results8, go_sem]) rfl ?_
    exact ⟨rfl, hcr.trans hc⟩
end Go.Proofs.Ytpbadnnolheblaa
