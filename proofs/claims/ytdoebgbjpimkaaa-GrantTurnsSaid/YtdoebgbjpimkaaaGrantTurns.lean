/-
  GrantTurns: for every number of processes, every one of them as me, and every row of acts: after the acts in one order and in the other the limits are the same. No condition.
-/
import Derived.Test.YtdoebgbjpimkaaaGrantActs
namespace Go.Proofs.Ytdoebgbjpimkaaa
open Go.ChangeShapes Go.WideShapes Go.ChangeAt Go.RowKit

set_option maxHeartbeats 1000000 in
theorem turns_walk (n me : Int) (ao : Option Addr) (l : List Act3) (cap : Nat) (w : World) (hl : l.length ≤ 9223372036854775807) (H : isActs w ao l) :
    Calls Try.prog 3 #[.int .i64 n, .int .i64 me, .slice ao l.length cap] w fun e w' => e = .returned (.bool true) ∧ Chg [] w w' := by
  by_cases hbig : 100 < l.length
  · go_enter Try.func3, Try.ntmps3
    go_wp2_with fail
    refine (awake_any _).mono ?_
    rintro e w2 ⟨rfl, hc⟩
    go_wp2_with fail
    go_ret
    exact ⟨rfl, hc⟩
  · go_enter Try.func3, Try.ntmps3
    go_wp2_with fail
    refine (new_any _ _ _).mono ?_
    rintro e w1 ⟨b, bt, bg, rfl, H1, hc1, q1, q2, q3⟩
    go_wp2_with fail
    refine (new_any _ _ _).mono ?_
    rintro e w2 ⟨b', bt', bg', rfl, H2, hc2, q1', q2', q3'⟩
    have H1' := H1.keep hc2 (by simp) (by simp) (by simp)
    have hlt := H1.lt
    have hc := hc1.trans hc2
    go_wp2_with fail
    go_loopw [9] (fun i wr => ∃ k : Nat, k ≤ l.length ∧ i = .int .i64 k ∧ isG wr b bt bg ((l.take k).foldl GM.act (newG n me)) ∧ isG wr b' bt' bg' ((l.reverse.take k).foldl GM.act (newG n me)) ∧ Chg [] w wr)
      (fun i _ => l.length - (intOf i).toNat)
    case atStart => exact ⟨0, by omega, rfl, by simpa using H1', by simpa using H2, hc⟩
    case round =>
      obtain ⟨k, hk, rfl, HG, HH, hcr⟩ := hrel
      by_cases hlt : k < l.length
      · have HA := H.keep hcr
        obtain ⟨ba, off, rfl, hba, x0, x1, x2, xlo, xhi⟩ := HA k hlt
        obtain ⟨ba', off', e', _, y0, y1, y2, ylo, yhi⟩ := HA (l.length - 1 - k) (by omega)
        simp only [Option.some.injEq, Addr.mk.injEq] at e'
        obtain ⟨rfl, rfl, _⟩ := e'
        clear HA
        have HX := Lib.hid (fold_snoc (newG n me) l k hlt)
        have HY := Lib.hid (fold_rev (newG n me) l (k := k) (m := l.length - 1 - k) (by omega))
        generalize l.getD k (false, 0, 0) = p at *
        generalize l.getD (l.length - 1 - k) (false, 0, 0) = q at *
        obtain ⟨pg, pp, pu⟩ := p
        obtain ⟨qg, qp, qu⟩ := q
        dsimp only at x0 x1 x2 xlo xhi y0 y1 y2 ylo yhi
        go_upto_region 7 with fail
        go_cut [10, 11] from 28 to 39 (fun s10 s11 wx => ∃ B1 B2, s10 = .pointer (some ⟨B1,0,none⟩) ∧ s11 = .pointer (some ⟨B2,0,none⟩) ∧ wr.heap.size ≤ B1 ∧ wr.heap.size ≤ B2 ∧ Chg [] wr wx ∧
          wx.heap[B1]? = some (.cells #[.bool pg, .int .i64 pp, .int .u64 pu] 28) ∧ wx.heap[B2]? = some (.cells #[.bool qg, .int .i64 qp, .int .u64 qu] 28))
        case first =>
          go_region
          all_goals go_wp2_with fail
          all_goals go_meet
          · obtain ⟨k1, k2⟩ := two_blocks wr (.cells #[.bool pg, .int .i64 pp, .int .u64 pu] 28) (.cells #[.bool qg, .int .i64 qp, .int .u64 qu] 28)
            exact ⟨_, _, rfl, rfl, by omega, by omega, (((Chg.refl _ _).alloc _).alloc _).drew, k1, k2⟩
          · obtain ⟨k1, k2⟩ := two_blocks wr (.cells #[.bool qg, .int .i64 qp, .int .u64 qu] 28) (.cells #[.bool pg, .int .i64 pp, .int .u64 pu] 28)
            exact ⟨_, _, rfl, rfl, by omega, by omega, (((Chg.refl _ _).alloc _).alloc _).drew, k2, k1⟩
        case rest =>
          obtain ⟨B1, B2, rfl, rfl, z1, z2, hcx, f1, f2⟩ := hcut
          have HGx := HG.keep hcx (by simp) (by simp) (by simp)
          have HHx := HH.keep hcx (by simp) (by simp) (by simp)
          have hcw := hcr.trans hcx
          have l1 := HG.lt
          have l2 := HH.lt
          have p0 : wc.cell? ⟨B1, 0, none⟩ = some (.bool pg) := by rw [cell_of_block f1]; rfl
          have p1 : wc.cell? ⟨B1, 1, none⟩ = some (.int .i64 pp) := by rw [cell_of_block f1]; rfl
          have p2 : wc.cell? ⟨B1, 2, none⟩ = some (.int .u64 pu) := by rw [cell_of_block f1]; rfl
          clear x0 x1 x2 y0 y1 y2
          generalize (l.take k).foldl GM.act (newG n me) = G at *
          generalize (l.reverse.take k).foldl GM.act (newG n me) = G' at *
          go_upto_if 41 with fail
          go_cut [11] from 42 to 52 (fun s11 wx => s11 = .pointer (some ⟨B2,0,none⟩) ∧ isG wx b bt bg (G.act (pg, pp, pu)) ∧ isG wx b' bt' bg' G' ∧ Chg [] w wx ∧
            wx.heap[B2]? = some (.cells #[.bool qg, .int .i64 qp, .int .u64 qu] 28))
          case first =>
            cases pg
            · go_wp2_with fail
              refine (tell_any pp pu _ HGx xlo xhi).mono ?_
              rintro e w3 ⟨rfl, H3, hc3⟩
              go_wp2_with fail
              go_meet
              exact ⟨rfl, H3, HHx.keep hc3 (by simp; omega) (by simp; omega) (by simp; omega), hcw.then hc3 (by simp; omega), hc3.at f2 (by simp; omega)⟩
            · go_wp2_with fail
              refine (gone_one pp _ _ HGx).mono ?_
              rintro e w3 ⟨rfl, H3, hc3⟩
              go_wp2_with fail
              go_meet
              exact ⟨rfl, H3, HHx.keep hc3 (by simp; omega) (by simp; omega) (by simp; omega), hcw.then hc3 (by simp; omega), hc3.at f2 (by simp; omega)⟩
          case rest =>
            obtain ⟨rfl, HGy, HHy, hcy, f2'⟩ := hcut
            have p0 : wc.cell? ⟨B2, 0, none⟩ = some (.bool qg) := by rw [cell_of_block f2']; rfl
            have p1 : wc.cell? ⟨B2, 1, none⟩ = some (.int .i64 qp) := by rw [cell_of_block f2']; rfl
            have p2 : wc.cell? ⟨B2, 2, none⟩ = some (.int .u64 qu) := by rw [cell_of_block f2']; rfl
            cases qg
            · go_wp2_with fail
              refine (tell_any qp qu _ HHy ylo yhi).mono ?_
              rintro e w3 ⟨rfl, H3, hc3⟩
              go_wp2_with fail
              go_roundw
              case rel => exact ⟨k + 1, by omega, by go_num, by rw [HX.out]; exact HGy.keep hc3 (by simp; omega) (by simp; omega) (by simp; omega), by rw [HY.out]; exact H3, hcy.then hc3 (by simp; omega)⟩
              case measure => simp [intOf]; omega
            · go_wp2_with fail
              refine (gone_one qp _ _ HHy).mono ?_
              rintro e w3 ⟨rfl, H3, hc3⟩
              go_wp2_with fail
              go_roundw
              case rel => exact ⟨k + 1, by omega, by go_num, by rw [HX.out]; exact HGy.keep hc3 (by simp; omega) (by simp; omega) (by simp; omega), by rw [HY.out]; exact H3, hcy.then hc3 (by simp; omega)⟩
              case measure => simp [intOf]; omega
      · go_wp2_with fail
        refine (limit_any _ HG).mono ?_
        rintro e w' ⟨rfl, rfl⟩
        go_wp2_with fail
        refine (limit_any _ HH).mono ?_
        rintro e w' ⟨rfl, rfl⟩
        have hE : ((l.take k).foldl GM.act (newG n me)).lim = ((l.reverse.take k).foldl GM.act (newG n me)).lim := by
          obtain rfl : k = l.length := by omega
          rw [List.take_length, List.take_of_length_le (by simp), GM.fold_turn]
        rw [hE]
        go_wp2_with fail
        refine (awake_any _).mono ?_
        rintro e w2 ⟨rfl, hc⟩
        go_wp2_with fail
        go_ret
        exact ⟨rfl, hcr.trans hc⟩

theorem turns_lifted (os : Os) (started : os.Started) (H : Type) (enc : TypeId × Value → H) :
    ReturnsInHanded {} Try.checked os 3 .any (Rows.grantTurnsSpec.pre6 enc Try.prog Try.f3 Rows.grantTurnsRow.domain false) (Rows.grantTurnsSpec.post enc Try.prog Try.f3 false true false false) := by
  refine law_lifted (C := Try.checked) (tb := 4) (by kernel_rfl) (by kernel_rfl) Try.func3 rfl (fun H ds h => ?_) rfl Try.underlying4 (by kernel_rfl) (by decide +kernel) os started H enc
    (ChangeSpec.witness6 (enc := enc) (C := Try.checked) false ⟨#[], #[.int .i64 0, .int .i64 0, .slice none 0 0], []⟩ 8 (by kernel_rfl) (by kernel_rfl) (by kernel_rfl) (by kernel_rfl)) ?_
  · match ds, h with | [a, b, c], _ => rfl
  · intro W base args ha hv
    obtain ⟨v0, v1, v2, rfl⟩ : ∃ v0 v1 v2, args = [v0, v1, v2] := by match args, ha with | [a, b, c], _ => exact ⟨a, b, c, rfl⟩
    obtain ⟨n, rfl, w0⟩ := arg_int Try.underlying3 (hv 0 3 v0 rfl rfl)
    obtain ⟨me, rfl, w1⟩ := arg_int Try.underlying3 (hv 1 3 v1 rfl rfl)
    obtain ⟨ao, l, cap, rfl, hl, hA⟩ := acts_of (hv 2 22 v2 rfl rfl)
    exact (turns_walk n me ao l cap W hl hA).mono fun e W' ⟨h1, h2⟩ => ⟨h1, h2.below⟩

theorem grantTurns_holds : Rows.GrantTurnsSaid :=
  OpenClaim.holds_of_wide 3 Try.f3 rfl rfl rfl rfl rfl rfl rfl ⟨rfl, rfl, rfl, rfl, rfl⟩ rfl rfl rfl rfl rfl (by kernel_rfl) Try.func3 (by kernel_rfl)
    (of_decide_eq_true (by kernel_rfl)) (by unfold Func.isWrapper; first | (rw [if_pos (by decide +kernel)]; kernel_rfl) | (rw [if_neg (by decide +kernel)]; exact ⟨rfl, rfl⟩))
    (fun os started H enc _ => turns_lifted os started H enc)
#print axioms grantTurns_holds
end Go.Proofs.Ytdoebgbjpimkaaa
