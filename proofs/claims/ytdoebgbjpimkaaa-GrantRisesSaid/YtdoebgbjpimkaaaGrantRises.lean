/-
  GrantRises: for every number of processes, every one of them as me, and every row of acts: the limit never falls, and nobody who isn't gone told less than it. No condition.
-/
import Derived.Test.YtdoebgbjpimkaaaGrantActs
import Derived.Test.YtdoebgbjpimkaaaGrantLim
namespace Go.Proofs.Ytdoebgbjpimkaaa
open Go.ChangeShapes Go.WideShapes Go.ChangeAt Go.RowKit

theorem bools_at {w : World} {B T : Nat} {gl : List Bool} (h : w.heap[B]? = some (.cells (gl.map Value.bool).toArray T)) {j : Nat} (hj : j < gl.length) : w.cell? ⟨B, j, none⟩ = some (.bool (gl.getD j false)) := by
  rw [cell_of_block h, map_get _ _ _ false hj]

set_option maxRecDepth 100000 in
set_option maxHeartbeats 2000000 in
theorem rises_walk (n me : Int) (ao : Option Addr) (l : List Act3) (cap : Nat) (w : World) (hl : l.length ≤ 9223372036854775807) (H : isActs w ao l) :
    Calls Try.prog 4 #[.int .i64 n, .int .i64 me, .slice ao l.length cap] w fun e w' => e = .returned (.bool true) ∧ Chg [] w w' := by
  by_cases hbig : 200 < l.length
  · go_enter Try.func4, Try.ntmps4
    go_wp2_with fail
    refine (awake_any _).mono ?_
    rintro e w2 ⟨rfl, hc⟩
    go_wp2_with fail
    go_ret
    exact ⟨rfl, hc⟩
  · obtain ⟨j0, gi, gz0, gz1, gz2⟩ := info_parts Try.info_bool
    have r2 := fun wx => run_make (P := Try.prog) wx 33 4 j0 _ Try.underlying33 gi gz0 .i64 .i64 64 64 (by omega) (by omega) (by rw [gz2]; omega) (by omega)
    rw [gz1, show (Value.bool false).cells = #[.bool false] from rfl, madeCells_one] at r2
    have rl : (List.replicate ((64 : Int).toNat * 1) (Value.bool false)).toArray = ((List.replicate 64 false).map Value.bool).toArray := by rw [List.map_replicate]; rfl
    rw [rl] at r2
    clear rl
    obtain ⟨gl0, hgl0⟩ : ∃ gl, List.replicate 64 false = gl := ⟨_, rfl⟩
    rw [hgl0] at r2
    have HGL := Lib.hid hgl0
    clear hgl0
    go_enter Try.func4, Try.ntmps4
    go_wp2_with fail
    refine (new_any _ _ _).mono ?_
    rintro e w1 ⟨b, bt, bg, rfl, H1, hc1, q1, q2, q3⟩
    go_wp2_with fail
    have H1' := H1.keep ((Chg.refl [] _).alloc (.cells (gl0.map Value.bool).toArray 4)) (by simp) (by simp) (by simp)
    have hlt := H1.lt
    have hB := block_new w1 (.cells (gl0.map Value.bool).toArray 4)
    have hcc := hc1.alloc (.cells (gl0.map Value.bool).toArray 4)
    refine (limit_any _ H1').mono ?_
    rintro e w' ⟨rfl, rfl⟩
    generalize w1.alloc (.cells (gl0.map Value.bool).toArray 4) = w2 at *
    obtain ⟨B, hBe⟩ : ∃ B, w1.heap.size = B := ⟨_, rfl⟩
    rw [hBe] at hB hlt ⊢
    have hBw : w.heap.size ≤ B := by rw [← hBe]; exact hc1.size
    clear hBe
    go_wp2_with fail
    have hgl : Hid (gl0.length = 64) := by show gl0.length = 64; rw [← HGL.out]; simp
    go_loopw [9, 10] (fun wa i wr => ∃ (k : Nat) (gl : List Bool), k ≤ l.length ∧ i = .int .i64 k ∧ wa = .int .u64 ((l.take k).foldl GM.act (newG n me)).lim ∧ isG wr b bt bg ((l.take k).foldl GM.act (newG n me)) ∧
        wr.heap[B]? = some (.cells (gl.map Value.bool).toArray 4) ∧ gl.length = 64 ∧ (∀ p, p < 64 → ((l.take k).foldl GM.act (newG n me)).gone.getD p false = true → gl.getD p false = true) ∧ Chg [] w wr)
      (fun _ i _ => l.length - (intOf i).toNat)
    case atStart =>
      refine ⟨0, gl0, by omega, rfl, rfl, by simpa using H1', hB, hgl.out, fun p hp h => ?_, hcc⟩
      simp [newG, List.getD, List.getElem?_replicate] at h
      split at h <;> simp at h
    case round =>
      obtain ⟨k, gl, hk, rfl, rfl, HG, hBr, hgll, hgone, hcr⟩ := hrel
      by_cases hlt : k < l.length
      · have HA := H.keep hcr
        obtain ⟨ba, off, rfl, hba, x0, x1, x2, xlo, xhi⟩ := HA k hlt
        clear HA
        have HX := Lib.hid (fold_snoc (newG n me) l k hlt)
        have HL := Lib.hid (GM.fold_len (newG n me) (l.take k))
        have HM := Lib.hid (GM.fold_me (newG n me) (l.take k))
        generalize l.getD k (false, 0, 0) = p at *
        obtain ⟨pg, pp, pu⟩ := p
        dsimp only at x0 x1 x2 xlo xhi
        generalize (l.take k).foldl GM.act (newG n me) = G at *
        have l1 := HG.lt
        have hBl := lt_of_some hBr
        go_upto_if 35 with fail
        have hZ := block_new wr (.cells #[.bool pg, .int .i64 pp, .int .u64 pu] 28)
        have HGa := HG.keep ((Chg.refl [] _).alloc (.cells #[.bool pg, .int .i64 pp, .int .u64 pu] 28)) (by simp) (by simp) (by simp)
        have hBa := block_alloc (o' := .cells #[.bool pg, .int .i64 pp, .int .u64 pu] 28) hBr
        have hca := hcr.alloc (.cells #[.bool pg, .int .i64 pp, .int .u64 pu] 28)
        generalize wr.alloc (.cells #[.bool pg, .int .i64 pp, .int .u64 pu] 28) = wa at *
        obtain ⟨Z, hz⟩ : ∃ Z, wr.heap.size = Z := ⟨_, rfl⟩
        rw [hz] at hZ hBl l1 ⊢
        have hwr := hcr.size
        rw [hz] at hwr
        clear hz x0 x1 x2
        have p0 : wa.cell? ⟨Z, 0, none⟩ = some (.bool pg) := by rw [cell_of_block hZ]; rfl
        have p1 : wa.cell? ⟨Z, 1, none⟩ = some (.int .i64 pp) := by rw [cell_of_block hZ]; rfl
        have p2 : wa.cell? ⟨Z, 2, none⟩ = some (.int .u64 pu) := by rw [cell_of_block hZ]; rfl
        go_cut [11] from 36 to 65 (fun _ wx => ∃ gl' : List Bool, isG wx b bt bg (G.act (pg, pp, pu)) ∧ wx.heap[B]? = some (.cells (gl'.map Value.bool).toArray 4) ∧ gl'.length = 64 ∧ (∀ p, p < 64 → (G.act (pg, pp, pu)).gone.getD p false = true → gl'.getD p false = true) ∧ Chg [] w wx)
        case first =>
          have hgx := Lib.hid (fun p => GM.act_goneD G (pg, pp, pu) p)
          cases pg
          · go_wp2_with fail
            refine (tell_any pp pu _ HGa xlo xhi).mono ?_
            rintro e w3 ⟨rfl, H3, hc3⟩
            go_wp2_with fail
            go_meet
            refine ⟨gl, H3, hc3.at hBa (by simp; omega), hgll, fun p hp h => ?_, hca.then hc3 (by simp; omega)⟩
            rcases hgx.out p h with h | h
            · exact hgone p hp h
            · exact absurd h.1 (by simp)
          · cases hgo : G.goes pp with
            | false =>
              have hgn : G.goesN pp = 0 := by simp [GM.goesN, hgo]
              go_wp2_with fail
              refine (gone_one pp _ _ HGa).mono ?_
              rintro e w3 ⟨rfl, H3, hc3⟩
              go_wp2_with fail
              go_meet
              refine ⟨gl, H3, hc3.at hBa (by simp; omega), hgll, fun p hp h => ?_, hca.then hc3 (by simp; omega)⟩
              rcases hgx.out p h with h | ⟨_, h2, h3⟩
              · exact hgone p hp h
              · rw [← h2, hgo] at h3; cases h3
            | true =>
              have hgn : G.goesN pp = 1 := by simp [GM.goesN, hgo]
              obtain ⟨g1, g2, g3⟩ := GM.goes_range (n := n) (me := me) (by rw [HL.out]; simp [newG]) (by rw [HM.out]; rfl) hgo
              obtain ⟨m, rfl⟩ : ∃ m : Nat, pp = m := ⟨pp.toNat, by omega⟩
              go_wp2_with fail
              refine (gone_one m _ _ HGa).mono ?_
              rintro e w3 ⟨rfl, H3, hc3⟩
              have hBy := hc3.at hBa (by simp; omega)
              have hZy := hc3.at hZ (by simp; omega)
              have y1 : w3.cell? ⟨Z, 1, none⟩ = some (.int .i64 m) := by rw [cell_of_block hZy]; rfl
              have y2 := bools_at hBy (j := m) (by omega)
              have y3 := free_of_block hBy m
              go_wp2_with fail
              go_meet
              refine ⟨gl.set m true, H3.keep ((Chg.refl [B] _).setCell (.inl (by simp)) _) (by simp; omega) (by simp; omega) (by simp; omega), ?_, by simpa using hgll, fun p hp h => ?_, (hca.then hc3 (by simp; omega)).setCell (.inr (by simpa using hBw)) _⟩
              · rw [block_set hBy, map_set]
              · rcases hgx.out p h with h | ⟨_, h2, h3⟩
                · have := hgone p hp h
                  simp only [List.getD, List.getElem?_set] at this ⊢
                  split
                  · split <;> simp_all
                  · exact this
                · obtain rfl : m = p := by omega
                  simp [show m < gl.length by omega]
        case rest =>
          clear p0 p1 p2
          obtain ⟨gl', HGx, hBx, hgl', hgx, hcx⟩ := hcut
          have hmono := GM.lim_act G (pg, pp, pu)
          go_wp2_with fail
          refine (limit_any _ HGx).mono ?_
          rintro e w' ⟨rfl, rfl⟩
          go_wp2_with fail
          have hlen : (G.act (pg, pp, pu)).told.length = (clampN n).toNat := by rw [GM.act_len, HL.out]; simp [newG]
          have HLen := Lib.hid hlen
          clear hlen
          generalize G.act (pg, pp, pu) = G2 at *
          have hcl := clampN_hi n
          have l2 := HGx.lt
          go_loop [13] (fun t => ∃ j : Nat, j ≤ 64 ∧ t = .int .i64 j) (fun t => 64 - (intOf t).toNat)
          case atStart => exact ⟨0, by omega, rfl⟩
          case round =>
            obtain ⟨j, hj, rfl⟩ := hrel
            by_cases hin : j < 64 ∧ ((j : Int) < n ∨ j < 1)
            · obtain ⟨hj1, hj2⟩ := hin
              have hjc : (j : Int) < clampN n := by unfold clampN; omega
              have hjl : j < G2.told.length := by rw [HLen.out]; omega
              have hcb := bools_at hBx (j := j) (by omega)
              have hle : gl'.getD j false = false → G2.lim ≤ G2.of j := by
                intro h
                have hg : G2.gone.getD j false = false := by
                  cases hx : G2.gone.getD j false with
                  | false => rfl
                  | true => rw [hgx j hj1 hx] at h; cases h
                have := GM.lim_le hjl hg
                simpa [GM.of, GM.there, hjl] using this
              have hjx : (j : Int) < max 1 n := by omega
              cases hb : gl'.getD j false with
              | true =>
                rw [hb] at hcb
                clear hle hb
                by_cases hn : 1 < n
                all_goals
                  go_wp2_with fail
                  go_round
                  case rel => exact ⟨j + 1, by omega, by go_num⟩
                  case measure => simp [intOf]; omega
              | false =>
                have hle2 := hle hb
                rw [hb] at hcb
                clear hle hb
                by_cases hn : 1 < n
                all_goals
                  go_wp2_with fail
                  refine (of_any j _ HGx).mono ?_
                  rintro e w' ⟨rfl, rfl⟩
                  go_wp2_with fail
                  go_round
                  case rel => exact ⟨j + 1, by omega, by go_num⟩
                  case measure => simp [intOf]; omega
            · have hout : 64 ≤ j ∨ (n ≤ j ∧ 1 ≤ j) := by omega
              clear hin
              rcases hout with h64 | ⟨ho1, ho2⟩
              · go_wp2_with fail
                go_roundw
                case rel => exact ⟨k + 1, gl', by omega, by go_num, by rw [HX.out], by rw [HX.out]; exact HGx, hBx, hgl', by rw [HX.out]; exact hgx, hcx⟩
                case measure => simp [intOf]; omega
              · by_cases hj6 : j < 64
                · by_cases hn : 1 < n
                  all_goals
                    go_wp2_with fail
                    go_roundw
                    case rel => exact ⟨k + 1, gl', by omega, by go_num, by rw [HX.out], by rw [HX.out]; exact HGx, hBx, hgl', by rw [HX.out]; exact hgx, hcx⟩
                    case measure => simp [intOf]; omega
                · go_wp2_with fail
                  go_roundw
                  case rel => exact ⟨k + 1, gl', by omega, by go_num, by rw [HX.out], by rw [HX.out]; exact HGx, hBx, hgl', by rw [HX.out]; exact hgx, hcx⟩
                  case measure => simp [intOf]; omega
      · go_wp2_with fail
        refine (awake_any _).mono ?_
        rintro e w2 ⟨rfl, hc⟩
        go_wp2_with fail
        go_ret
        exact ⟨rfl, hcr.trans hc⟩

theorem grantRises_lifted (os : Os) (started : os.Started) (H : Type) (enc : TypeId × Value → H) :
    ReturnsInHanded {} Try.checked os 4 .any (Rows.grantRisesSpec.pre6 enc Try.prog Try.f4 Rows.grantRisesRow.domain false) (Rows.grantRisesSpec.post enc Try.prog Try.f4 false true false false) := by
  refine law_lifted (C := Try.checked) (tb := 4) (by kernel_rfl) (by kernel_rfl) Try.func4 rfl (fun H ds h => ?_) rfl Try.underlying4 (by kernel_rfl) (by decide +kernel) os started H enc
    (ChangeSpec.witness6 (enc := enc) (C := Try.checked) false ⟨#[], #[.int .i64 0, .int .i64 0, .slice none 0 0], []⟩ 8 (by kernel_rfl) (by kernel_rfl) (by kernel_rfl) (by kernel_rfl)) ?_
  · match ds, h with | [a, b, c], _ => rfl
  · intro W base args ha hv
    obtain ⟨v0, v1, v2, rfl⟩ : ∃ v0 v1 v2, args = [v0, v1, v2] := by match args, ha with | [a, b, c], _ => exact ⟨a, b, c, rfl⟩
    obtain ⟨n, rfl, w0⟩ := arg_int Try.underlying3 (hv 0 3 v0 rfl rfl)
    obtain ⟨me, rfl, w1⟩ := arg_int Try.underlying3 (hv 1 3 v1 rfl rfl)
    obtain ⟨ao, l, cap, rfl, hl, hA⟩ := acts_of (hv 2 22 v2 rfl rfl)
    exact (rises_walk n me ao l cap W hl hA).mono fun e W' ⟨h1, h2⟩ => ⟨h1, h2.below⟩

theorem grantRises_holds : Rows.GrantRisesSaid :=
  OpenClaim.holds_of_wide 4 Try.f4 rfl rfl rfl rfl rfl rfl rfl ⟨rfl, rfl, rfl, rfl, rfl⟩ rfl rfl rfl rfl rfl (by kernel_rfl) Try.func4 (by kernel_rfl)
    (of_decide_eq_true (by kernel_rfl)) (by unfold Func.isWrapper; first | (rw [if_pos (by decide +kernel)]; kernel_rfl) | (rw [if_neg (by decide +kernel)]; exact ⟨rfl, rfl⟩))
    (fun os started H enc _ => grantRises_lifted os started H enc)
#print axioms grantRises_holds
end Go.Proofs.Ytdoebgbjpimkaaa
