/-
  JudgeFronts: fronts of one row are fine, and what lacks is what is left of it.
-/
import Derived.Test.YtpbadnnolheblaaJudgeFPlain
import Derived.Test.YtpbadnnolheblaaSentArg
import Derived.Test.YtpbadnnolheblaaJudgeAw
import Derived.Test.YtpbadnnolheblaaJudgeGreat
import Derived.Test.YtpbadnnolheblaaJudgeRow2
namespace Go.Proofs.Ytpbadnnolheblaa
open Go.ChangeShapes Go.WideShapes Go.ChangeAt Go.RowKit

theorem Try.cellsU16 : Try.prog.cellsOf 23 = 1 := by kernel_rfl
section
variable {H : Type} {enc : TypeId × Value → H} {W : World}
theorem arg_u16s {r : Reach} {b0 : Nat} {v : Value} (h : Value.okWide Try.prog W r b0 39 v ∧ Rd enc Try.prog W 39 v.cells.toList) :
    ∃ ao l cap, v = .slice ao (List.length l) cap ∧ isInts .u16 W ao l ∧ l.length ≤ cap ∧ cap ≤ maxLen ∧ ∀ c ∈ l, 0 ≤ c ∧ c ≤ 65535 := by
  rcases arg_slice Try.underlying39 h with rfl | ⟨a, len, cap, rfl, hl, hc, he⟩
  · exact ⟨none, [], 0, rfl, isInts_nil _ _, by simp, by simp, by simp⟩
  · have hx : ∀ i, i < len → ∃ x : Int, (∃ b off, some a = some ⟨b, off, none⟩ ∧ b < W.heap.size ∧ W.cell? ⟨b, off + i, none⟩ = some (.int .u16 x)) ∧ 0 ≤ x ∧ x ≤ 65535 := by
      intro i hi
      obtain ⟨b, off, rfl, hb⟩ := row_addr he (by omega) (by rw [Try.cellsU16]; omega)
      obtain ⟨cs, h1, h2⟩ := he i hi
      rw [Try.cellsU16] at h1
      obtain ⟨h3, h4⟩ := row_cells h1
      obtain ⟨n, e1, wn⟩ := h2.int Try.underlying23
      subst e1
      have hb2 := bounds_u16 wn
      have := h4 0 (by omega)
      exact ⟨n, ⟨b, off, rfl, hb, by simpa using this⟩, by omega, by omega⟩
    obtain ⟨l, h1, h2⟩ := list_of (0 : Int) _ len hx
    subst h1
    refine ⟨some a, l, cap, rfl, fun i hi => (h2 i hi).1, hl, hc, fun c hc => ?_⟩
    obtain ⟨i, hi, rfl⟩ := List.getElem_of_mem hc
    have := (h2 i hi).2
    simpa [List.getD, hi] using this
end
theorem hid_snoc {n k : Nat} {ks : List Nat} {x : Int} (h : Hid (ks.length = k ∧ lackS n ks = x)) (m : Nat) : Hid ((ks ++ [m]).length = k + 1 ∧ lackS n (ks ++ [m]) = x + ((n : Int) - m)) := by
  obtain ⟨rfl, rfl⟩ := h
  exact Lib.hid ⟨by simp, lackS_snoc _ _ _⟩
theorem sizeDl (w : World) : (sizeOf 34).run Try.prog w = .ok 3 w := by kernel_rfl
theorem add_zero' (a : Addr) : a.add 0 = a := by
  obtain ⟨b, o, s⟩ := a
  cases s <;> simp [Addr.add]
/-- A front of a log, sliced. -/
theorem run_slice_front {ra : Option Addr} {n rc k : Nat} (hn : n ≤ rc) (hk : k ≤ n) (w : World) :
    (Instr.slice 27 (.slice ra n rc) none (some (.int .i64 (k : Int))) none).run Try.prog w = .ok (.slice ra k rc) w := by
  rw [run_slice_h w 27 ra n rc Try.underlying27 .i64 (k : Int) (by omega) (by omega)]
  rw [show Try.prog.elem 27 = 34 by kernel_rfl, sizeDl]
  have : ra.map (fun x => x.add 0) = ra := by cases ra <;> simp [add_zero']
  simp [sliced, Result.andThen, this]

set_option maxRecDepth 100000 in
set_option maxHeartbeats 4000000 in
theorem fronts_walk (w : World) (so : Option Addr) (S : List (List (List Nat))) (sc : Nat) (co : Option Addr) (C : List Int) (cc : Nat) (hS : isSent w so S) (hSl : S.length ≤ maxLen) (hC : isInts .u16 w co C) (hCl : C.length ≤ maxLen)
    (hCb : ∀ c ∈ C, 0 ≤ c ∧ c ≤ 65535) :
    Calls Try.prog 4 #[.slice so S.length sc, .slice co C.length cc] w fun e w' => e = .returned (.bool true) ∧ Chg [] w w' := by
  have HSl := Lib.hid hSl
  unfold maxLen at hSl hCl
  obtain ⟨i0, hi, hz0, hz1, hz2⟩ := info_parts Try.info_log
  obtain ⟨i1, hj, hy0, hy1, hy2⟩ := info_parts Try.info_int
  go_enter Try.func4, Try.ntmps4
  go_wp2_with fail
  have hc0 := (Chg.refl [] w).alloc (.cells #[] 27)
  generalize hB0 : w.heap.size = B0
  generalize w.alloc (.cells #[] 27) = W1 at *
  refine (great_any W1 so S sc (some ⟨B0, 0, none⟩) 0 (hS.keep0 hc0) HSl.out).mono ?_
  rintro e w' ⟨g, rfl, hg, rfl⟩
  cases g with
  | true =>
    go_wp2_with fail
    refine (awake_any _).mono ?_
    rintro e w2 ⟨rfl, hc⟩
    go_wp2_with fail
    go_ret
    exact ⟨rfl, hc0.trans hc⟩
  | false =>
    have hsm := hg rfl
    have hrl := row_len hsm
    have hnd := row_nodup hsm
    have hkn := row_kn hsm
    have h10 := hsm.1
    have hS1000 : S.length ≤ 1000 := by omega
    have hr1000 : ∀ r ∈ S, r.length ≤ 1000 := fun r hr => Nat.le_trans (hsm.2 r hr).1 (by omega)
    clear hg
    by_cases hcl : 10 < C.length
    · go_wp2_with fail
      refine (awake_any _).mono ?_
      rintro e w2 ⟨rfl, hc⟩
      go_wp2_with fail
      go_ret
      exact ⟨rfl, hc0.trans hc⟩
    · go_wp2_with fail
      refine (row_any w' so S sc (hS.keep0 hc0) hsm).mono ?_
      rintro e w2 ⟨ra, rc, rfl, hR, hr1, hr2, hc2⟩
      have hS2 := (hS.keep0 hc0).keep0 hc2
      have hcw2 := hc0.trans hc2
      obtain ⟨R, hRR⟩ : ∃ R, rowOf S = R := ⟨_, rfl⟩
      have HRR := Lib.hid hRR
      rw [hRR] at hR hr1 hrl hnd hkn ⊢
      clear hRR
      unfold maxLen at hr2
      go_wp2_with fail
      have kb1 : ((w2.alloc (.cells #[] 27)).alloc (.cells #[] 3)).heap[w2.heap.size]? = some (.cells #[] 27) := ((Chg.refl [] _).alloc (.cells #[] 3)).at (block_new w2 (.cells #[] 27)) (by simp)
      have kb2 : ((w2.alloc (.cells #[] 27)).alloc (.cells #[] 3)).heap[w2.heap.size + 1]? = some (.cells #[] 3) := by have := block_new (w2.alloc (.cells #[] 27)) (.cells #[] 3); simpa using this
      have hol : ((w2.alloc (.cells #[] 27)).alloc (.cells #[] 3)).ownsRow w2.heap.size 27 1 (.slice (some ⟨w2.heap.size, 0, none⟩) 0 0) 0 [] := ⟨by simp, .inr ⟨w2.heap.size, 0, #[], rfl, Nat.le_refl _, kb1, Nat.le_refl _, by unfold maxLen; omega, rfl, rfl⟩⟩
      have hov : ((w2.alloc (.cells #[] 27)).alloc (.cells #[] 3)).ownsRow w2.heap.size 3 1 (.slice (some ⟨w2.heap.size + 1, 0, none⟩) 0 0) 0 [] := ⟨by simp, .inr ⟨w2.heap.size + 1, 0, #[], rfl, by omega, kb2, Nat.le_refl _, by unfold maxLen; omega, rfl, rfl⟩⟩
      have hc3 := ((Chg.refl [] w2).alloc (.cells #[] 27)).alloc (.cells #[] 3)
      clear kb1 kb2
      generalize (w2.alloc (.cells #[] 27)).alloc (.cells #[] 3) = W3 at *
      obtain ⟨B2, hB2⟩ : ∃ b, w2.heap.size = b := ⟨_, rfl⟩
      have HB2 := Lib.hid hB2
      rw [hB2] at hol hov ⊢
      clear hB2
      go_loopw [6, 7, 8, 9] (fun lv vv s i wr => ∃ (ks : List Nat) (k : Nat) (x : Int) (lv0 vv0 : Value), lv0 = lv ∧ vv0 = vv ∧ k ≤ C.length ∧ i = .int .i64 k ∧ s = .int .i64 x ∧ Hid (ks.length = k ∧ lackS R.length ks = x) ∧ 0 ≤ x ∧ x ≤ k * 600 ∧ (∀ n ∈ ks, n ≤ R.length) ∧
          wr.ownsRow B2 27 1 lv0 k (ks.map fun n => Value.slice ra n rc) ∧ wr.ownsRow B2 3 1 vv0 k ((List.range k).map fun i : Nat => Value.int .i64 (i : Int)) ∧ (∀ q, lv0.ownBlock = some q → vv0.ownBlock = some q → False) ∧ Chg [] w2 wr) (fun _ _ _ i _ => C.length - (intOf i).toNat)
      case atStart => exact ⟨[], 0, 0, _, _, rfl, rfl, by omega, rfl, rfl, Lib.hid ⟨rfl, rfl⟩, by omega, by omega, by simp, hol, hov, fun q h1 h2 => by simp [Value.ownBlock] at h1 h2; omega, hc3⟩
      case round =>
        clear hol hov hc3
        obtain ⟨ks, k, x, lv, vv, rfl, rfl, hkl, rfl, rfl, HX, hx0, hx1, hks, hol, hov, hdj, hcr⟩ := hrel
        by_cases hlt : k < C.length
        · obtain ⟨bc, oc, rfl⟩ := hC.addr hlt
          obtain ⟨hbc, y0⟩ := hC.at hlt
          replace y0 := ((hcw2.trans hcr).cell (p := ⟨bc, oc + k, none⟩) hbc (by simp)).trans y0
          have hcb := hCb (C.getD k 0) (by simp [List.getD, hlt])
          generalize C.getD k 0 = c at *
          have hmod : 0 ≤ c % ((R.length : Int) + 1) ∧ c % ((R.length : Int) + 1) < (R.length : Int) + 1 := ⟨Int.emod_nonneg _ (by omega), Int.emod_lt_of_pos _ (by omega)⟩
          obtain ⟨m, hm⟩ : ∃ m : Nat, c % ((R.length : Int) + 1) = (m : Int) := ⟨(c % ((R.length : Int) + 1)).toNat, by omega⟩
          rw [hm] at hmod
          have hmr : m ≤ R.length := by omega
          have hne : ¬ (R.length : Int) + 1 = 0 := by omega
          clear hmod
          go_upto_region 11 with fail
          rw [hm]
          clear hne hm y0
          have hce := (Chg.refl [] wr).alloc (.cells #[.slice ra m rc] 27)
          have hol2 := owned_chg hol hce (by simp)
          have hov2 := owned_chg hov hce (by simp)
          have hsl := run_slice_front (ra := ra) (n := R.length) (rc := rc) (k := m) hr1 hmr
          have hsz := hcr.size
          go_wp2_with (at_builtin; refine wpList_append_own_at _ rfl (.tmp 42) (.tmp 46) 25 rfl B2 27 i0 (.slice none 0 0) 1 24 Try.underlying25 hi hz0 hz1 hz2 rfl (by decide) lv k (ks.map fun n => Value.slice ra n rc) rfl hol2 ⟨wr.heap.size, 0, none⟩ 1 1 [.slice ra m rc] rfl rfl (cell_one_new _ _ _) ?c2 ?c3 ?c4 ?c5 ?_)
          case c2 => intro u hu; simp at hu; subst hu; rfl
          case c3 => unfold maxLen; omega
          case c4 => omega
          case c5 => simp; rw [← HB2.out]; exact Nat.le_trans hsz (by omega)
          intro lv' w5 hol5 hgrow5 _ hat5
          have hgr5 := Chg.of_grown (S := lv.ownBlock.toList) hgrow5 (by simp)
          have hov5 := owned_chg hov2 hgr5 (fun q hq => by simp; intro h; exact hdj q h hq)
          have hdj5 : ∀ q, lv'.ownBlock = some q → vv.ownBlock = some q → False := fun q h1 h2 => by
            have hlt := (hov.lt q h2).2
            rcases hat5 with h | h
            · rw [h] at h1; exact hdj q h1 h2
            · rw [h] at h1; simp at h1; omega
          have hc5 : Chg [] w2 w5 := (hcr.trans hce).then hgr5 (by
            intro q hq; right
            have : lv.ownBlock = some q := by simpa using hq
            rw [HB2.out]; exact (hol.lt q this).1)
          have hls := hid_snoc HX m
          clear hat5 hgrow5 hgr5 hol hov hol2 hov2 hce hdj hcr HX hsz
          have hce := (Chg.refl [] w5).alloc (.cells #[.int .i64 (k : Int)] 3)
          have hol6 := owned_chg hol5 hce (by simp)
          have hov6 := owned_chg hov5 hce (by simp)
          have hsz := hc5.size
          go_wp2_with (at_builtin; refine wpList_append_own_at _ rfl (.tmp 48) (.tmp 50) 40 rfl B2 3 i1 (.int .i64 0) 1 8 Try.underlying40 hj hy0 hy1 hy2 rfl (by decide) vv k ((List.range k).map fun i : Nat => Value.int .i64 (i : Int)) rfl hov6 ⟨w5.heap.size, 0, none⟩ 1 1 [.int .i64 (k : Int)] rfl rfl (cell_one_new _ _ _) ?c2 ?c3 ?c4 ?c5 ?_)
          case c2 => intro u hu; simp at hu; subst hu; rfl
          case c3 => unfold maxLen; omega
          case c4 => omega
          case c5 => simp; rw [← HB2.out]; exact Nat.le_trans hsz (by omega)
          intro vv' w7 hov7 hgrow7 _ hat7
          have hgr7 := Chg.of_grown (S := vv.ownBlock.toList) hgrow7 (by simp)
          have hol7 := owned_chg hol6 hgr7 (fun q hq => by simp; intro h; exact hdj5 q hq h)
          have hdj7 : ∀ q, lv'.ownBlock = some q → vv'.ownBlock = some q → False := fun q h1 h2 => by
            have hlt := (hol5.lt q h1).2
            rcases hat7 with h | h
            · rw [h] at h2; exact hdj5 q h1 h2
            · rw [h] at h2; simp at h2; omega
          have hc7 : Chg [] w2 w7 := (hc5.trans hce).then hgr7 (by
            intro q hq; right
            have : vv.ownBlock = some q := by simpa using hq
            rw [HB2.out]; exact (hov5.lt q this).1)
          clear hat7 hgrow7 hgr7 hol5 hov5 hol6 hov6 hce hdj5 hc5 hsz
          have hks2 : ∀ n ∈ ks ++ [m], n ≤ R.length := fun n hn => (List.mem_append.1 hn).elim (hks n) (fun h => by simp only [List.mem_singleton] at h; omega)
          have hol8 : w7.ownsRow B2 27 1 lv' (k + 1) ((ks ++ [m]).map fun n => Value.slice ra n rc) := by rw [List.map_append]; exact hol7
          have hov8 : w7.ownsRow B2 3 1 vv' (k + 1) ((List.range (k + 1)).map fun i : Nat => Value.int .i64 (i : Int)) := by rw [range_map_snoc]; exact hov7
          generalize ks ++ [m] = ks2 at *
          clear hol7 hov7
          go_wp2_with fail
          go_roundw
          case rel => exact ⟨ks2, k + 1, x + ((R.length : Int) - m), lv', vv', rfl, rfl, by omega, by go_num, by go_num, hls, by omega, by omega, hks2, hol8, hov8, hdj7, hc7⟩
          case measure => simp [intOf]; omega
        · obtain rfl : k = C.length := by omega
          have hlenk := HX.1
          have hsum := HX.2
          obtain ⟨lo, lc, rfl, hlo⟩ := owned_logs (ks := ks) (by rw [hlenk]; exact hol) (hR.keep0 hcr) hks
          obtain ⟨vo, vc, rfl, hvo⟩ := owned_range hov
          have hSr := hS2.keep0 hcr
          have hcwr := hcw2.trans hcr
          have hfl : ∀ l ∈ fronts R ks, l.length ≤ 600 := fun l hl => by
            obtain ⟨n, rfl⟩ := fronts_mem hl
            rw [List.length_take]; omega
          have hfm : ∀ l ∈ fronts R ks, ∀ d ∈ l, d ∈ R := fun l hl d hd => by
            obtain ⟨n, rfl⟩ := fronts_mem hl
            exact List.mem_of_mem_take hd
          have hjg := judge_known wr so S sc lo (fronts R ks) lc hSr hS1000 hr1000 hlo (by rw [fronts_len]; omega) (fun l hl => Nat.le_trans (hfl l hl) (by omega)) (fun l hl d hd => (hkn d (hfm l hl d hd)).1) (fun l hl d hd => (hkn d (hfm l hl d hd)).2)
          have hlk := fun wz (h : Chg [] wr wz) (hc : S.length ≤ C.length) => lacks_any wz so S sc lo (fronts R ks) lc vo vc (hSr.keep0 h) hsm (hlo.keep0 h) (by rw [fronts_len]; omega) hfl (fun l hl d hd => (hkn d (hfm l hl d hd)).2) (by rw [fronts_len, hlenk]; exact hvo.keep0 h) (by rw [fronts_len, hlenk]; exact hc)
          rw [HRR.out, sz_should hnd (fun d hd => (hkn d hd).2) ks, fronts_len, lack_fronts hnd (fun d hd => (hkn d hd).2) hks ks.length (Nat.le_refl _), List.take_length, hsum, hlenk] at hlk
          rw [fronts_len, hlenk] at hjg
          rw [hlenk]
          clear HX hol hov hlo hvo hSr hdj hfl hfm hsum hlenk
          go_wp2_with fail
          refine hjg.mono ?_
          rintro e w8 ⟨what, pp, xx, rfl, hjd, hc8⟩
          obtain ⟨rfl, rfl, rfl⟩ := judged_fronts hnd hjd
          have hcw8 := hcwr.trans hc8
          clear hjd
          by_cases hcs : C.length < S.length
          · have g1 : decide ((C.length : Int) < (S.length : Int)) = true := by simp; omega
            go_wp2_with fail
            refine (awake_any _).mono ?_
            rintro e w9 ⟨rfl, hc9⟩
            go_wp2_with fail
            go_ret
            exact ⟨rfl, hcw8.trans hc9⟩
          · have g1 : decide ((C.length : Int) < (S.length : Int)) = false := by simp; omega
            have hl2 := hlk w8 hc8 (by omega)
            clear hlk
            go_wp2_with fail
            refine hl2.mono ?_
            rintro e w9 ⟨rfl, hc9⟩
            go_wp2_with fail
            refine (awake_any _).mono ?_
            rintro e w10 ⟨rfl, hc10⟩
            go_wp2_with fail
            go_ret
            exact ⟨rfl, (hcw8.trans hc9).trans hc10⟩

theorem judgeFronts_lifted (os : Os) (started : os.Started) (H : Type) (enc : TypeId × Value → H) :
    ReturnsInHanded {} Try.checked os 4 .any (Rows.judgeFrontsSpec.pre6 enc Try.prog Try.f4 Rows.judgeFrontsRow.domain false) (Rows.judgeFrontsSpec.post enc Try.prog Try.f4 false true false false) := by
  refine law_lifted (C := Try.checked) (tb := 4) (by kernel_rfl) (by kernel_rfl) Try.func4 rfl (fun H ds h => ?_) rfl Try.underlying4 (by kernel_rfl) (by decide +kernel) os started H enc
    (ChangeSpec.witness6 (enc := enc) (C := Try.checked) false ⟨#[], #[.slice none 0 0, .slice none 0 0], []⟩ 8 (by kernel_rfl) (by kernel_rfl) (by kernel_rfl) (by kernel_rfl)) ?_
  · match ds, h with | [a, b], _ => rfl
  · intro W base args ha hv
    obtain ⟨v0, v1, rfl⟩ : ∃ v0 v1, args = [v0, v1] := by match args, ha with | [a, b], _ => exact ⟨a, b, rfl⟩
    obtain ⟨ao, S, cap, rfl, h1, h2, h3⟩ := arg_sent (hv 0 22 v0 rfl rfl)
    obtain ⟨co, C, cc, rfl, q1, q2, q3, q4⟩ := arg_u16s (hv 1 39 v1 rfl rfl)
    exact (fronts_walk W ao S cap co C cc h1 (by omega) q1 (by omega) q4).mono fun e W' ⟨h1, h2⟩ => ⟨h1, h2.below⟩

theorem judgeFronts_holds : Rows.JudgeFrontsSaid :=
  OpenClaim.holds_of_wide 4 Try.f4 rfl rfl rfl rfl rfl rfl rfl ⟨rfl, rfl, rfl, rfl, rfl⟩ rfl rfl rfl rfl rfl (by kernel_rfl) Try.func4 (by kernel_rfl)
    (of_decide_eq_true (by kernel_rfl)) (by unfold Func.isWrapper; first | (rw [if_pos (by decide +kernel)]; kernel_rfl) | (rw [if_neg (by decide +kernel)]; exact ⟨rfl, rfl⟩))
    (fun os started H enc _ => judgeFronts_lifted os started H enc)
#print axioms judgeFronts_holds
end Go.Proofs.Ytpbadnnolheblaa
