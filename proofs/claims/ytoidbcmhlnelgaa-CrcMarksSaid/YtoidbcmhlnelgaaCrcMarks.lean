/-
  CrcMarks: marked rows are the document's, and fit; whether any bytes fit is the document's.
-/
import Derived.Test.YtoidbcmhlnelgaaCrcRFits
import Derived.Test.YtoidbcmhlnelgaaBytesArg
namespace Go.Proofs.Ytoidbcmhlnelgaa
open Go.ChangeShapes Go.WideShapes Go.ChangeAt Go.RowKit Crc

theorem great_sm {ls : List (List Nat)} (h : great ls = false) : ∀ k, ((ls.take k).flatten).length ≤ 9000 := by
  intro k
  have h1 := great_len h
  rcases Nat.lt_or_ge ls.length k with hk | hk
  · have := great_all h ls.length
    rw [List.take_length] at this
    rw [List.take_of_length_le (by omega)]
    omega
  · have := great_all h k
    omega
theorem fits_marked (F : List Nat) : fitsE (F ++ foot (sum F)) = 0 ∧ fitsB (F ++ foot (sum F)) = F := by
  have hl : (F ++ foot (sum F)).length - 4 = F.length := by simp [foot]
  have ht : (F ++ foot (sum F)).take F.length = F := by simp
  have hd : (F ++ foot (sum F)).drop F.length = foot (sum F) := by simp
  have h1 : fitsE (F ++ foot (sum F)) = 0 := by
    unfold fitsE
    rw [hl, ht, hd, if_neg (by simp [foot]), if_pos rfl]
  exact ⟨h1, by unfold fitsB; rw [if_pos h1, hl, ht]⟩

set_option maxRecDepth 100000 in
set_option maxHeartbeats 4000000 in
theorem marks_walk (aol : Option Addr) (ls : List (List Nat)) (capl : Nat) (ao : Option Addr) (L : List Nat) (cap : Nat) (w : World) (hls : isLists w aol ls) (hlm : ls.length ≤ maxLen)
    (h : isBytes w ao L) (hl : L.length ≤ cap) (hcap : cap ≤ maxLen) :
    Calls Try.prog 5 #[.slice aol ls.length capl, .slice ao L.length cap] w fun e w' => e = .returned (.bool true) ∧ Chg [] w w' := by
  have HC := Lib.hid hcap
  have hlL : L.length ≤ 9223372036854775807 := by unfold maxLen at hcap; omega
  clear hcap
  cases hg : great ls with
  | true =>
    go_enter Try.func5, Try.ntmps5
    go_wp2_with fail
    refine (great_any w aol ls capl hls hlm).mono ?_
    rintro e w' ⟨rfl, rfl⟩
    rw [hg]
    go_wp2_with fail
    refine (awake_any _).mono ?_
    rintro e w' ⟨rfl, hc⟩
    go_wp2_with fail
    go_ret
    exact ⟨rfl, hc⟩
  | false =>
    have hsm := great_sm hg
    by_cases hL : 1000 < L.length
    · go_enter Try.func5, Try.ntmps5
      go_wp2_with fail
      refine (great_any w aol ls capl hls hlm).mono ?_
      rintro e w' ⟨rfl, rfl⟩
      rw [hg]
      go_wp2_with fail
      refine (awake_any _).mono ?_
      rintro e w' ⟨rfl, hc⟩
      go_wp2_with fail
      go_ret
      exact ⟨rfl, hc⟩
    · go_enter Try.func5, Try.ntmps5
      go_wp2_with fail
      refine (great_any w aol ls capl hls hlm).mono ?_
      rintro e w' ⟨rfl, rfl⟩
      rw [hg]
      go_wp2_with fail
      refine (mark_any w' aol ls capl hls hlm (fun k => Nat.le_trans (hsm k) (by omega))).mono ?_
      rintro e w1 ⟨aom, capm, rfl, m1, m2, m3, m4, m5, hc1, m6⟩
      have hF9 := hsm ls.length
      rw [List.take_length] at hF9
      have HJ := Lib.hid (fun wx (hc : isLists wx aol ls) => join_any wx aol ls capl hc hg)
      generalize ls.flatten = F at *
      obtain ⟨fE, fB⟩ := fits_marked F
      have hM9 : (F ++ foot (sum F)).length ≤ 9004 := by simp [foot]; omega
      generalize hM : F ++ foot (sum F) = M at *
      have HM := Lib.hid hM
      clear hM
      go_wp2_with fail
      refine (fits_any w1 aom M capm m1 m2 m3 (by omega)).mono ?_
      rintro e w2 ⟨aok, capk, rfl, k1, k2, k3, k4, k5, hc2, k6⟩
      rw [fB] at k1 k2 ⊢
      rw [fE]
      clear fE fB
      go_wp2_with fail
      refine (fits_any w2 ao L cap ((h.keep0 hc1).keep0 hc2) hl HC.out (by omega)).mono ?_
      rintro e w3 ⟨aoo, capo, rfl, o1, o2, o3, o4, o5, hc3, o6⟩
      go_wp2_with fail
      refine (rfits_any w3 ao L cap (((h.keep0 hc1).keep0 hc2).keep0 hc3) hl HC.out (by omega)).mono ?_
      rintro e w4 ⟨aow, capw, rfl, u1, hc4⟩
      have o1' := o1.keep0 hc4
      have h4 := (((h.keep0 hc1).keep0 hc2).keep0 hc3).keep0 hc4
      have cv1 := conv_bytes Try.underlying28 Try.underlying5 Try.underlying9 capo o1'
      have cv2 := conv_bytes Try.underlying28 Try.underlying5 Try.underlying9 capw u1
      have cv3 := conv_bytes Try.underlying28 Try.underlying5 Try.underlying9 cap h4
      generalize fitsE L = fe at *
      generalize fitsB L = T at *
      have hT9 : T.length ≤ 9223372036854775807 := by unfold maxLen at o3; omega
      have hfr : ∀ b off, aoo = some ⟨b, off, none⟩ → w2.heap.size ≤ b ∧ isRow w4 b 5 := fun b off e => ⟨o5 b off e, (o6 b off e).keep hc4 (by simp)⟩
      have hcw := hc3.trans hc4
      go_wp2_with fail
      go_loopw [13] (fun i wr => ∃ (k : Nat) (T' : List Nat), k ≤ T.length ∧ i = .int .i64 k ∧ T'.length = T.length ∧ isBytes wr aoo T' ∧ (∀ b off, aoo = some ⟨b, off, none⟩ → w2.heap.size ≤ b ∧ isRow wr b 5) ∧ Chg [] w2 wr) (fun i _ => T.length - (intOf i).toNat)
      case atStart => exact ⟨0, T, by omega, rfl, rfl, o1', hfr, hcw⟩
      case round =>
        obtain ⟨k, T', hk, rfl, hTl, hbr, hfr', hcr⟩ := hrel
        by_cases hlt : k < T.length
        · obtain ⟨b, off, rfl⟩ := hbr.addr (show k < T'.length by omega)
          obtain ⟨t1, t2, t3⟩ := hbr.at (show k < T'.length by omega)
          obtain ⟨hfr1, cs, hfr2⟩ := hfr' b off rfl
          have hff := free_of_block hfr2 (off + k)
          have hset := fun x hx => hbr.set (show k < T'.length by omega) x hx
          have HSET := Lib.hid hset
          clear hset
          generalize T'.getD k 0 = x at *
          clear hfr hfr' o5 o6 cv1 cv2 cv3
          go_wp2_with fail
          go_roundw
          case rel =>
            refine ⟨k + 1, _, by omega, by go_num, ?_, HSET.out ((x + 1) % 256) (Nat.mod_lt _ (by omega)), ?_, hcr.setCell (.inr hfr1) _⟩
            · simpa using hTl
            · intro b' off' e
              simp at e
              obtain ⟨rfl, rfl⟩ := e
              exact ⟨hfr1, isRow.set ⟨cs, hfr2⟩ _ _⟩
          case measure => simp [intOf]; omega
        · obtain rfl : k = T.length := by omega
          clear cv1 cv2 cv3 hfr hfr' o5 o6 o1' o1 hbr hTl
          have hlw := ((hls.keep0 hc1).keep0 hc2).keep0 hcr
          go_wp2_with fail
          refine (HJ.out _ hlw).mono ?_
          rintro e wJ ⟨aoj, capj, rfl, j1, j2, j3, hj4, j5, hcj, _⟩
          have gm := ((m1.keep0 hc2).keep0 hcr).keep0 hcj
          have gk := (k1.keep0 hcr).keep0 hcj
          have gl := (((h.keep0 hc1).keep0 hc2).keep0 hcr).keep0 hcj
          have HK := Lib.hid (show ∀ w', Chg [] wJ w' → isBytes w' aom M ∧ isBytes w' aoj F ∧ isBytes w' aok F ∧ isBytes w' ao L ∧ Chg [] wJ w' from
            fun w' hc => ⟨gm.keep0 hc, j1.keep0 hc, gk.keep0 hc, gl.keep0 hc, hc⟩)
          have hcall := (((hc1.trans hc2).trans hcr).trans hcj)
          clear gm gk gl hlw
          go_upto_region 15 with fail
          refine wp_region_held_drew (S := fun w' => isBytes w' aom M ∧ isBytes w' aoj F ∧ isBytes w' aok F ∧ isBytes w' ao L ∧ Chg [] wJ w') (by kernel_rfl) ?_ (fun hHeld => ?_)
          · first | exact HK.out _ (Chg.refl _ _).drew | exact HK.out _ hHeld.2.2.2.2 | exact HK.out _ (hHeld.2.2.2.2.trans hcx)
          refine wpAnyH_take (i := 0) (v := ?vr0) rfl (by kernel_rfl) (by kernel_rfl) (by kernel_rfl) (fun _ _ _ h => h) (Or.inl ⟨by rfl, ?yr0⟩) (by assumption) ?nr0
          case yr0 => (intro w hSw; (try dsimp only at hSw); go_simp; (try with_reducible rfl))
          try simp only [List.getElem_toArray, List.getElem_cons_succ, List.getElem_cons_zero, Act.put, List.setIfInBounds_toArray, List.set_cons_succ, List.set_cons_zero]
          refine wpAnyH_take (i := 1) (v := ?vr1) rfl (by kernel_rfl) (by kernel_rfl) (by kernel_rfl) (fun _ _ _ h => h) (Or.inl ⟨by rfl, ?yr1⟩) (by assumption) ?nr1
          case yr1 => (intro w hSw; (try dsimp only at hSw); (have hcv := conv_bytes Try.underlying28 Try.underlying5 Try.underlying9 capm hSw.1); go_simp; (try with_reducible rfl))
          try simp only [List.getElem_toArray, List.getElem_cons_succ, List.getElem_cons_zero, Act.put, List.setIfInBounds_toArray, List.set_cons_succ, List.set_cons_zero]
          refine wpAnyH_take (i := 2) (v := ?vr2) rfl (by kernel_rfl) (by kernel_rfl) (by kernel_rfl) (fun _ _ _ h => h) (Or.inl ⟨by rfl, ?yr2⟩) (by assumption) ?nr2
          case yr2 => (intro w hSw; (try dsimp only at hSw); go_simp; (try with_reducible rfl))
          try simp only [List.getElem_toArray, List.getElem_cons_succ, List.getElem_cons_zero, Act.put, List.setIfInBounds_toArray, List.set_cons_succ, List.set_cons_zero]
          refine wpAnyH_ready (rs := [3]) (by kernel_rfl) (by simp) ?_
          refine AllReadyH.cons rfl (fun K hK => ?_) AllReadyH.nil
          go_simp
          have hrm := rmark_any wJ.drew aoj F capj hHeld.2.1 hj4 (by omega)
          rw [HM.out] at hrm
          refine hrm.mono ?_
          rintro e w' ⟨ao3, cap3, rfl, r1, r2, r3, r4, r5, hcx, _⟩
          refine hK.out _ _ ?_ (fun hHeld => ?_)
          · first | exact HK.out _ (Chg.refl _ _).drew | exact HK.out _ hHeld.2.2.2.2 | exact HK.out _ (hHeld.2.2.2.2.trans hcx)
          clear hK K
          try simp only [List.getElem_toArray, List.getElem_cons_succ, List.getElem_cons_zero, Act.put, List.setIfInBounds_toArray, List.set_cons_succ, List.set_cons_zero]
          refine wpAnyH_ready (rs := [4]) (by kernel_rfl) (by simp) ?_
          refine AllReadyH.cons rfl (fun K hK => ?_) AllReadyH.nil
          go_simp
          rw [conv_bytes Try.underlying28 Try.underlying5 Try.underlying9 cap3 r1]
          refine hK.out _ _ ?_ (fun hHeld => ?_)
          · first | exact HK.out _ (Chg.refl _ _).drew | exact HK.out _ hHeld.2.2.2.2 | exact HK.out _ (hHeld.2.2.2.2.trans hcx)
          clear hK K
          try simp only [List.getElem_toArray, List.getElem_cons_succ, List.getElem_cons_zero, Act.put, List.setIfInBounds_toArray, List.set_cons_succ, List.set_cons_zero]
          refine wpAnyH_take (i := 5) (v := ?vr5) rfl (by kernel_rfl) (by kernel_rfl) (by kernel_rfl) (fun _ _ _ h => h) (Or.inl ⟨by rfl, ?yr5⟩) (by assumption) ?nr5
          case yr5 => (intro w hSw; (try dsimp only at hSw); go_simp; (try with_reducible rfl))
          try simp only [List.getElem_toArray, List.getElem_cons_succ, List.getElem_cons_zero, Act.put, List.setIfInBounds_toArray, List.set_cons_succ, List.set_cons_zero]
          refine wpAnyH_take (i := 6) (v := ?vr6) rfl (by kernel_rfl) (by kernel_rfl) (by kernel_rfl) (fun _ _ _ h => h) (Or.inl ⟨by rfl, ?yr6⟩) (by assumption) ?nr6
          case yr6 => (intro w hSw; (try dsimp only at hSw); go_simp; (try with_reducible rfl))
          try simp only [List.getElem_toArray, List.getElem_cons_succ, List.getElem_cons_zero, Act.put, List.setIfInBounds_toArray, List.set_cons_succ, List.set_cons_zero]
          refine wpAnyH_take (i := 7) (v := ?vr7) rfl (by kernel_rfl) (by kernel_rfl) (by kernel_rfl) (fun _ _ _ h => h) (Or.inl ⟨by rfl, ?yr7⟩) (by assumption) ?nr7
          case yr7 => (intro w hSw; (try dsimp only at hSw); go_simp; (try with_reducible rfl))
          try simp only [List.getElem_toArray, List.getElem_cons_succ, List.getElem_cons_zero, Act.put, List.setIfInBounds_toArray, List.set_cons_succ, List.set_cons_zero]
          refine wpAnyH_take (i := 8) (v := ?vr8) rfl (by kernel_rfl) (by kernel_rfl) (by kernel_rfl) (fun _ _ _ h => h) (Or.inl ⟨by rfl, ?yr8⟩) (by assumption) ?nr8
          case yr8 => (intro w hSw; (try dsimp only at hSw); go_simp; (try with_reducible rfl))
          try simp only [List.getElem_toArray, List.getElem_cons_succ, List.getElem_cons_zero, Act.put, List.setIfInBounds_toArray, List.set_cons_succ, List.set_cons_zero]
          refine wpAnyH_take (i := 9) (v := ?vr9) rfl (by kernel_rfl) (by kernel_rfl) (by kernel_rfl) (fun _ _ _ h => h) (Or.inl ⟨by rfl, ?yr9⟩) (by assumption) ?nr9
          case yr9 => (intro w hSw; (try dsimp only at hSw); go_simp; (try with_reducible rfl))
          try simp only [List.getElem_toArray, List.getElem_cons_succ, List.getElem_cons_zero, Act.put, List.setIfInBounds_toArray, List.set_cons_succ, List.set_cons_zero]
          refine wpAnyH_take (i := 10) (v := ?vr10) rfl (by kernel_rfl) (by kernel_rfl) (by kernel_rfl) (fun _ _ _ h => h) (Or.inl ⟨by rfl, ?yr10⟩) (by assumption) ?nr10
          case yr10 => (intro w hSw; (try dsimp only at hSw); go_simp; (try with_reducible rfl))
          try simp only [List.getElem_toArray, List.getElem_cons_succ, List.getElem_cons_zero, Act.put, List.setIfInBounds_toArray, List.set_cons_succ, List.set_cons_zero]
          refine wpAnyH_take (i := 11) (v := ?vr11) rfl (by kernel_rfl) (by kernel_rfl) (by kernel_rfl) (fun _ _ _ h => h) (Or.inl ⟨by rfl, ?yr11⟩) (by assumption) ?nr11
          case yr11 => (intro w hSw; (try dsimp only at hSw); go_simp; (try with_reducible rfl))
          try simp only [List.getElem_toArray, List.getElem_cons_succ, List.getElem_cons_zero, Act.put, List.setIfInBounds_toArray, List.set_cons_succ, List.set_cons_zero]
          refine wpAnyH_take (i := 12) (v := ?vr12) rfl (by kernel_rfl) (by kernel_rfl) (by kernel_rfl) (fun _ _ _ h => h) (Or.inl ⟨by rfl, ?yr12⟩) (by assumption) ?nr12
          case yr12 => (intro w hSw; (try dsimp only at hSw); (have hcv := conv_bytes Try.underlying28 Try.underlying5 Try.underlying9 capk hSw.2.2.1); go_simp; (try with_reducible rfl))
          try simp only [List.getElem_toArray, List.getElem_cons_succ, List.getElem_cons_zero, Act.put, List.setIfInBounds_toArray, List.set_cons_succ, List.set_cons_zero]
          refine wpAnyH_take (i := 13) (v := ?vr13) rfl (by kernel_rfl) (by kernel_rfl) (by kernel_rfl) (fun _ _ _ h => h) (Or.inl ⟨by rfl, ?yr13⟩) (by assumption) ?nr13
          case yr13 => (intro w hSw; (try dsimp only at hSw); go_simp; (try with_reducible rfl))
          try simp only [List.getElem_toArray, List.getElem_cons_succ, List.getElem_cons_zero, Act.put, List.setIfInBounds_toArray, List.set_cons_succ, List.set_cons_zero]
          refine wpAnyH_take (i := 14) (v := ?vr14) rfl (by kernel_rfl) (by kernel_rfl) (by kernel_rfl) (fun _ _ _ h => h) (Or.inl ⟨by rfl, ?yr14⟩) (by assumption) ?nr14
          case yr14 => (intro w hSw; (try dsimp only at hSw); (have hcv := conv_bytes Try.underlying28 Try.underlying5 Try.underlying9 capj hSw.2.1); go_simp; (try with_reducible rfl))
          try simp only [List.getElem_toArray, List.getElem_cons_succ, List.getElem_cons_zero, Act.put, List.setIfInBounds_toArray, List.set_cons_succ, List.set_cons_zero]
          refine wpAnyH_take (i := 15) (v := ?vr15) rfl (by kernel_rfl) (by kernel_rfl) (by kernel_rfl) (fun _ _ _ h => h) (Or.inl ⟨by rfl, ?yr15⟩) (by assumption) ?nr15
          case yr15 => (intro w hSw; (try dsimp only at hSw); go_simp; (try with_reducible rfl))
          try simp only [List.getElem_toArray, List.getElem_cons_succ, List.getElem_cons_zero, Act.put, List.setIfInBounds_toArray, List.set_cons_succ, List.set_cons_zero]
          refine wpAnyH_take (i := 16) (v := ?vr16) rfl (by kernel_rfl) (by kernel_rfl) (by kernel_rfl) (fun _ _ _ h => h) (Or.inl ⟨by rfl, ?yr16⟩) (by assumption) ?nr16
          case yr16 => (intro w hSw; (try dsimp only at hSw); go_simp; (try with_reducible rfl))
          try simp only [List.getElem_toArray, List.getElem_cons_succ, List.getElem_cons_zero, Act.put, List.setIfInBounds_toArray, List.set_cons_succ, List.set_cons_zero]
          refine wpAnyH_take (i := 17) (v := ?vr17) rfl (by kernel_rfl) (by kernel_rfl) (by kernel_rfl) (fun _ _ _ h => h) (Or.inl ⟨by rfl, ?yr17⟩) (by assumption) ?nr17
          case yr17 => (intro w hSw; (try dsimp only at hSw); go_simp; (try with_reducible rfl))
          try simp only [List.getElem_toArray, List.getElem_cons_succ, List.getElem_cons_zero, Act.put, List.setIfInBounds_toArray, List.set_cons_succ, List.set_cons_zero]
          refine wpAnyH_take (i := 18) (v := ?vr18) rfl (by kernel_rfl) (by kernel_rfl) (by kernel_rfl) (fun _ _ _ h => h) (Or.inl ⟨by rfl, ?yr18⟩) (by assumption) ?nr18
          case yr18 => (intro w hSw; (try dsimp only at hSw); go_simp; (try with_reducible rfl))
          try simp only [List.getElem_toArray, List.getElem_cons_succ, List.getElem_cons_zero, Act.put, List.setIfInBounds_toArray, List.set_cons_succ, List.set_cons_zero]
          refine wpAnyH_take (i := 19) (v := ?vr19) rfl (by kernel_rfl) (by kernel_rfl) (by kernel_rfl) (fun _ _ _ h => h) (Or.inl ⟨by rfl, ?yr19⟩) (by assumption) ?nr19
          case yr19 => (intro w hSw; (try dsimp only at hSw); (have hcv := conv_bytes Try.underlying28 Try.underlying5 Try.underlying9 cap hSw.2.2.2.1); go_simp; (try with_reducible rfl))
          try simp only [List.getElem_toArray, List.getElem_cons_succ, List.getElem_cons_zero, Act.put, List.setIfInBounds_toArray, List.set_cons_succ, List.set_cons_zero]
          refine wpAnyH_take (i := 20) (v := ?vr20) rfl (by kernel_rfl) (by kernel_rfl) (by kernel_rfl) (fun _ _ _ h => h) (Or.inl ⟨by rfl, ?yr20⟩) (by assumption) ?nr20
          case yr20 => (intro w hSw; (try dsimp only at hSw); go_simp; (try with_reducible rfl))
          try simp only [List.getElem_toArray, List.getElem_cons_succ, List.getElem_cons_zero, Act.put, List.setIfInBounds_toArray, List.set_cons_succ, List.set_cons_zero]
          refine wpAnyH_take (i := 21) (v := ?vr21) rfl (by kernel_rfl) (by kernel_rfl) (by kernel_rfl) (fun _ _ _ h => h) (Or.inl ⟨by rfl, ?yr21⟩) (by assumption) ?nr21
          case yr21 => (intro w hSw; (try dsimp only at hSw); go_simp; (try with_reducible rfl))
          try simp only [List.getElem_toArray, List.getElem_cons_succ, List.getElem_cons_zero, Act.put, List.setIfInBounds_toArray, List.set_cons_succ, List.set_cons_zero]
          refine wpAnyH_take (i := 22) (v := ?vr22) rfl (by kernel_rfl) (by kernel_rfl) (by kernel_rfl) (fun _ _ _ h => h) (Or.inl ⟨by rfl, ?yr22⟩) (by assumption) ?nr22
          case yr22 => (intro w hSw; (try dsimp only at hSw); go_simp; (try with_reducible rfl))
          try simp only [List.getElem_toArray, List.getElem_cons_succ, List.getElem_cons_zero, Act.put, List.setIfInBounds_toArray, List.set_cons_succ, List.set_cons_zero]
          refine wpAnyH_take (i := 23) (v := ?vr23) rfl (by kernel_rfl) (by kernel_rfl) (by kernel_rfl) (fun _ _ _ h => h) (Or.inl ⟨by rfl, ?yr23⟩) (by assumption) ?nr23
          case yr23 => (intro w hSw; (try dsimp only at hSw); go_simp; (try with_reducible rfl))
          try simp only [List.getElem_toArray, List.getElem_cons_succ, List.getElem_cons_zero, Act.put, List.setIfInBounds_toArray, List.set_cons_succ, List.set_cons_zero]
          refine wpAnyH_ready (rs := [24]) (by kernel_rfl) (by simp) ?_
          refine AllReadyH.cons rfl (fun K hK => ?_) AllReadyH.nil
          go_simp
          refine (awake_any _).mono ?_
          rintro e w' ⟨rfl, hcx⟩
          refine hK.out _ _ ?_ (fun hHeld => ?_)
          · first | exact HK.out _ (Chg.refl _ _).drew | exact HK.out _ hHeld.2.2.2.2 | exact HK.out _ (hHeld.2.2.2.2.trans hcx)
          clear hK K
          try simp only [List.getElem_toArray, List.getElem_cons_succ, List.getElem_cons_zero, Act.put, List.setIfInBounds_toArray, List.set_cons_succ, List.set_cons_zero]
          refine wpAnyH_take (i := 25) (v := ?vr25) rfl (by kernel_rfl) (by kernel_rfl) (by kernel_rfl) (fun _ _ _ h => h) (Or.inl ⟨by rfl, ?yr25⟩) (by assumption) ?nr25
          case yr25 => (intro w hSw; (try dsimp only at hSw); go_simp; (try with_reducible rfl))
          try simp only [List.getElem_toArray, List.getElem_cons_succ, List.getElem_cons_zero, Act.put, List.setIfInBounds_toArray, List.set_cons_succ, List.set_cons_zero]
          refine wpAnyH_take (i := 26) (v := ?vr26) rfl (by kernel_rfl) (by kernel_rfl) (by kernel_rfl) (fun _ _ _ h => h) (Or.inl ⟨by rfl, ?yr26⟩) (by assumption) ?nr26
          case yr26 => (intro w hSw; (try dsimp only at hSw); go_simp; (try with_reducible rfl))
          try simp only [List.getElem_toArray, List.getElem_cons_succ, List.getElem_cons_zero, Act.put, List.setIfInBounds_toArray, List.set_cons_succ, List.set_cons_zero]
          refine wpAnyH_done (by kernel_rfl) ?_ _
          go_wp2_with fail
          go_ret
          exact ⟨rfl, hcall.trans hHeld.2.2.2.2⟩

theorem crcMarks_lifted (os : Os) (started : os.Started) (H : Type) (enc : TypeId × Value → H) :
    ReturnsInHanded {} Try.checked os 5 .any (Rows.crcMarksSpec.pre6 enc Try.prog Try.f5 Rows.crcMarksRow.domain false) (Rows.crcMarksSpec.post enc Try.prog Try.f5 false true false false) := by
  refine law_lifted (C := Try.checked) (tb := 4) (by kernel_rfl) (by kernel_rfl) Try.func5 rfl (fun H ds h => ?_) rfl Try.underlying4 (by kernel_rfl) (by decide +kernel) os started H enc
    (ChangeSpec.witness6 (enc := enc) (C := Try.checked) false ⟨#[], #[.slice none 0 0, .slice none 0 0], []⟩ 8 (by kernel_rfl) (by kernel_rfl) (by kernel_rfl) (by kernel_rfl)) ?_
  · match ds, h with | [a, b], _ => rfl
  · intro W base args ha hv
    obtain ⟨v0, v1, rfl⟩ : ∃ v0 v1, args = [v0, v1] := by match args, ha with | [a, b], _ => exact ⟨a, b, rfl⟩
    obtain ⟨aol, ls, capl, rfl, g1, g2, g3, _⟩ := arg_lists (hv 0 22 v0 rfl rfl)
    obtain ⟨ao, L, cap, rfl, h1, h2, h3, h4⟩ := arg_bytes (hv 1 28 v1 rfl rfl)
    exact (marks_walk aol ls capl ao L cap W g1 (by omega) h1 h2 h3).mono fun e W' ⟨h1, h2⟩ => ⟨h1, h2.below⟩

theorem crcMarks_holds : Rows.CrcMarksSaid :=
  OpenClaim.holds_of_wide 5 Try.f5 rfl rfl rfl rfl rfl rfl rfl ⟨rfl, rfl, rfl, rfl, rfl⟩ rfl rfl rfl rfl rfl (by kernel_rfl) Try.func5 (by kernel_rfl)
    (of_decide_eq_true (by kernel_rfl)) (by unfold Func.isWrapper; first | (rw [if_pos (by decide +kernel)]; kernel_rfl) | (rw [if_neg (by decide +kernel)]; exact ⟨rfl, rfl⟩))
    (fun os started H enc _ => crcMarks_lifted os started H enc)
#print axioms crcMarks_holds
end Go.Proofs.Ytoidbcmhlnelgaa
