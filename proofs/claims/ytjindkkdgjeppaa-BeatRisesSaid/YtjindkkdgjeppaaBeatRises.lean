/-
  BeatRises: waits never fall, nor are they above the most; who is gone is suspected for good; I never am.
-/
import Derived.Test.YtjindkkdgjeppaaBeatAw
import Derived.Test.YtjindkkdgjeppaaBeatRPlain
import Derived.Test.YtjindkkdgjeppaaBeatArg
import Derived.Test.YtjindkkdgjeppaaBeatSix
namespace Go.Proofs.Ytjindkkdgjeppaa
open Go.ChangeShapes Go.WideShapes Go.ChangeAt Go.RowKit

theorem Try.info_bool : (Try.prog.info? 4).map (fun i => (i.zero, i.size, i.bytes)) = some (some (.bool false), 1, 1) := by kernel_rfl

set_option maxRecDepth 100000 in
set_option maxHeartbeats 4000000 in
theorem rises_walk (n me wait more most : Int) (ao : Option Addr) (l : List Act3) (cap : Nat) (w : World) (hn0 : -9223372036854775808 ≤ n) (hn1 : n ≤ 9223372036854775807) (hl : l.length ≤ 9223372036854775807) (hA : isActs w ao l) :
    Calls Try.prog 5 #[.agg #[.int .i64 n, .int .i64 me, .int .i64 wait, .int .i64 more, .int .i64 most], .slice ao l.length cap] w fun e w' => e = .returned (.bool true) ∧ Chg [] w w' := by
  by_cases hg : 200 < l.length
  · go_enter Try.func5, Try.ntmps5
    go_wp2_with fail
    refine (awake_any _).mono ?_
    rintro e w' ⟨rfl, hc⟩
    go_wp2_with fail
    go_ret
    exact ⟨rfl, ((Chg.refl _ _).alloc _).trans hc⟩
  · have d1 : decide (200 < (l.length : Int)) = false := by simp; omega
    go_enter Try.func5, Try.ntmps5
    go_upto_region 3 with fail
    have kN := block_new w (.cells #[.int .i64 n, .int .i64 me, .int .i64 wait, .int .i64 more, .int .i64 most] 23)
    have hc0 := (Chg.refl [] w).alloc (.cells #[.int .i64 n, .int .i64 me, .int .i64 wait, .int .i64 more, .int .i64 most] 23)
    generalize w.alloc (.cells #[.int .i64 n, .int .i64 me, .int .i64 wait, .int .i64 more, .int .i64 most] 23) = W1 at *
    have HK := Lib.hid (show ∀ w', Chg [] W1 w' → (w'.cell? ⟨w.heap.size, 0, none⟩ = some (.int .i64 n) ∧ w'.cell? ⟨w.heap.size, 1, none⟩ = some (.int .i64 me) ∧ w'.cell? ⟨w.heap.size, 2, none⟩ = some (.int .i64 wait) ∧ w'.cell? ⟨w.heap.size, 3, none⟩ = some (.int .i64 more) ∧ w'.cell? ⟨w.heap.size, 4, none⟩ = some (.int .i64 most)) ∧ Chg [] W1 w' from
      fun w' hc => ⟨⟨(cell_of_block (hc.at kN (by simp)) 0).trans rfl, (cell_of_block (hc.at kN (by simp)) 1).trans rfl, (cell_of_block (hc.at kN (by simp)) 2).trans rfl, (cell_of_block (hc.at kN (by simp)) 3).trans rfl, (cell_of_block (hc.at kN (by simp)) 4).trans rfl⟩, hc⟩)
    go_cut [5, 6] from 17 to 38 (fun s9 s10 wx => ∃ b bt bD ra rc, s9 = .pointer (some ⟨b, 0, none⟩) ∧ s10 = .pointer (some ⟨bD, 0, none⟩) ∧ isB wx b bt (newB n me wait more most) ∧ wx.heap[bD]? = some (.cells #[(.slice ra (nN n).toNat rc), (.int .i64 (nMe n me)), (.int .i64 (nMore more)), (.int .i64 (nMost wait most)), (.int .i64 0), (.int .i64 0)] 31) ∧ Chg [] W1 wx ∧ W1.heap.size ≤ b ∧ W1.heap.size ≤ bt ∧ W1.heap.size ≤ bD)
    case first =>
      have C0 := (Chg.refl [] W1).drew
      refine wp_region_held_drew (S := fun w' => (w'.cell? ⟨w.heap.size, 0, none⟩ = some (.int .i64 n) ∧ w'.cell? ⟨w.heap.size, 1, none⟩ = some (.int .i64 me) ∧ w'.cell? ⟨w.heap.size, 2, none⟩ = some (.int .i64 wait) ∧ w'.cell? ⟨w.heap.size, 3, none⟩ = some (.int .i64 more) ∧ w'.cell? ⟨w.heap.size, 4, none⟩ = some (.int .i64 most)) ∧ Chg [] W1 w') (by kernel_rfl) ?_ (fun hHeld => ?_)
      · exact HK.out _ C0
      refine wpAnyH_take (i := 0) (v := ?va1_0) rfl (by kernel_rfl) (by kernel_rfl) (by kernel_rfl) (fun _ _ _ h => h) (Or.inl ⟨by rfl, ?ya1_0⟩) (by assumption) ?na1_0
      case ya1_0 => (intro w hSw; (try dsimp only at hSw); go_simp; (try with_reducible rfl))
      try simp only [List.getElem_toArray, List.getElem_cons_succ, List.getElem_cons_zero, Act.put, List.setIfInBounds_toArray, List.set_cons_succ, List.set_cons_zero]
      refine wpAnyH_take (i := 1) (v := ?va2_1) rfl (by kernel_rfl) (by kernel_rfl) (by kernel_rfl) (fun _ _ _ h => h) (Or.inl ⟨by rfl, ?ya2_1⟩) (by assumption) ?na2_1
      case ya2_1 => (intro w hSw; (try dsimp only at hSw); go_simp; (try with_reducible rfl))
      try simp only [List.getElem_toArray, List.getElem_cons_succ, List.getElem_cons_zero, Act.put, List.setIfInBounds_toArray, List.set_cons_succ, List.set_cons_zero]
      refine wpAnyH_take (i := 2) (v := ?va3_2) rfl (by kernel_rfl) (by kernel_rfl) (by kernel_rfl) (fun _ _ _ h => h) (Or.inl ⟨by rfl, ?ya3_2⟩) (by assumption) ?na3_2
      case ya3_2 => (intro w hSw; (try dsimp only at hSw); go_simp; (try with_reducible rfl))
      try simp only [List.getElem_toArray, List.getElem_cons_succ, List.getElem_cons_zero, Act.put, List.setIfInBounds_toArray, List.set_cons_succ, List.set_cons_zero]
      refine wpAnyH_take (i := 3) (v := ?va4_3) rfl (by kernel_rfl) (by kernel_rfl) (by kernel_rfl) (fun _ _ _ h => h) (Or.inl ⟨by rfl, ?ya4_3⟩) (by assumption) ?na4_3
      case ya4_3 => (intro w hSw; (try dsimp only at hSw); go_simp; (try with_reducible rfl))
      try simp only [List.getElem_toArray, List.getElem_cons_succ, List.getElem_cons_zero, Act.put, List.setIfInBounds_toArray, List.set_cons_succ, List.set_cons_zero]
      refine wpAnyH_take (i := 4) (v := ?va5_4) rfl (by kernel_rfl) (by kernel_rfl) (by kernel_rfl) (fun _ _ _ h => h) (Or.inl ⟨by rfl, ?ya5_4⟩) (by assumption) ?na5_4
      case ya5_4 => (intro w hSw; (try dsimp only at hSw); go_simp; (try with_reducible rfl))
      try simp only [List.getElem_toArray, List.getElem_cons_succ, List.getElem_cons_zero, Act.put, List.setIfInBounds_toArray, List.set_cons_succ, List.set_cons_zero]
      refine wpAnyH_take (i := 5) (v := ?va6_5) rfl (by kernel_rfl) (by kernel_rfl) (by kernel_rfl) (fun _ _ _ h => h) (Or.inl ⟨by rfl, ?ya6_5⟩) (by assumption) ?na6_5
      case ya6_5 => (intro w hSw; (try dsimp only at hSw); go_simp; (try with_reducible rfl))
      try simp only [List.getElem_toArray, List.getElem_cons_succ, List.getElem_cons_zero, Act.put, List.setIfInBounds_toArray, List.set_cons_succ, List.set_cons_zero]
      refine wpAnyH_take (i := 6) (v := ?va7_6) rfl (by kernel_rfl) (by kernel_rfl) (by kernel_rfl) (fun _ _ _ h => h) (Or.inl ⟨by rfl, ?ya7_6⟩) (by assumption) ?na7_6
      case ya7_6 => (intro w hSw; (try dsimp only at hSw); go_simp; (try with_reducible rfl))
      try simp only [List.getElem_toArray, List.getElem_cons_succ, List.getElem_cons_zero, Act.put, List.setIfInBounds_toArray, List.set_cons_succ, List.set_cons_zero]
      refine wpAnyH_take (i := 7) (v := ?va8_7) rfl (by kernel_rfl) (by kernel_rfl) (by kernel_rfl) (fun _ _ _ h => h) (Or.inl ⟨by rfl, ?ya8_7⟩) (by assumption) ?na8_7
      case ya8_7 => (intro w hSw; (try dsimp only at hSw); go_simp; (try with_reducible rfl))
      try simp only [List.getElem_toArray, List.getElem_cons_succ, List.getElem_cons_zero, Act.put, List.setIfInBounds_toArray, List.set_cons_succ, List.set_cons_zero]
      refine wpAnyH_take (i := 8) (v := ?va9_8) rfl (by kernel_rfl) (by kernel_rfl) (by kernel_rfl) (fun _ _ _ h => h) (Or.inl ⟨by rfl, ?ya9_8⟩) (by assumption) ?na9_8
      case ya9_8 => (intro w hSw; (try dsimp only at hSw); go_simp; (try with_reducible rfl))
      try simp only [List.getElem_toArray, List.getElem_cons_succ, List.getElem_cons_zero, Act.put, List.setIfInBounds_toArray, List.set_cons_succ, List.set_cons_zero]
      refine wpAnyH_take (i := 9) (v := ?va10_9) rfl (by kernel_rfl) (by kernel_rfl) (by kernel_rfl) (fun _ _ _ h => h) (Or.inl ⟨by rfl, ?ya10_9⟩) (by assumption) ?na10_9
      case ya10_9 => (intro w hSw; (try dsimp only at hSw); go_simp; (try with_reducible rfl))
      try simp only [List.getElem_toArray, List.getElem_cons_succ, List.getElem_cons_zero, Act.put, List.setIfInBounds_toArray, List.set_cons_succ, List.set_cons_zero]
      refine wpAnyH_take (i := 11) (v := ?va11_11) rfl (by kernel_rfl) (by kernel_rfl) (by kernel_rfl) (fun _ _ _ h => h) (Or.inl ⟨by rfl, ?ya11_11⟩) (by assumption) ?na11_11
      case ya11_11 => (intro w hSw; (try dsimp only at hSw); go_simp; (try with_reducible rfl))
      try simp only [List.getElem_toArray, List.getElem_cons_succ, List.getElem_cons_zero, Act.put, List.setIfInBounds_toArray, List.set_cons_succ, List.set_cons_zero]
      refine wpAnyH_take (i := 12) (v := ?va12_12) rfl (by kernel_rfl) (by kernel_rfl) (by kernel_rfl) (fun _ _ _ h => h) (Or.inl ⟨by rfl, ?ya12_12⟩) (by assumption) ?na12_12
      case ya12_12 => (intro w hSw; (try dsimp only at hSw); go_simp; (try with_reducible rfl))
      try simp only [List.getElem_toArray, List.getElem_cons_succ, List.getElem_cons_zero, Act.put, List.setIfInBounds_toArray, List.set_cons_succ, List.set_cons_zero]
      refine wpAnyH_take (i := 13) (v := ?va13_13) rfl (by kernel_rfl) (by kernel_rfl) (by kernel_rfl) (fun _ _ _ h => h) (Or.inl ⟨by rfl, ?ya13_13⟩) (by assumption) ?na13_13
      case ya13_13 => (intro w hSw; (try dsimp only at hSw); go_simp; (try with_reducible rfl))
      try simp only [List.getElem_toArray, List.getElem_cons_succ, List.getElem_cons_zero, Act.put, List.setIfInBounds_toArray, List.set_cons_succ, List.set_cons_zero]
      refine wpAnyH_take (i := 14) (v := ?va14_14) rfl (by kernel_rfl) (by kernel_rfl) (by kernel_rfl) (fun _ _ _ h => h) (Or.inl ⟨by rfl, ?ya14_14⟩) (by assumption) ?na14_14
      case ya14_14 => (intro w hSw; (try dsimp only at hSw); go_simp; (try with_reducible rfl))
      try simp only [List.getElem_toArray, List.getElem_cons_succ, List.getElem_cons_zero, Act.put, List.setIfInBounds_toArray, List.set_cons_succ, List.set_cons_zero]
      refine wpAnyH_take (i := 15) (v := ?va15_15) rfl (by kernel_rfl) (by kernel_rfl) (by kernel_rfl) (fun _ _ _ h => h) (Or.inl ⟨by rfl, ?ya15_15⟩) (by assumption) ?na15_15
      case ya15_15 => (intro w hSw; (try dsimp only at hSw); go_simp; (try with_reducible rfl))
      try simp only [List.getElem_toArray, List.getElem_cons_succ, List.getElem_cons_zero, Act.put, List.setIfInBounds_toArray, List.set_cons_succ, List.set_cons_zero]
      refine wpAnyH_take (i := 16) (v := ?va16_16) rfl (by kernel_rfl) (by kernel_rfl) (by kernel_rfl) (fun _ _ _ h => h) (Or.inl ⟨by rfl, ?ya16_16⟩) (by assumption) ?na16_16
      case ya16_16 => (intro w hSw; (try dsimp only at hSw); go_simp; (try with_reducible rfl))
      try simp only [List.getElem_toArray, List.getElem_cons_succ, List.getElem_cons_zero, Act.put, List.setIfInBounds_toArray, List.set_cons_succ, List.set_cons_zero]
      refine wpAnyH_take (i := 17) (v := ?va17_17) rfl (by kernel_rfl) (by kernel_rfl) (by kernel_rfl) (fun _ _ _ h => h) (Or.inl ⟨by rfl, ?ya17_17⟩) (by assumption) ?na17_17
      case ya17_17 => (intro w hSw; (try dsimp only at hSw); go_simp; (try with_reducible rfl))
      try simp only [List.getElem_toArray, List.getElem_cons_succ, List.getElem_cons_zero, Act.put, List.setIfInBounds_toArray, List.set_cons_succ, List.set_cons_zero]
      refine wpAnyH_take (i := 18) (v := ?va18_18) rfl (by kernel_rfl) (by kernel_rfl) (by kernel_rfl) (fun _ _ _ h => h) (Or.inl ⟨by rfl, ?ya18_18⟩) (by assumption) ?na18_18
      case ya18_18 => (intro w hSw; (try dsimp only at hSw); go_simp; (try with_reducible rfl))
      try simp only [List.getElem_toArray, List.getElem_cons_succ, List.getElem_cons_zero, Act.put, List.setIfInBounds_toArray, List.set_cons_succ, List.set_cons_zero]
      refine wpAnyH_take (i := 19) (v := ?va19_19) rfl (by kernel_rfl) (by kernel_rfl) (by kernel_rfl) (fun _ _ _ h => h) (Or.inl ⟨by rfl, ?ya19_19⟩) (by assumption) ?na19_19
      case ya19_19 => (intro w hSw; (try dsimp only at hSw); go_simp; (try with_reducible rfl))
      try simp only [List.getElem_toArray, List.getElem_cons_succ, List.getElem_cons_zero, Act.put, List.setIfInBounds_toArray, List.set_cons_succ, List.set_cons_zero]
      refine wpAnyH_take (i := 20) (v := ?va20_20) rfl (by kernel_rfl) (by kernel_rfl) (by kernel_rfl) (fun _ _ _ h => h) (Or.inl ⟨by rfl, ?ya20_20⟩) (by assumption) ?na20_20
      case ya20_20 => (intro w hSw; (try dsimp only at hSw); go_simp; (try with_reducible rfl))
      try simp only [List.getElem_toArray, List.getElem_cons_succ, List.getElem_cons_zero, Act.put, List.setIfInBounds_toArray, List.set_cons_succ, List.set_cons_zero]
      refine wpAnyH_ready (rs := [10, 22]) (by kernel_rfl) (by simp) ?_
      refine (AllReadyH.cons rfl (fun K hK => ?_) (AllReadyH.cons rfl (fun K hK => ?_) AllReadyH.nil))
      · go_simp
        refine (new_any n me wait more most _ hn0 hn1).mono ?_
        rintro e w1 ⟨b, bt, rfl, H1, hcx, hb1, hbt1⟩
        have C1 := C0.trans hcx
        have hbb := Nat.le_trans C0.size hb1
        have hbbt := Nat.le_trans C0.size hbt1
        refine hK.out _ _ ?_ (fun hHeld => ?_)
        · exact HK.out _ C1
        clear hK K
        try simp only [List.getElem_toArray, List.getElem_cons_succ, List.getElem_cons_zero, Act.put, List.setIfInBounds_toArray, List.set_cons_succ, List.set_cons_zero]
        refine wpAnyH_ready (rs := [21, 22]) (by kernel_rfl) (by simp) ?_
        refine (AllReadyH.cons rfl (fun K hK => ?_) (AllReadyH.cons rfl (fun K hK => ?_) AllReadyH.nil))
        · go_simp
          refine (rnew_any n me wait more most _ hn0 hn1).mono ?_
          rintro e w2 ⟨ra, rc, rfl, hcx2⟩
          unfold rnValue
          have C2 := C1.trans hcx2
          have H2 := H1.keep0 hcx2
          refine hK.out _ _ ?_ (fun hHeld => ?_)
          · exact HK.out _ C2
          clear hK K
          try simp only [List.getElem_toArray, List.getElem_cons_succ, List.getElem_cons_zero, Act.put, List.setIfInBounds_toArray, List.set_cons_succ, List.set_cons_zero]
          refine wpAnyH_ready (rs := [22]) (by kernel_rfl) (by simp) ?_
          refine AllReadyH.cons rfl (fun K hK => ?_) AllReadyH.nil
          go_simp
          have kA : ((w2).alloc (.cells #[.slice none 0 0, .int .i64 0, .int .i64 0, .int .i64 0, .int .i64 0, .int .i64 0] 31)).heap[w2.heap.size]? = some (.cells #[.slice none 0 0, .int .i64 0, .int .i64 0, .int .i64 0, .int .i64 0, .int .i64 0] 31) := block_new _ _
          have CA := C2.alloc (.cells #[.slice none 0 0, .int .i64 0, .int .i64 0, .int .i64 0, .int .i64 0, .int .i64 0] 31)
          have hidx : W1.heap.size ≤ w2.heap.size := C2.size
          have HA := H2.keep0 ((Chg.refl [] w2).alloc (.cells #[.slice none 0 0, .int .i64 0, .int .i64 0, .int .i64 0, .int .i64 0, .int .i64 0] 31))
          refine hK.out _ _ ?_ (fun hHeld => ?_)
          · exact HK.out _ CA
          clear hK K
          try simp only [List.getElem_toArray, List.getElem_cons_succ, List.getElem_cons_zero, Act.put, List.setIfInBounds_toArray, List.set_cons_succ, List.set_cons_zero]
          refine wpAnyH_take (i := 23) (v := ?va21_23) rfl (by kernel_rfl) (by kernel_rfl) (by kernel_rfl) (fun _ _ _ h => h) (Or.inl ⟨by rfl, ?ya21_23⟩) (by assumption) ?na21_23
          case ya21_23 => (intro w hSw; (try dsimp only at hSw); go_simp; (try with_reducible rfl))
          try simp only [List.getElem_toArray, List.getElem_cons_succ, List.getElem_cons_zero, Act.put, List.setIfInBounds_toArray, List.set_cons_succ, List.set_cons_zero]
          refine wpAnyH_ready (rs := [24]) (by kernel_rfl) (by simp) ?_
          refine AllReadyH.cons rfl (fun K hK => ?_) AllReadyH.nil
          have c0 : World.cell? _ ⟨w2.heap.size, 0, none⟩ = some (.slice none 0 0) := (cell_of_block kA 0).trans rfl
          have f0 := free_of_block kA 0
          have c1 : World.cell? _ ⟨w2.heap.size, 1, none⟩ = some (.int .i64 0) := (cell_of_block kA 1).trans rfl
          have f1 := free_of_block kA 1
          have c2 : World.cell? _ ⟨w2.heap.size, 2, none⟩ = some (.int .i64 0) := (cell_of_block kA 2).trans rfl
          have f2 := free_of_block kA 2
          have c3 : World.cell? _ ⟨w2.heap.size, 3, none⟩ = some (.int .i64 0) := (cell_of_block kA 3).trans rfl
          have f3 := free_of_block kA 3
          have c4 : World.cell? _ ⟨w2.heap.size, 4, none⟩ = some (.int .i64 0) := (cell_of_block kA 4).trans rfl
          have f4 := free_of_block kA 4
          have c5 : World.cell? _ ⟨w2.heap.size, 5, none⟩ = some (.int .i64 0) := (cell_of_block kA 5).trans rfl
          have f5 := free_of_block kA 5
          go_simp
          have kD : ((w2).alloc (.cells #[(.slice ra (nN n).toNat rc), (.int .i64 (nMe n me)), (.int .i64 (nMore more)), (.int .i64 (nMost wait most)), (.int .i64 0), (.int .i64 0)] 31)).heap[w2.heap.size]? = some (.cells #[(.slice ra (nN n).toNat rc), (.int .i64 (nMe n me)), (.int .i64 (nMore more)), (.int .i64 (nMost wait most)), (.int .i64 0), (.int .i64 0)] 31) := block_new _ _
          have CD := C2.alloc (.cells #[(.slice ra (nN n).toNat rc), (.int .i64 (nMe n me)), (.int .i64 (nMore more)), (.int .i64 (nMost wait most)), (.int .i64 0), (.int .i64 0)] 31)
          have HD := H2.keep0 ((Chg.refl [] w2).alloc (.cells #[(.slice ra (nN n).toNat rc), (.int .i64 (nMe n me)), (.int .i64 (nMore more)), (.int .i64 (nMost wait most)), (.int .i64 0), (.int .i64 0)] 31))
          clear c0 c1 c2 c3 c4 c5 f0 f1 f2 f3 f4 f5
          refine hK.out _ _ ?_ (fun hHeld => ?_)
          · exact HK.out _ CD
          clear hK K
          try simp only [List.getElem_toArray, List.getElem_cons_succ, List.getElem_cons_zero, Act.put, List.setIfInBounds_toArray, List.set_cons_succ, List.set_cons_zero]
          refine wpAnyH_done (by kernel_rfl) ?_ _
          go_wp2_with fail
          go_meet
          exact ⟨b, bt, w2.heap.size, ra, rc, rfl, rfl, HD, kD, CD, hbb, hbbt, hidx⟩
        · go_simp
          have kA : ((w1).alloc (.cells #[.slice none 0 0, .int .i64 0, .int .i64 0, .int .i64 0, .int .i64 0, .int .i64 0] 31)).heap[w1.heap.size]? = some (.cells #[.slice none 0 0, .int .i64 0, .int .i64 0, .int .i64 0, .int .i64 0, .int .i64 0] 31) := block_new _ _
          have CA := C1.alloc (.cells #[.slice none 0 0, .int .i64 0, .int .i64 0, .int .i64 0, .int .i64 0, .int .i64 0] 31)
          have hidx : W1.heap.size ≤ w1.heap.size := C1.size
          have HA := H1.keep0 ((Chg.refl [] w1).alloc (.cells #[.slice none 0 0, .int .i64 0, .int .i64 0, .int .i64 0, .int .i64 0, .int .i64 0] 31))
          refine hK.out _ _ ?_ (fun hHeld => ?_)
          · exact HK.out _ CA
          clear hK K
          try simp only [List.getElem_toArray, List.getElem_cons_succ, List.getElem_cons_zero, Act.put, List.setIfInBounds_toArray, List.set_cons_succ, List.set_cons_zero]
          refine wpAnyH_ready (rs := [21]) (by kernel_rfl) (by simp) ?_
          refine AllReadyH.cons rfl (fun K hK => ?_) AllReadyH.nil
          go_simp
          refine (rnew_any n me wait more most _ hn0 hn1).mono ?_
          rintro e w2 ⟨ra, rc, rfl, hcx2⟩
          unfold rnValue
          have C2 := CA.trans hcx2
          have H2 := HA.keep0 hcx2
          have kA2 := hcx2.at kA (by simp)
          refine hK.out _ _ ?_ (fun hHeld => ?_)
          · exact HK.out _ C2
          clear hK K
          try simp only [List.getElem_toArray, List.getElem_cons_succ, List.getElem_cons_zero, Act.put, List.setIfInBounds_toArray, List.set_cons_succ, List.set_cons_zero]
          refine wpAnyH_take (i := 23) (v := ?va22_23) rfl (by kernel_rfl) (by kernel_rfl) (by kernel_rfl) (fun _ _ _ h => h) (Or.inl ⟨by rfl, ?ya22_23⟩) (by assumption) ?na22_23
          case ya22_23 => (intro w hSw; (try dsimp only at hSw); go_simp; (try with_reducible rfl))
          try simp only [List.getElem_toArray, List.getElem_cons_succ, List.getElem_cons_zero, Act.put, List.setIfInBounds_toArray, List.set_cons_succ, List.set_cons_zero]
          refine wpAnyH_ready (rs := [24]) (by kernel_rfl) (by simp) ?_
          refine AllReadyH.cons rfl (fun K hK => ?_) AllReadyH.nil
          have c0 : World.cell? _ ⟨w1.heap.size, 0, none⟩ = some (.slice none 0 0) := (cell_of_block kA2 0).trans rfl
          have f0 := free_of_block kA2 0
          have c1 : World.cell? _ ⟨w1.heap.size, 1, none⟩ = some (.int .i64 0) := (cell_of_block kA2 1).trans rfl
          have f1 := free_of_block kA2 1
          have c2 : World.cell? _ ⟨w1.heap.size, 2, none⟩ = some (.int .i64 0) := (cell_of_block kA2 2).trans rfl
          have f2 := free_of_block kA2 2
          have c3 : World.cell? _ ⟨w1.heap.size, 3, none⟩ = some (.int .i64 0) := (cell_of_block kA2 3).trans rfl
          have f3 := free_of_block kA2 3
          have c4 : World.cell? _ ⟨w1.heap.size, 4, none⟩ = some (.int .i64 0) := (cell_of_block kA2 4).trans rfl
          have f4 := free_of_block kA2 4
          have c5 : World.cell? _ ⟨w1.heap.size, 5, none⟩ = some (.int .i64 0) := (cell_of_block kA2 5).trans rfl
          have f5 := free_of_block kA2 5
          go_simp
          have hsep := H2.sep kA2 (by decide) (by decide)
          obtain ⟨kD, hk6⟩ := put6 (v0 := (.slice ra (nN n).toNat rc)) (v1 := (.int .i64 (nMe n me))) (v2 := (.int .i64 (nMore more))) (v3 := (.int .i64 (nMost wait most))) (v4 := (.int .i64 0)) (v5 := (.int .i64 0)) kA2
          have hin : ∀ x ∈ [w1.heap.size], x ∈ ([] : List Nat) ∨ W1.heap.size ≤ x := by intro x hx; simp only [List.mem_singleton] at hx; subst hx; exact .inr hidx
          have CD := C2.then hk6 hin
          have HD := H2.keep hk6 (by simp only [List.mem_singleton]; exact hsep.1) (by simp only [List.mem_singleton]; exact hsep.2)
          clear c0 c1 c2 c3 c4 c5 f0 f1 f2 f3 f4 f5
          refine hK.out _ _ ?_ (fun hHeld => ?_)
          · exact HK.out _ CD
          clear hK K
          try simp only [List.getElem_toArray, List.getElem_cons_succ, List.getElem_cons_zero, Act.put, List.setIfInBounds_toArray, List.set_cons_succ, List.set_cons_zero]
          refine wpAnyH_done (by kernel_rfl) ?_ _
          go_wp2_with fail
          go_meet
          exact ⟨b, bt, w1.heap.size, ra, rc, rfl, rfl, HD, kD, CD, hbb, hbbt, hidx⟩
      · go_simp
        have kA : ((W1.drew).alloc (.cells #[.slice none 0 0, .int .i64 0, .int .i64 0, .int .i64 0, .int .i64 0, .int .i64 0] 31)).heap[W1.heap.size]? = some (.cells #[.slice none 0 0, .int .i64 0, .int .i64 0, .int .i64 0, .int .i64 0, .int .i64 0] 31) := block_new _ _
        have CA := C0.alloc (.cells #[.slice none 0 0, .int .i64 0, .int .i64 0, .int .i64 0, .int .i64 0, .int .i64 0] 31)
        have hidx : W1.heap.size ≤ W1.heap.size := Nat.le_refl _
        refine hK.out _ _ ?_ (fun hHeld => ?_)
        · exact HK.out _ CA
        clear hK K
        try simp only [List.getElem_toArray, List.getElem_cons_succ, List.getElem_cons_zero, Act.put, List.setIfInBounds_toArray, List.set_cons_succ, List.set_cons_zero]
        refine wpAnyH_ready (rs := [10]) (by kernel_rfl) (by simp) ?_
        refine AllReadyH.cons rfl (fun K hK => ?_) AllReadyH.nil
        go_simp
        refine (new_any n me wait more most _ hn0 hn1).mono ?_
        rintro e w1 ⟨b, bt, rfl, H1, hcx, hb1, hbt1⟩
        have C1 := CA.trans hcx
        have hbb := Nat.le_trans CA.size hb1
        have hbbt := Nat.le_trans CA.size hbt1
        have kA1 := hcx.at kA (by simp)
        refine hK.out _ _ ?_ (fun hHeld => ?_)
        · exact HK.out _ C1
        clear hK K
        try simp only [List.getElem_toArray, List.getElem_cons_succ, List.getElem_cons_zero, Act.put, List.setIfInBounds_toArray, List.set_cons_succ, List.set_cons_zero]
        refine wpAnyH_ready (rs := [21]) (by kernel_rfl) (by simp) ?_
        refine AllReadyH.cons rfl (fun K hK => ?_) AllReadyH.nil
        go_simp
        refine (rnew_any n me wait more most _ hn0 hn1).mono ?_
        rintro e w2 ⟨ra, rc, rfl, hcx2⟩
        unfold rnValue
        have C2 := C1.trans hcx2
        have H2 := H1.keep0 hcx2
        have kA2 := hcx2.at kA1 (by simp)
        refine hK.out _ _ ?_ (fun hHeld => ?_)
        · exact HK.out _ C2
        clear hK K
        try simp only [List.getElem_toArray, List.getElem_cons_succ, List.getElem_cons_zero, Act.put, List.setIfInBounds_toArray, List.set_cons_succ, List.set_cons_zero]
        refine wpAnyH_take (i := 23) (v := ?va23_23) rfl (by kernel_rfl) (by kernel_rfl) (by kernel_rfl) (fun _ _ _ h => h) (Or.inl ⟨by rfl, ?ya23_23⟩) (by assumption) ?na23_23
        case ya23_23 => (intro w hSw; (try dsimp only at hSw); go_simp; (try with_reducible rfl))
        try simp only [List.getElem_toArray, List.getElem_cons_succ, List.getElem_cons_zero, Act.put, List.setIfInBounds_toArray, List.set_cons_succ, List.set_cons_zero]
        refine wpAnyH_ready (rs := [24]) (by kernel_rfl) (by simp) ?_
        refine AllReadyH.cons rfl (fun K hK => ?_) AllReadyH.nil
        have c0 : World.cell? _ ⟨W1.heap.size, 0, none⟩ = some (.slice none 0 0) := (cell_of_block kA2 0).trans rfl
        have f0 := free_of_block kA2 0
        have c1 : World.cell? _ ⟨W1.heap.size, 1, none⟩ = some (.int .i64 0) := (cell_of_block kA2 1).trans rfl
        have f1 := free_of_block kA2 1
        have c2 : World.cell? _ ⟨W1.heap.size, 2, none⟩ = some (.int .i64 0) := (cell_of_block kA2 2).trans rfl
        have f2 := free_of_block kA2 2
        have c3 : World.cell? _ ⟨W1.heap.size, 3, none⟩ = some (.int .i64 0) := (cell_of_block kA2 3).trans rfl
        have f3 := free_of_block kA2 3
        have c4 : World.cell? _ ⟨W1.heap.size, 4, none⟩ = some (.int .i64 0) := (cell_of_block kA2 4).trans rfl
        have f4 := free_of_block kA2 4
        have c5 : World.cell? _ ⟨W1.heap.size, 5, none⟩ = some (.int .i64 0) := (cell_of_block kA2 5).trans rfl
        have f5 := free_of_block kA2 5
        go_simp
        have hsep := H2.sep kA2 (by decide) (by decide)
        obtain ⟨kD, hk6⟩ := put6 (v0 := (.slice ra (nN n).toNat rc)) (v1 := (.int .i64 (nMe n me))) (v2 := (.int .i64 (nMore more))) (v3 := (.int .i64 (nMost wait most))) (v4 := (.int .i64 0)) (v5 := (.int .i64 0)) kA2
        have hin : ∀ x ∈ [W1.heap.size], x ∈ ([] : List Nat) ∨ W1.heap.size ≤ x := by intro x hx; simp only [List.mem_singleton] at hx; subst hx; exact .inr hidx
        have CD := C2.then hk6 hin
        have HD := H2.keep hk6 (by simp only [List.mem_singleton]; exact hsep.1) (by simp only [List.mem_singleton]; exact hsep.2)
        clear c0 c1 c2 c3 c4 c5 f0 f1 f2 f3 f4 f5
        refine hK.out _ _ ?_ (fun hHeld => ?_)
        · exact HK.out _ CD
        clear hK K
        try simp only [List.getElem_toArray, List.getElem_cons_succ, List.getElem_cons_zero, Act.put, List.setIfInBounds_toArray, List.set_cons_succ, List.set_cons_zero]
        refine wpAnyH_done (by kernel_rfl) ?_ _
        go_wp2_with fail
        go_meet
        exact ⟨b, bt, W1.heap.size, ra, rc, rfl, rfl, HD, kD, CD, hbb, hbbt, hidx⟩
    case rest =>
      obtain ⟨b, bt, bD, ra, rc, rfl, rfl, H, kD, hcc, hb, hbt, hbD⟩ := hcut
      have hcw : Chg [] w wc := hc0.trans hcc
      have hsz := hc0.size
      obtain ⟨hsD1, hsD2⟩ := H.sep kD (by decide) (by decide)
      clear HK kN
      obtain ⟨i0, hi, hz0, hz1, hz2⟩ := info_parts Try.info_bool
      have r1 := fun wx => run_make (P := Try.prog) wx 45 4 i0 _ Try.underlying45 hi hz0 .i64 .i64 64 64 (by omega) (by omega) (by rw [hz2]; omega) (by omega)
      rw [hz1] at r1
      go_wp2_with fail
      have kG := block_new wc (.cells (madeCells #[Value.bool false] 64) 4)
      have hcg := (Chg.refl [] wc).alloc (.cells (madeCells #[Value.bool false] 64) 4)
      have hm64 : madeCells #[Value.bool false] 64 = ((List.replicate 64 false).map Value.bool).toArray := by rw [madeCells_one]; simp
      obtain ⟨bg, hbg⟩ : ∃ bg, wc.heap.size = bg := ⟨_, rfl⟩
      have hbgs : W1.heap.size ≤ bg := by rw [← hbg]; exact hcc.size
      rw [hbg] at kG ⊢
      have hlb := lt_of_some H.hb
      have hlbt := H.ty.lt
      have hlD := lt_of_some kD
      rw [hbg] at hlb hlbt hlD
      clear hbg r1
      have H2 := H.keep0 hcg
      have kD2 := hcg.at kD (by simp)
      have hcw2 := hcw.trans hcg
      generalize wc.alloc (.cells (madeCells #[Value.bool false] 64) 4) = W2 at *
      rw [hm64] at kG
      clear hm64
      have hwf := newB_wf n me wait more most
      have hD0w : (newB n me wait more most).wrong = 0 := rfl
      have hD0m : (newB n me wait more most).most = nMost wait most := rfl
      have hD0e : (newB n me wait more most).me = nMe n me := rfl
      have hm0 : 0 ≤ nMost wait most := by unfold nMost nW; omega
      have hfl := flags_new (newB n me wait more most)
      generalize newB n me wait more most = D0 at *
      generalize nMost wait most = MO at *
      generalize nMe n me = ME at *
      generalize nMore more = MR at *
      go_loopw [8] (fun i wr => ∃ (k : Nat) (D : BD) (G : List Bool), k ≤ l.length ∧ i = .int .i64 k ∧ isB wr b bt D ∧ D.most = MO ∧ D.me = ME ∧ flags G D ∧ 0 ≤ D.wrong ∧ D.wrong ≤ k ∧
          wr.heap[bg]? = some (.cells (G.map Value.bool).toArray 4) ∧ wr.heap[bD]? = some (.cells #[.slice ra (nN n).toNat rc, .int .i64 ME, .int .i64 MR, .int .i64 MO, .int .i64 0, .int .i64 0] 31) ∧ Chg [] w wr) (fun i _ => l.length - (intOf i).toNat)
      case atStart => exact ⟨0, D0, _, by omega, rfl, H2, hD0m, hD0e, hfl, by omega, by omega, kG, kD2, hcw2⟩
      case round =>
        obtain ⟨k, D, G, hk, rfl, HD, hMO, hME, hF, hw0, hw1, kGr, kDr, hcr⟩ := hrel
        by_cases hlt : k < l.length
        · obtain ⟨x, off, rfl⟩ := hA.addr hlt
          obtain ⟨hxl, a0, a1, a2⟩ := (hA.keep0 hcr).at hlt
          generalize l.getD k (0, 0, 0) = act at *
          obtain ⟨ak, ap, an⟩ := act
          dsimp only at a0 a1 a2
          have kA := block_new wr (.cells #[.int .i64 ak, .int .i64 ap, .int .i64 an] 42)
          have hca := (Chg.refl [] wr).alloc (.cells #[.int .i64 ak, .int .i64 ap, .int .i64 an] 42)
          go_upto_region 9 with fail
          obtain ⟨BA, hBA⟩ : ∃ BA, wr.heap.size = BA := ⟨_, rfl⟩
          have hszr : w.heap.size ≤ BA := by rw [← hBA]; exact hcr.size
          have hbgl : bg < BA := by rw [← hBA]; exact lt_of_some kGr
          rw [hBA] at kA ⊢
          clear hBA
          have HDa := HD.keep0 hca
          have kGa := hca.at kGr (by simp)
          have kDa := hca.at kDr (by simp)
          have hcra := hcr.trans hca
          generalize wr.alloc (.cells #[.int .i64 ak, .int .i64 ap, .int .i64 an] 42) = Wa at *
          clear HD kGr kDr hcr a0 a1 a2 hxl hca
          have y0 : Wa.cell? ⟨BA, 0, none⟩ = some (.int .i64 ak) := (cell_of_block kA 0).trans rfl
          have y1 : Wa.cell? ⟨BA, 1, none⟩ = some (.int .i64 ap) := (cell_of_block kA 1).trans rfl
          have y2 : Wa.cell? ⟨BA, 2, none⟩ = some (.int .i64 an) := (cell_of_block kA 2).trans rfl
          go_wp2_with fail
          refine (waitOf_any ap Wa HDa).mono ?_
          rintro e w' ⟨rfl, rfl⟩
          have hlBA := lt_of_some kA
          have hbBA : b < BA ∧ bt < BA ∧ bD < BA := by omega
          go_upto_if 56 with fail
          go_cut [10] from 56 to 81 (fun s wx => ∃ D1 G1, s = .int .i64 (D.waitOf ap) ∧ isB wx b bt D1 ∧ D.le D1 ∧ flags G1 D1 ∧ 0 ≤ D1.wrong ∧ D1.wrong ≤ k + 1 ∧
              wx.heap[bg]? = some (.cells (G1.map Value.bool).toArray 4) ∧ wx.heap[bD]? = some (.cells #[.slice ra (nN n).toNat rc, .int .i64 ME, .int .i64 MR, .int .i64 MO, .int .i64 0, .int .i64 0] 31) ∧
              wx.heap[BA]? = some (.cells #[.int .i64 ak, .int .i64 ap, .int .i64 an] 42) ∧ Chg [] w wx)
          case first =>
            have hS : ∀ y ∈ [b, bt], y ∈ ([] : List Nat) ∨ w.heap.size ≤ y := by intro y hy; simp at hy; omega
            have hpp : ∀ (o : Obj), ∀ (y off : Nat), some (⟨Wa.heap.size, 0, none⟩ : Addr) = some ⟨y, off, none⟩ → y ≠ b ∧ y ≠ bt := by
              intro _ y off e
              simp only [Option.some.injEq, Addr.mk.injEq, and_true] at e
              obtain ⟨rfl, _⟩ := e
              exact ⟨by omega, by omega⟩
            have hgc := fun W (h : Chg [] Wa W) (hi : isInts .i64 W (some ⟨Wa.heap.size, 0, none⟩) [ap]) => gone_any (some ⟨Wa.heap.size, 0, none⟩) [ap] 1 W (HDa.keep0 h) hi (by simp) (hpp (.cells #[] 0))
            have hhc := fun W (h : Chg [] Wa W) (hi : isInts .i64 W (some ⟨Wa.heap.size, 0, none⟩) [ap]) => heard_any an (some ⟨Wa.heap.size, 0, none⟩) [ap] 1 W (HDa.keep0 h) hi (by simp) (hpp (.cells #[] 0)) hw0 (by omega)
            have kI := block_new Wa (.cells #[.int .i64 ap] 3)
            have hcI := (Chg.refl [] Wa).alloc (.cells #[.int .i64 ap] 3)
            have hgc1 := hgc _ hcI (block_ints (k := .i64) (l := [ap]) kI)
            have hhc1 := hhc _ hcI (block_ints (k := .i64) (l := [ap]) kI)
            have kG1 := hcI.at kGa (by simp)
            have kD1 := hcI.at kDa (by simp)
            have kA1 := hcI.at kA (by simp)
            have hc1 := hcra.trans hcI
            clear hgc hhc hpp kI
            by_cases h1 : ak = 1
            · have h1' : (ak == 1) = true := by simp [h1]
              clear h1
              cases hgo : D.goes ap with
              | true =>
                have hth : D.there ap = true := by simp [BD.goes] at hgo; exact hgo.1
                obtain ⟨q, rfl, hq, _⟩ := BD.there_yes hth
                have hq64 : q < 64 := by have := HDa.wf.h2; omega
                have he : D.goneL [(q : Int)] = (D.put q { D.at q with gone := true }, 1) := by rw [goneL_one, hgo]; simp
                have hle := goneL_le D q
                have hwr := goneL_wrong D q
                rw [he] at hgc1 hle hwr
                dsimp only at hgc1 hle hwr
                have hat : ((D.put q { D.at q with gone := true }).at q).gone = true := by rw [BD.put_at D hq, if_pos rfl]
                have hfl2 := (hF.keep hle).set (q := q) (by rw [hle.there]; exact hth) hat
                generalize D.put q { D.at q with gone := true } = D1 at *
                clear hgo hth he hat
                go_wp2_with fail
                generalize Wa.alloc (.cells #[.int .i64 (q : Int)] 3) = Wi at *
                refine hgc1.mono ?_
                rintro e w5 ⟨rfl, H5, hc5⟩
                have kG5 := hc5.at kG1 (by simp; omega)
                have kD5 := hc5.at kD1 (by simp; omega)
                have kA5 := hc5.at kA1 (by simp; omega)
                have hc5w := hc1.then hc5 (by simp; omega)
                have z1 : w5.cell? ⟨BA, 1, none⟩ = some (.int .i64 (q : Int)) := (cell_of_block kA5 1).trans rfl
                have zG : w5.cell? ⟨bg, q, none⟩ = some (.bool (G.getD q false)) := by rw [cell_of_block kG5, map_get _ _ _ false (by rw [hF.1]; exact hq64)]
                have zf := free_of_block kG5 q
                have hset := Lib.hid (map_set G Value.bool q true)
                have hq63 : ¬ (63 : Int) < q := by omega
                generalize G.getD q false = gq at *
                clear hgc1 hhc1 y0 y1 y2 kA kG1 kD1 kA1
                go_wp2_with fail
                go_meet
                refine ⟨D1, G.set q true, rfl, ?_, hle, hfl2, by omega, by omega, ?_, ?_, ?_, hc5w.setCell (.inr (by simp; omega)) _⟩
                · exact H5.keep ((Chg.refl [bg] w5).setCell (.inl (by simp)) _) (by simp; omega) (by simp; omega)
                · rw [block_set kG5, hset.out]
                · rw [block_set_ne (by omega)]; exact kD5
                · rw [block_set_ne (by omega)]; exact kA5
              | false =>
                have he : D.goneL [ap] = (D, 0) := by rw [goneL_one, hgo]; simp
                rw [he] at hgc1
                dsimp only at hgc1
                go_wp2_with fail
                generalize Wa.alloc (.cells #[.int .i64 ap] 3) = Wi at *
                refine hgc1.mono ?_
                rintro e w5 ⟨rfl, H5, hc5⟩
                have kG5 := hc5.at kG1 (by simp; omega)
                have kD5 := hc5.at kD1 (by simp; omega)
                have kA5 := hc5.at kA1 (by simp; omega)
                have hc5w := hc1.then hc5 (by simp; omega)
                clear hgc1 hhc1 y0 y1 y2 kA kG1 kD1 kA1
                go_wp2_with fail
                go_meet
                exact ⟨D, G, rfl, H5, BD.le.rfl' D, hF, by omega, by omega, kG5, kD5, kA5, hc5w⟩
            · have h1' : (ak == 1) = false := by simp [h1]
              clear h1
              have hle := heardL_le D HDa.wf an ap
              obtain ⟨g1, g2, g3⟩ := heardL_bound D an [ap]
              simp only [List.length_cons, List.length_nil] at g3
              generalize (D.heardL an [ap]).1 = D1 at *
              generalize (D.heardL an [ap]).2 = cnt at *
              go_wp2_with fail
              generalize Wa.alloc (.cells #[.int .i64 ap] 3) = Wi at *
              refine hhc1.mono ?_
              rintro e w5 ⟨rfl, H5, hc5⟩
              have kG5 := hc5.at kG1 (by simp; omega)
              have kD5 := hc5.at kD1 (by simp; omega)
              have kA5 := hc5.at kA1 (by simp; omega)
              have hc5w := hc1.then hc5 (by simp; omega)
              clear hgc1 hhc1 y0 y1 y2 kA kG1 kD1 kA1
              go_wp2_with fail
              go_meet
              exact ⟨D1, G, rfl, H5, hle, hF.keep hle, by omega, by omega, kG5, kD5, kA5, hc5w⟩
          case rest =>
            obtain ⟨D1, G1, rfl, H1, hle, hF1, hw10, hw11, kG1, kD1, kA1, hc1⟩ := hcut
            have y0 : wc.cell? ⟨BA, 0, none⟩ = some (.int .i64 ak) := (cell_of_block kA1 0).trans rfl
            have y1 : wc.cell? ⟨BA, 1, none⟩ = some (.int .i64 ap) := (cell_of_block kA1 1).trans rfl
            have y2 : wc.cell? ⟨BA, 2, none⟩ = some (.int .i64 an) := (cell_of_block kA1 2).trans rfl
            have v3 : wc.cell? ⟨bD, 3, none⟩ = some (.int .i64 MO) := (cell_of_block kD1 3).trans rfl
            have v1 : wc.cell? ⟨bD, 1, none⟩ = some (.int .i64 ME) := (cell_of_block kD1 1).trans rfl
            have hd1 : decide (D1.waitOf ap < D.waitOf ap) = false := by have := hle.waitOf ap; simp; omega
            have hMO1 : D1.most = MO := hle.most.trans hMO
            have hd2 : decide (MO < D1.waitOf ap) = false := by have := waitOf_most D1 H1.wf ap (by rw [hMO1]; exact hm0); rw [hMO1] at this; simp; omega
            have hlA := lt_of_some kA1
            have hlD1 := lt_of_some kD1
            have HK16 := Lib.hid (show ∀ w', Chg [] wc w' → (w'.cell? ⟨BA, 1, none⟩ = some (.int .i64 ap) ∧ w'.cell? ⟨bD, 3, none⟩ = some (.int .i64 MO)) ∧ Chg [] wc w' from
              fun w' hc => ⟨⟨(hc.cell (p := ⟨BA, 1, none⟩) hlA (by simp)).trans y1, (hc.cell (p := ⟨bD, 3, none⟩) hlD1 (by simp)).trans v3⟩, hc⟩)
            go_upto_region 16 with fail
            have C0 : Chg [] wc wc.drew := (Chg.refl _ _).drew
            refine wp_region_held_drew (S := fun w' => (w'.cell? ⟨BA, 1, none⟩ = some (.int .i64 ap) ∧ w'.cell? ⟨bD, 3, none⟩ = some (.int .i64 MO)) ∧ Chg [] wc w') (by kernel_rfl) ?_ (fun hHeld => ?_)
            · exact HK16.out _ C0
            refine wpAnyH_take (i := 0) (v := ?vb1_0) rfl (by kernel_rfl) (by kernel_rfl) (by kernel_rfl) (fun _ _ _ h => h) (Or.inl ⟨by rfl, ?yb1_0⟩) (by assumption) ?nb1_0
            case yb1_0 => (intro w hSw; (try dsimp only at hSw); go_simp; (try with_reducible rfl))
            try simp only [List.getElem_toArray, List.getElem_cons_succ, List.getElem_cons_zero, Act.put, List.setIfInBounds_toArray, List.set_cons_succ, List.set_cons_zero]
            refine wpAnyH_take (i := 1) (v := ?vb2_1) rfl (by kernel_rfl) (by kernel_rfl) (by kernel_rfl) (fun _ _ _ h => h) (Or.inl ⟨by rfl, ?yb2_1⟩) (by assumption) ?nb2_1
            case yb2_1 => (intro w hSw; (try dsimp only at hSw); go_simp; (try with_reducible rfl))
            try simp only [List.getElem_toArray, List.getElem_cons_succ, List.getElem_cons_zero, Act.put, List.setIfInBounds_toArray, List.set_cons_succ, List.set_cons_zero]
            refine wpAnyH_take (i := 2) (v := ?vb3_2) rfl (by kernel_rfl) (by kernel_rfl) (by kernel_rfl) (fun _ _ _ h => h) (Or.inl ⟨by rfl, ?yb3_2⟩) (by assumption) ?nb3_2
            case yb3_2 => (intro w hSw; (try dsimp only at hSw); go_simp; (try with_reducible rfl))
            try simp only [List.getElem_toArray, List.getElem_cons_succ, List.getElem_cons_zero, Act.put, List.setIfInBounds_toArray, List.set_cons_succ, List.set_cons_zero]
            refine wpAnyH_take (i := 4) (v := ?vb4_4) rfl (by kernel_rfl) (by kernel_rfl) (by kernel_rfl) (fun _ _ _ h => h) (Or.inl ⟨by rfl, ?yb4_4⟩) (by assumption) ?nb4_4
            case yb4_4 => (intro w hSw; (try dsimp only at hSw); go_simp; (try with_reducible rfl))
            try simp only [List.getElem_toArray, List.getElem_cons_succ, List.getElem_cons_zero, Act.put, List.setIfInBounds_toArray, List.set_cons_succ, List.set_cons_zero]
            refine wpAnyH_ready (rs := [3]) (by kernel_rfl) (by simp) ?_
            refine AllReadyH.cons rfl (fun K hK => ?_) AllReadyH.nil
            go_simp
            refine (waitOf_any ap _ (H1.keep0 (Chg.refl [] _).drew)).mono ?_
            rintro e w' ⟨rfl, rfl⟩
            refine hK.out _ _ ?_ (fun hHeld => ?_)
            · exact HK16.out _ C0
            clear hK K
            try simp only [List.getElem_toArray, List.getElem_cons_succ, List.getElem_cons_zero, Act.put, List.setIfInBounds_toArray, List.set_cons_succ, List.set_cons_zero]
            refine wpAnyH_take (i := 5) (v := ?vb5_5) rfl (by kernel_rfl) (by kernel_rfl) (by kernel_rfl) (fun _ _ _ h => h) (Or.inl ⟨by rfl, ?yb5_5⟩) (by assumption) ?nb5_5
            case yb5_5 => (intro w hSw; (try dsimp only at hSw); go_simp; (try with_reducible rfl))
            try simp only [List.getElem_toArray, List.getElem_cons_succ, List.getElem_cons_zero, Act.put, List.setIfInBounds_toArray, List.set_cons_succ, List.set_cons_zero]
            refine wpAnyH_take (i := 6) (v := ?vb6_6) rfl (by kernel_rfl) (by kernel_rfl) (by kernel_rfl) (fun _ _ _ h => h) (Or.inl ⟨by rfl, ?yb6_6⟩) (by assumption) ?nb6_6
            case yb6_6 => (intro w hSw; (try dsimp only at hSw); go_simp; (try with_reducible rfl))
            try simp only [List.getElem_toArray, List.getElem_cons_succ, List.getElem_cons_zero, Act.put, List.setIfInBounds_toArray, List.set_cons_succ, List.set_cons_zero]
            refine wpAnyH_take (i := 7) (v := ?vb7_7) rfl (by kernel_rfl) (by kernel_rfl) (by kernel_rfl) (fun _ _ _ h => h) (Or.inl ⟨by rfl, ?yb7_7⟩) (by assumption) ?nb7_7
            case yb7_7 => (intro w hSw; (try dsimp only at hSw); go_simp; (try with_reducible rfl))
            try simp only [List.getElem_toArray, List.getElem_cons_succ, List.getElem_cons_zero, Act.put, List.setIfInBounds_toArray, List.set_cons_succ, List.set_cons_zero]
            refine wpAnyH_take (i := 8) (v := ?vb8_8) rfl (by kernel_rfl) (by kernel_rfl) (by kernel_rfl) (fun _ _ _ h => h) (Or.inl ⟨by rfl, ?yb8_8⟩) (by assumption) ?nb8_8
            case yb8_8 => (intro w hSw; (try dsimp only at hSw); go_simp; (try with_reducible rfl))
            try simp only [List.getElem_toArray, List.getElem_cons_succ, List.getElem_cons_zero, Act.put, List.setIfInBounds_toArray, List.set_cons_succ, List.set_cons_zero]
            refine wpAnyH_take (i := 9) (v := ?vb9_9) rfl (by kernel_rfl) (by kernel_rfl) (by kernel_rfl) (fun _ _ _ h => h) (Or.inl ⟨by rfl, ?yb9_9⟩) (by assumption) ?nb9_9
            case yb9_9 => (intro w hSw; (try dsimp only at hSw); go_simp; (try with_reducible rfl))
            try simp only [List.getElem_toArray, List.getElem_cons_succ, List.getElem_cons_zero, Act.put, List.setIfInBounds_toArray, List.set_cons_succ, List.set_cons_zero]
            refine wpAnyH_take (i := 11) (v := ?vb10_11) rfl (by kernel_rfl) (by kernel_rfl) (by kernel_rfl) (fun _ _ _ h => h) (Or.inl ⟨by rfl, ?yb10_11⟩) (by assumption) ?nb10_11
            case yb10_11 => (intro w hSw; (try dsimp only at hSw); go_simp; (try with_reducible rfl))
            try simp only [List.getElem_toArray, List.getElem_cons_succ, List.getElem_cons_zero, Act.put, List.setIfInBounds_toArray, List.set_cons_succ, List.set_cons_zero]
            refine wpAnyH_take (i := 12) (v := ?vb11_12) rfl (by kernel_rfl) (by kernel_rfl) (by kernel_rfl) (fun _ _ _ h => h) (Or.inl ⟨by rfl, ?yb11_12⟩) (by assumption) ?nb11_12
            case yb11_12 => (intro w hSw; (try dsimp only at hSw); go_simp; (try with_reducible rfl))
            try simp only [List.getElem_toArray, List.getElem_cons_succ, List.getElem_cons_zero, Act.put, List.setIfInBounds_toArray, List.set_cons_succ, List.set_cons_zero]
            refine wpAnyH_ready (rs := [10]) (by kernel_rfl) (by simp) ?_
            refine AllReadyH.cons rfl (fun K hK => ?_) AllReadyH.nil
            go_simp
            refine (waitOf_any ap _ (H1.keep0 (Chg.refl [] _).drew)).mono ?_
            rintro e w' ⟨rfl, rfl⟩
            refine hK.out _ _ ?_ (fun hHeld => ?_)
            · exact HK16.out _ C0
            clear hK K
            try simp only [List.getElem_toArray, List.getElem_cons_succ, List.getElem_cons_zero, Act.put, List.setIfInBounds_toArray, List.set_cons_succ, List.set_cons_zero]
            refine wpAnyH_take (i := 13) (v := ?vb12_13) rfl (by kernel_rfl) (by kernel_rfl) (by kernel_rfl) (fun _ _ _ h => h) (Or.inl ⟨by rfl, ?yb12_13⟩) (by assumption) ?nb12_13
            case yb12_13 => (intro w hSw; (try dsimp only at hSw); go_simp; (try with_reducible rfl))
            try simp only [List.getElem_toArray, List.getElem_cons_succ, List.getElem_cons_zero, Act.put, List.setIfInBounds_toArray, List.set_cons_succ, List.set_cons_zero]
            refine wpAnyH_take (i := 14) (v := ?vb13_14) rfl (by kernel_rfl) (by kernel_rfl) (by kernel_rfl) (fun _ _ _ h => h) (Or.inl ⟨by rfl, ?yb13_14⟩) (by assumption) ?nb13_14
            case yb13_14 => (intro w hSw; (try dsimp only at hSw); go_simp; (try with_reducible rfl))
            try simp only [List.getElem_toArray, List.getElem_cons_succ, List.getElem_cons_zero, Act.put, List.setIfInBounds_toArray, List.set_cons_succ, List.set_cons_zero]
            refine wpAnyH_done (by kernel_rfl) ?_ _
            
            have hF2 := hF1.keep (BD.le.tell D1 an)
            have hle2 := hle.trans (BD.le.tell D1 an)
            have hme2 : decide (ME ∈ (D1.tell an).suspL) = false := by rw [← hME, ← hle2.me]; exact me_susp _
            have hlen : (D1.tell an).suspL.length ≤ 1000000 := by have := BD.suspK_len (D1.tell an) D1.len; have := H1.wf.h2; show ((D1.tell an).suspK D1.len).length ≤ _; omega
            have hlG := lt_of_some kG1
            go_wp2_with fail
            refine (suspects_any an _ (H1.keep0 (Chg.refl [] _).drew)).mono ?_
            rintro e w6 ⟨ao6, cap6, rfl, i6, H6, hc6, f6⟩
            have hc6' : Chg [b] wc w6 := ((Chg.refl [b] wc).drew).trans hc6
            have kG6 := hc6'.at kG1 (by simp; omega)
            have kD6 := hc6'.at kD1 (by simp; omega)
            have v1' : w6.cell? ⟨bD, 1, none⟩ = some (.int .i64 ME) := (cell_of_block kD6 1).trans rfl
            have hw6 : Chg [] w w6 := hc1.then hc6' (by simp; omega)
            have hwr2 : (D1.tell an).wrong = D1.wrong := rfl
            have hin := fun x => in_any w6 ao6 (D1.tell an).suspL cap6 x i6 hlen
            have hin1 := hin ME
            rw [hme2] at hin1
            have HS := Lib.hid (fun (j : Nat) (hj : j < 64) hg => hF2.susp (i := j) hj hg)
            generalize D1.tell an = D2 at *
            clear HK16 y0 y1 y2 v3 v1 hd1 hd2 hHeld
            go_wp2_with fail
            refine hin1.mono ?_
            rintro e w' ⟨rfl, rfl⟩
            go_wp2_with fail
            go_loop [12] (fun i => ∃ j : Nat, j ≤ 64 ∧ i = .int .i64 j) (fun i => 64 - (intOf i).toNat)
            case atStart => exact ⟨0, by omega, rfl⟩
            case round =>
              obtain ⟨j, hj, rfl⟩ := hrel
              by_cases hj64 : j < 64
              · have zG : w'.cell? ⟨bg, j, none⟩ = some (.bool (G1.getD j false)) := by rw [cell_of_block kG6, map_get _ _ _ false (by rw [hF1.1]; exact hj64)]
                have hinj := hin j
                cases hgj : G1.getD j false with
                | true =>
                  rw [HS.out j hj64 hgj] at hinj
                  rw [hgj] at zG
                  clear hgj
                  go_wp2_with fail
                  refine hinj.mono ?_
                  rintro e w'' ⟨rfl, rfl⟩
                  go_wp2_with fail
                  go_round
                  case rel => exact ⟨j + 1, by omega, by go_num⟩
                  case measure => simp [intOf]; omega
                | false =>
                  rw [hgj] at zG
                  clear hgj hinj
                  go_wp2_with fail
                  go_round
                  case rel => exact ⟨j + 1, by omega, by go_num⟩
                  case measure => simp [intOf]; omega
              · clear hin hin1
                go_wp2_with fail
                go_roundw
                case rel => exact ⟨k + 1, D2, G1, by omega, by go_num, H6, hle2.most.trans hMO, hle2.me.trans hME, hF2, by omega, by omega, kG6, kD6, hw6⟩
                case measure => simp [intOf]; omega
        · go_wp2_with fail
          refine (awake_any _).mono ?_
          rintro e w' ⟨rfl, hc⟩
          go_wp2_with fail
          go_ret
          exact ⟨rfl, hcr.trans hc⟩

theorem beatRises_lifted (os : Os) (started : os.Started) (H : Type) (enc : TypeId × Value → H) :
    ReturnsInHanded {} Try.checked os 5 .any (Rows.beatRisesSpec.pre6 enc Try.prog Try.f5 Rows.beatRisesRow.domain false) (Rows.beatRisesSpec.post enc Try.prog Try.f5 false true false false) := by
  refine law_lifted (C := Try.checked) (tb := 4) (by kernel_rfl) (by kernel_rfl) Try.func5 rfl (fun H ds h => ?_) rfl Try.underlying4 (by kernel_rfl) (by decide +kernel) os started H enc
    (ChangeSpec.witness6 (enc := enc) (C := Try.checked) false ⟨#[], #[.agg #[.int .i64 0, .int .i64 0, .int .i64 0, .int .i64 0, .int .i64 0], .slice none 0 0], []⟩ 8 (by kernel_rfl) (by kernel_rfl) (by kernel_rfl) (by kernel_rfl)) ?_
  · match ds, h with | [a, b], _ => rfl
  · intro W base args ha hv
    obtain ⟨v0, v1, rfl⟩ : ∃ v0 v1, args = [v0, v1] := by match args, ha with | [a, b], _ => exact ⟨a, b, rfl⟩
    obtain ⟨n, me, wait, more, most, rfl, g1, g2, _, _⟩ := nums_of (hv 0 23 v0 rfl rfl)
    obtain ⟨ao, l, cap, rfl, hl, hA⟩ := acts_of (hv 1 40 v1 rfl rfl)
    exact (rises_walk n me wait more most ao l cap W g1 g2 hl hA).mono fun e W' ⟨h1, h2⟩ => ⟨h1, h2.below⟩

theorem beatRises_holds : Rows.BeatRisesSaid :=
  OpenClaim.holds_of_wide 5 Try.f5 rfl rfl rfl rfl rfl rfl rfl ⟨rfl, rfl, rfl, rfl, rfl⟩ rfl rfl rfl rfl rfl (by kernel_rfl) Try.func5 (by kernel_rfl)
    (of_decide_eq_true (by kernel_rfl)) (by unfold Func.isWrapper; first | (rw [if_pos (by decide +kernel)]; kernel_rfl) | (rw [if_neg (by decide +kernel)]; exact ⟨rfl, rfl⟩))
    (fun os started H enc _ => beatRises_lifted os started H enc)
#print axioms beatRises_holds
end Go.Proofs.Ytjindkkdgjeppaa
