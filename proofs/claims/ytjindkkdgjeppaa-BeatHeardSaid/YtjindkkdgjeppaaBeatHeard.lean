/-
  BeatHeard: who is heard at least each wait ticks isn't suspected, and its wait stays; who is heard no more is suspected from its wait on.
-/
import Derived.Test.YtjindkkdgjeppaaBeatAw
import Derived.Test.YtjindkkdgjeppaaBeatHPlain
import Derived.Test.YtjindkkdgjeppaaBeatArg
import Derived.Test.YtjindkkdgjeppaaBeatSix
namespace Go.Proofs.Ytjindkkdgjeppaa
open Go.ChangeShapes Go.WideShapes Go.ChangeAt Go.RowKit

set_option maxRecDepth 100000 in
set_option maxHeartbeats 4000000 in
theorem hwalk_early (n me wait more most p behind : Int) (ao : Option Addr) (l : List Int) (cap : Nat) (w : World) (h : 100 < l.length ∨ wait < 1 ∨ 1000 < wait) (hl : l.length ≤ 9223372036854775807) :
    Calls Try.prog 3 #[.agg #[.int .i64 n, .int .i64 me, .int .i64 wait, .int .i64 more, .int .i64 most], .int .i64 p, .slice ao l.length cap, .int .u16 behind] w fun e w' => e = .returned (.bool true) ∧ Chg [] w w' := by
  by_cases h1 : 100 < l.length
  · go_enter Try.func3, Try.ntmps3
    go_wp2_with fail
    refine (awake_any _).mono ?_
    rintro e w' ⟨rfl, hc⟩
    go_wp2_with fail
    go_ret
    exact ⟨rfl, ((Chg.refl _ _).alloc _).trans hc⟩
  · by_cases h2 : wait < 1
    · go_enter Try.func3, Try.ntmps3
      go_wp2_with fail
      refine (awake_any _).mono ?_
      rintro e w' ⟨rfl, hc⟩
      go_wp2_with fail
      go_ret
      exact ⟨rfl, ((Chg.refl _ _).alloc _).trans hc⟩
    · have h3 : 1000 < wait := by omega
      go_enter Try.func3, Try.ntmps3
      go_wp2_with fail
      refine (awake_any _).mono ?_
      rintro e w' ⟨rfl, hc⟩
      go_wp2_with fail
      go_ret
      exact ⟨rfl, ((Chg.refl _ _).alloc _).trans hc⟩

set_option maxRecDepth 100000 in
set_option maxHeartbeats 4000000 in
theorem hwalk (n me wait more most p behind : Int) (ao : Option Addr) (l : List Int) (cap : Nat) (w : World) (hl : l.length ≤ 100) (hw1 : 1 ≤ wait) (hw2 : wait ≤ 1000) (hn0 : -9223372036854775808 ≤ n) (hn1 : n ≤ 9223372036854775807)
    (hb0 : 0 ≤ behind) (hb1 : behind ≤ 65535) (hA : isInts .u16 w ao l) (hG : ∀ i, i < l.length → 0 ≤ l.getD i 0 ∧ l.getD i 0 ≤ 65535) :
    Calls Try.prog 3 #[.agg #[.int .i64 n, .int .i64 me, .int .i64 wait, .int .i64 more, .int .i64 most], .int .i64 p, .slice ao l.length cap, .int .u16 behind] w fun e w' => e = .returned (.bool true) ∧ Chg [] w w' := by
    have d1 : decide (100 < (l.length : Int)) = false := by simp; omega
    have d2 : decide (wait < 1) = false := by simp; omega
    have d3 : decide (1000 < wait) = false := by simp; omega
    go_enter Try.func3, Try.ntmps3
    go_upto_region 3 with fail
    have kN := block_new w (.cells #[.int .i64 n, .int .i64 me, .int .i64 wait, .int .i64 more, .int .i64 most] 23)
    have hc0 := (Chg.refl [] w).alloc (.cells #[.int .i64 n, .int .i64 me, .int .i64 wait, .int .i64 more, .int .i64 most] 23)
    generalize w.alloc (.cells #[.int .i64 n, .int .i64 me, .int .i64 wait, .int .i64 more, .int .i64 most] 23) = W1 at *
    have HK := Lib.hid (show ∀ w', Chg [] W1 w' → (w'.cell? ⟨w.heap.size, 0, none⟩ = some (.int .i64 n) ∧ w'.cell? ⟨w.heap.size, 1, none⟩ = some (.int .i64 me) ∧ w'.cell? ⟨w.heap.size, 2, none⟩ = some (.int .i64 wait) ∧ w'.cell? ⟨w.heap.size, 3, none⟩ = some (.int .i64 more) ∧ w'.cell? ⟨w.heap.size, 4, none⟩ = some (.int .i64 most)) ∧ Chg [] W1 w' from
      fun w' hc => ⟨⟨(cell_of_block (hc.at kN (by simp)) 0).trans rfl, (cell_of_block (hc.at kN (by simp)) 1).trans rfl, (cell_of_block (hc.at kN (by simp)) 2).trans rfl, (cell_of_block (hc.at kN (by simp)) 3).trans rfl, (cell_of_block (hc.at kN (by simp)) 4).trans rfl⟩, hc⟩)
    go_cut [9, 10] from 27 to 48 (fun s9 s10 wx => ∃ b bt bD ra rc, s9 = .pointer (some ⟨b, 0, none⟩) ∧ s10 = .pointer (some ⟨bD, 0, none⟩) ∧ isB wx b bt (newB n me wait more most) ∧ wx.heap[bD]? = some (.cells #[(.slice ra (nN n).toNat rc), (.int .i64 (nMe n me)), (.int .i64 (nMore more)), (.int .i64 (nMost wait most)), (.int .i64 0), (.int .i64 0)] 31) ∧ Chg [] W1 wx ∧ W1.heap.size ≤ b ∧ W1.heap.size ≤ bt ∧ W1.heap.size ≤ bD)
    case first =>
      have C0 := (Chg.refl [] W1).drew
      refine wp_region_held_drew (S := fun w' => (w'.cell? ⟨w.heap.size, 0, none⟩ = some (.int .i64 n) ∧ w'.cell? ⟨w.heap.size, 1, none⟩ = some (.int .i64 me) ∧ w'.cell? ⟨w.heap.size, 2, none⟩ = some (.int .i64 wait) ∧ w'.cell? ⟨w.heap.size, 3, none⟩ = some (.int .i64 more) ∧ w'.cell? ⟨w.heap.size, 4, none⟩ = some (.int .i64 most)) ∧ Chg [] W1 w') (by kernel_rfl) ?_ (fun hHeld => ?_)
      · exact HK.out _ C0
      refine wpAnyH_take (i := 0) (v := ?va1_0) rfl (by kernel_rfl) (by kernel_rfl) (by kernel_rfl) (fun _ _ _ h => h) (Or.inl ⟨by rfl, ?ya1_0⟩) (by assumption) ?na1_0
      case ya1_0 => (intro w hSw; (try dsimp only at hSw); go_simp; (try with_reducible rfl))
      try simp only [List.getElem_toArray, List.getElem_cons_succ, List.getElem_cons_zero, Act.put, List.setIfInBounds_toArray, List.set_cons_succ, List.set_cons_zero]
      refine wpAnyH_take (i := 1) (v := ?va2_1) rfl (by kernel_rfl) (by kernel_rfl) (by kernel_rfl) (fun _ _ _ h => h) (Or.inl ⟨by rfl, ?ya2_1⟩) (by assumption) ?na2_1
      case ya2_1 => (intro w hSw; (try dsimp only at hSw); go_simp; (try with_reducible rfl))
      try simp only [List.getElem_toArray, List.getElem_cons_succ, List.getElem_cons_zero, Act.put, List.setIfInBounds_toArray, List.set_cons_succ, List.set_cons_zero]
      refine wpAnyH_take (i := 2) (v := ?va3_2) rfl (by kernel_rfl) (by kernel_rfl) (by kernel_rfl) (fun _ _ _ h => h) (Or.inl ⟨by rfl, ?ya3_2⟩) (by assumption) ?na3_2
      case ya3_2 => (intro w hSw; (try dsimp only at hSw); go_simp; (try with_reducible rfl))
      try simp only [List.getElem_toArray, List.getElem_cons_succ, List.getElem_cons_zero, Act.put, List.setIfInBounds_toArray, List.set_cons_succ, List.set_cons_zero]
      refine wpAnyH_take (i := 3) (v := ?va4_3) rfl (by kernel_rfl) (by kernel_rfl) (by kernel_rfl) (fun _ _ _ h => h) (Or.inl ⟨by rfl, ?ya4_3⟩) (by assumption) ?na4_3
      case ya4_3 => (intro w hSw; (try dsimp only at hSw); go_simp; (try with_reducible rfl))
      try simp only [List.getElem_toArray, List.getElem_cons_succ, List.getElem_cons_zero, Act.put, List.setIfInBounds_toArray, List.set_cons_succ, List.set_cons_zero]
      refine wpAnyH_take (i := 4) (v := ?va5_4) rfl (by kernel_rfl) (by kernel_rfl) (by kernel_rfl) (fun _ _ _ h => h) (Or.inl ⟨by rfl, ?ya5_4⟩) (by assumption) ?na5_4
      case ya5_4 => (intro w hSw; (try dsimp only at hSw); go_simp; (try with_reducible rfl))
      try simp only [List.getElem_toArray, List.getElem_cons_succ, List.getElem_cons_zero, Act.put, List.setIfInBounds_toArray, List.set_cons_succ, List.set_cons_zero]
      refine wpAnyH_take (i := 5) (v := ?va6_5) rfl (by kernel_rfl) (by kernel_rfl) (by kernel_rfl) (fun _ _ _ h => h) (Or.inl ⟨by rfl, ?ya6_5⟩) (by assumption) ?na6_5
      case ya6_5 => (intro w hSw; (try dsimp only at hSw); go_simp; (try with_reducible rfl))
      try simp only [List.getElem_toArray, List.getElem_cons_succ, List.getElem_cons_zero, Act.put, List.setIfInBounds_toArray, List.set_cons_succ, List.set_cons_zero]
      refine wpAnyH_take (i := 6) (v := ?va7_6) rfl (by kernel_rfl) (by kernel_rfl) (by kernel_rfl) (fun _ _ _ h => h) (Or.inl ⟨by rfl, ?ya7_6⟩) (by assumption) ?na7_6
      case ya7_6 => (intro w hSw; (try dsimp only at hSw); go_simp; (try with_reducible rfl))
      try simp only [List.getElem_toArray, List.getElem_cons_succ, List.getElem_cons_zero, Act.put, List.setIfInBounds_toArray, List.set_cons_succ, List.set_cons_zero]
      refine wpAnyH_take (i := 7) (v := ?va8_7) rfl (by kernel_rfl) (by kernel_rfl) (by kernel_rfl) (fun _ _ _ h => h) (Or.inl ⟨by rfl, ?ya8_7⟩) (by assumption) ?na8_7
      case ya8_7 => (intro w hSw; (try dsimp only at hSw); go_simp; (try with_reducible rfl))
      try simp only [List.getElem_toArray, List.getElem_cons_succ, List.getElem_cons_zero, Act.put, List.setIfInBounds_toArray, List.set_cons_succ, List.set_cons_zero]
      refine wpAnyH_take (i := 8) (v := ?va9_8) rfl (by kernel_rfl) (by kernel_rfl) (by kernel_rfl) (fun _ _ _ h => h) (Or.inl ⟨by rfl, ?ya9_8⟩) (by assumption) ?na9_8
      case ya9_8 => (intro w hSw; (try dsimp only at hSw); go_simp; (try with_reducible rfl))
      try simp only [List.getElem_toArray, List.getElem_cons_succ, List.getElem_cons_zero, Act.put, List.setIfInBounds_toArray, List.set_cons_succ, List.set_cons_zero]
      refine wpAnyH_take (i := 9) (v := ?va10_9) rfl (by kernel_rfl) (by kernel_rfl) (by kernel_rfl) (fun _ _ _ h => h) (Or.inl ⟨by rfl, ?ya10_9⟩) (by assumption) ?na10_9
      case ya10_9 => (intro w hSw; (try dsimp only at hSw); go_simp; (try with_reducible rfl))
      try simp only [List.getElem_toArray, List.getElem_cons_succ, List.getElem_cons_zero, Act.put, List.setIfInBounds_toArray, List.set_cons_succ, List.set_cons_zero]
      refine wpAnyH_take (i := 11) (v := ?va11_11) rfl (by kernel_rfl) (by kernel_rfl) (by kernel_rfl) (fun _ _ _ h => h) (Or.inl ⟨by rfl, ?ya11_11⟩) (by assumption) ?na11_11
      case ya11_11 => (intro w hSw; (try dsimp only at hSw); go_simp; (try with_reducible rfl))
      try simp only [List.getElem_toArray, List.getElem_cons_succ, List.getElem_cons_zero, Act.put, List.setIfInBounds_toArray, List.set_cons_succ, List.set_cons_zero]
      refine wpAnyH_take (i := 12) (v := ?va12_12) rfl (by kernel_rfl) (by kernel_rfl) (by kernel_rfl) (fun _ _ _ h => h) (Or.inl ⟨by rfl, ?ya12_12⟩) (by assumption) ?na12_12
      case ya12_12 => (intro w hSw; (try dsimp only at hSw); go_simp; (try with_reducible rfl))
      try simp only [List.getElem_toArray, List.getElem_cons_succ, List.getElem_cons_zero, Act.put, List.setIfInBounds_toArray, List.set_cons_succ, List.set_cons_zero]
      refine wpAnyH_take (i := 13) (v := ?va13_13) rfl (by kernel_rfl) (by kernel_rfl) (by kernel_rfl) (fun _ _ _ h => h) (Or.inl ⟨by rfl, ?ya13_13⟩) (by assumption) ?na13_13
      case ya13_13 => (intro w hSw; (try dsimp only at hSw); go_simp; (try with_reducible rfl))
      try simp only [List.getElem_toArray, List.getElem_cons_succ, List.getElem_cons_zero, Act.put, List.setIfInBounds_toArray, List.set_cons_succ, List.set_cons_zero]
      refine wpAnyH_take (i := 14) (v := ?va14_14) rfl (by kernel_rfl) (by kernel_rfl) (by kernel_rfl) (fun _ _ _ h => h) (Or.inl ⟨by rfl, ?ya14_14⟩) (by assumption) ?na14_14
      case ya14_14 => (intro w hSw; (try dsimp only at hSw); go_simp; (try with_reducible rfl))
      try simp only [List.getElem_toArray, List.getElem_cons_succ, List.getElem_cons_zero, Act.put, List.setIfInBounds_toArray, List.set_cons_succ, List.set_cons_zero]
      refine wpAnyH_take (i := 15) (v := ?va15_15) rfl (by kernel_rfl) (by kernel_rfl) (by kernel_rfl) (fun _ _ _ h => h) (Or.inl ⟨by rfl, ?ya15_15⟩) (by assumption) ?na15_15
      case ya15_15 => (intro w hSw; (try dsimp only at hSw); go_simp; (try with_reducible rfl))
      try simp only [List.getElem_toArray, List.getElem_cons_succ, List.getElem_cons_zero, Act.put, List.setIfInBounds_toArray, List.set_cons_succ, List.set_cons_zero]
      refine wpAnyH_take (i := 16) (v := ?va16_16) rfl (by kernel_rfl) (by kernel_rfl) (by kernel_rfl) (fun _ _ _ h => h) (Or.inl ⟨by rfl, ?ya16_16⟩) (by assumption) ?na16_16
      case ya16_16 => (intro w hSw; (try dsimp only at hSw); go_simp; (try with_reducible rfl))
      try simp only [List.getElem_toArray, List.getElem_cons_succ, List.getElem_cons_zero, Act.put, List.setIfInBounds_toArray, List.set_cons_succ, List.set_cons_zero]
      refine wpAnyH_take (i := 17) (v := ?va17_17) rfl (by kernel_rfl) (by kernel_rfl) (by kernel_rfl) (fun _ _ _ h => h) (Or.inl ⟨by rfl, ?ya17_17⟩) (by assumption) ?na17_17
      case ya17_17 => (intro w hSw; (try dsimp only at hSw); go_simp; (try with_reducible rfl))
      try simp only [List.getElem_toArray, List.getElem_cons_succ, List.getElem_cons_zero, Act.put, List.setIfInBounds_toArray, List.set_cons_succ, List.set_cons_zero]
      refine wpAnyH_take (i := 18) (v := ?va18_18) rfl (by kernel_rfl) (by kernel_rfl) (by kernel_rfl) (fun _ _ _ h => h) (Or.inl ⟨by rfl, ?ya18_18⟩) (by assumption) ?na18_18
      case ya18_18 => (intro w hSw; (try dsimp only at hSw); go_simp; (try with_reducible rfl))
      try simp only [List.getElem_toArray, List.getElem_cons_succ, List.getElem_cons_zero, Act.put, List.setIfInBounds_toArray, List.set_cons_succ, List.set_cons_zero]
      refine wpAnyH_take (i := 19) (v := ?va19_19) rfl (by kernel_rfl) (by kernel_rfl) (by kernel_rfl) (fun _ _ _ h => h) (Or.inl ⟨by rfl, ?ya19_19⟩) (by assumption) ?na19_19
      case ya19_19 => (intro w hSw; (try dsimp only at hSw); go_simp; (try with_reducible rfl))
      try simp only [List.getElem_toArray, List.getElem_cons_succ, List.getElem_cons_zero, Act.put, List.setIfInBounds_toArray, List.set_cons_succ, List.set_cons_zero]
      refine wpAnyH_take (i := 20) (v := ?va20_20) rfl (by kernel_rfl) (by kernel_rfl) (by kernel_rfl) (fun _ _ _ h => h) (Or.inl ⟨by rfl, ?ya20_20⟩) (by assumption) ?na20_20
      case ya20_20 => (intro w hSw; (try dsimp only at hSw); go_simp; (try with_reducible rfl))
      try simp only [List.getElem_toArray, List.getElem_cons_succ, List.getElem_cons_zero, Act.put, List.setIfInBounds_toArray, List.set_cons_succ, List.set_cons_zero]
      refine wpAnyH_ready (rs := [10, 22]) (by kernel_rfl) (by simp) ?_
      refine (AllReadyH.cons rfl (fun K hK => ?_) (AllReadyH.cons rfl (fun K hK => ?_) AllReadyH.nil))
      · go_simp
        refine (new_any n me wait more most _ hn0 hn1).mono ?_
        rintro e w1 ⟨b, bt, rfl, H1, hcx, hb1, hbt1⟩
        have C1 := C0.trans hcx
        have hbb := Nat.le_trans C0.size hb1
        have hbbt := Nat.le_trans C0.size hbt1
        refine hK.out _ _ ?_ (fun hHeld => ?_)
        · exact HK.out _ C1
        clear hK K
        try simp only [List.getElem_toArray, List.getElem_cons_succ, List.getElem_cons_zero, Act.put, List.setIfInBounds_toArray, List.set_cons_succ, List.set_cons_zero]
        refine wpAnyH_ready (rs := [21, 22]) (by kernel_rfl) (by simp) ?_
        refine (AllReadyH.cons rfl (fun K hK => ?_) (AllReadyH.cons rfl (fun K hK => ?_) AllReadyH.nil))
        · go_simp
          refine (rnew_any n me wait more most _ hn0 hn1).mono ?_
          rintro e w2 ⟨ra, rc, rfl, hcx2⟩
          unfold rnValue
          have C2 := C1.trans hcx2
          have H2 := H1.keep0 hcx2
          refine hK.out _ _ ?_ (fun hHeld => ?_)
          · exact HK.out _ C2
          clear hK K
          try simp only [List.getElem_toArray, List.getElem_cons_succ, List.getElem_cons_zero, Act.put, List.setIfInBounds_toArray, List.set_cons_succ, List.set_cons_zero]
          refine wpAnyH_ready (rs := [22]) (by kernel_rfl) (by simp) ?_
          refine AllReadyH.cons rfl (fun K hK => ?_) AllReadyH.nil
          go_simp
          have kA : ((w2).alloc (.cells #[.slice none 0 0, .int .i64 0, .int .i64 0, .int .i64 0, .int .i64 0, .int .i64 0] 31)).heap[w2.heap.size]? = some (.cells #[.slice none 0 0, .int .i64 0, .int .i64 0, .int .i64 0, .int .i64 0, .int .i64 0] 31) := block_new _ _
          have CA := C2.alloc (.cells #[.slice none 0 0, .int .i64 0, .int .i64 0, .int .i64 0, .int .i64 0, .int .i64 0] 31)
          have hidx : W1.heap.size ≤ w2.heap.size := C2.size
          have HA := H2.keep0 ((Chg.refl [] w2).alloc (.cells #[.slice none 0 0, .int .i64 0, .int .i64 0, .int .i64 0, .int .i64 0, .int .i64 0] 31))
          refine hK.out _ _ ?_ (fun hHeld => ?_)
          · exact HK.out _ CA
          clear hK K
          try simp only [List.getElem_toArray, List.getElem_cons_succ, List.getElem_cons_zero, Act.put, List.setIfInBounds_toArray, List.set_cons_succ, List.set_cons_zero]
          refine wpAnyH_take (i := 23) (v := ?va21_23) rfl (by kernel_rfl) (by kernel_rfl) (by kernel_rfl) (fun _ _ _ h => h) (Or.inl ⟨by rfl, ?ya21_23⟩) (by assumption) ?na21_23
          case ya21_23 => (intro w hSw; (try dsimp only at hSw); go_simp; (try with_reducible rfl))
          try simp only [List.getElem_toArray, List.getElem_cons_succ, List.getElem_cons_zero, Act.put, List.setIfInBounds_toArray, List.set_cons_succ, List.set_cons_zero]
          refine wpAnyH_ready (rs := [24]) (by kernel_rfl) (by simp) ?_
          refine AllReadyH.cons rfl (fun K hK => ?_) AllReadyH.nil
          have c0 : World.cell? _ ⟨w2.heap.size, 0, none⟩ = some (.slice none 0 0) := (cell_of_block kA 0).trans rfl
          have f0 := free_of_block kA 0
          have c1 : World.cell? _ ⟨w2.heap.size, 1, none⟩ = some (.int .i64 0) := (cell_of_block kA 1).trans rfl
          have f1 := free_of_block kA 1
          have c2 : World.cell? _ ⟨w2.heap.size, 2, none⟩ = some (.int .i64 0) := (cell_of_block kA 2).trans rfl
          have f2 := free_of_block kA 2
          have c3 : World.cell? _ ⟨w2.heap.size, 3, none⟩ = some (.int .i64 0) := (cell_of_block kA 3).trans rfl
          have f3 := free_of_block kA 3
          have c4 : World.cell? _ ⟨w2.heap.size, 4, none⟩ = some (.int .i64 0) := (cell_of_block kA 4).trans rfl
          have f4 := free_of_block kA 4
          have c5 : World.cell? _ ⟨w2.heap.size, 5, none⟩ = some (.int .i64 0) := (cell_of_block kA 5).trans rfl
          have f5 := free_of_block kA 5
          go_simp
          have kD : ((w2).alloc (.cells #[(.slice ra (nN n).toNat rc), (.int .i64 (nMe n me)), (.int .i64 (nMore more)), (.int .i64 (nMost wait most)), (.int .i64 0), (.int .i64 0)] 31)).heap[w2.heap.size]? = some (.cells #[(.slice ra (nN n).toNat rc), (.int .i64 (nMe n me)), (.int .i64 (nMore more)), (.int .i64 (nMost wait most)), (.int .i64 0), (.int .i64 0)] 31) := block_new _ _
          have CD := C2.alloc (.cells #[(.slice ra (nN n).toNat rc), (.int .i64 (nMe n me)), (.int .i64 (nMore more)), (.int .i64 (nMost wait most)), (.int .i64 0), (.int .i64 0)] 31)
          have HD := H2.keep0 ((Chg.refl [] w2).alloc (.cells #[(.slice ra (nN n).toNat rc), (.int .i64 (nMe n me)), (.int .i64 (nMore more)), (.int .i64 (nMost wait most)), (.int .i64 0), (.int .i64 0)] 31))
          clear c0 c1 c2 c3 c4 c5 f0 f1 f2 f3 f4 f5
          refine hK.out _ _ ?_ (fun hHeld => ?_)
          · exact HK.out _ CD
          clear hK K
          try simp only [List.getElem_toArray, List.getElem_cons_succ, List.getElem_cons_zero, Act.put, List.setIfInBounds_toArray, List.set_cons_succ, List.set_cons_zero]
          refine wpAnyH_done (by kernel_rfl) ?_ _
          go_wp2_with fail
          go_meet
          exact ⟨b, bt, w2.heap.size, ra, rc, rfl, rfl, HD, kD, CD, hbb, hbbt, hidx⟩
        · go_simp
          have kA : ((w1).alloc (.cells #[.slice none 0 0, .int .i64 0, .int .i64 0, .int .i64 0, .int .i64 0, .int .i64 0] 31)).heap[w1.heap.size]? = some (.cells #[.slice none 0 0, .int .i64 0, .int .i64 0, .int .i64 0, .int .i64 0, .int .i64 0] 31) := block_new _ _
          have CA := C1.alloc (.cells #[.slice none 0 0, .int .i64 0, .int .i64 0, .int .i64 0, .int .i64 0, .int .i64 0] 31)
          have hidx : W1.heap.size ≤ w1.heap.size := C1.size
          have HA := H1.keep0 ((Chg.refl [] w1).alloc (.cells #[.slice none 0 0, .int .i64 0, .int .i64 0, .int .i64 0, .int .i64 0, .int .i64 0] 31))
          refine hK.out _ _ ?_ (fun hHeld => ?_)
          · exact HK.out _ CA
          clear hK K
          try simp only [List.getElem_toArray, List.getElem_cons_succ, List.getElem_cons_zero, Act.put, List.setIfInBounds_toArray, List.set_cons_succ, List.set_cons_zero]
          refine wpAnyH_ready (rs := [21]) (by kernel_rfl) (by simp) ?_
          refine AllReadyH.cons rfl (fun K hK => ?_) AllReadyH.nil
          go_simp
          refine (rnew_any n me wait more most _ hn0 hn1).mono ?_
          rintro e w2 ⟨ra, rc, rfl, hcx2⟩
          unfold rnValue
          have C2 := CA.trans hcx2
          have H2 := HA.keep0 hcx2
          have kA2 := hcx2.at kA (by simp)
          refine hK.out _ _ ?_ (fun hHeld => ?_)
          · exact HK.out _ C2
          clear hK K
          try simp only [List.getElem_toArray, List.getElem_cons_succ, List.getElem_cons_zero, Act.put, List.setIfInBounds_toArray, List.set_cons_succ, List.set_cons_zero]
          refine wpAnyH_take (i := 23) (v := ?va22_23) rfl (by kernel_rfl) (by kernel_rfl) (by kernel_rfl) (fun _ _ _ h => h) (Or.inl ⟨by rfl, ?ya22_23⟩) (by assumption) ?na22_23
          case ya22_23 => (intro w hSw; (try dsimp only at hSw); go_simp; (try with_reducible rfl))
          try simp only [List.getElem_toArray, List.getElem_cons_succ, List.getElem_cons_zero, Act.put, List.setIfInBounds_toArray, List.set_cons_succ, List.set_cons_zero]
          refine wpAnyH_ready (rs := [24]) (by kernel_rfl) (by simp) ?_
          refine AllReadyH.cons rfl (fun K hK => ?_) AllReadyH.nil
          have c0 : World.cell? _ ⟨w1.heap.size, 0, none⟩ = some (.slice none 0 0) := (cell_of_block kA2 0).trans rfl
          have f0 := free_of_block kA2 0
          have c1 : World.cell? _ ⟨w1.heap.size, 1, none⟩ = some (.int .i64 0) := (cell_of_block kA2 1).trans rfl
          have f1 := free_of_block kA2 1
          have c2 : World.cell? _ ⟨w1.heap.size, 2, none⟩ = some (.int .i64 0) := (cell_of_block kA2 2).trans rfl
          have f2 := free_of_block kA2 2
          have c3 : World.cell? _ ⟨w1.heap.size, 3, none⟩ = some (.int .i64 0) := (cell_of_block kA2 3).trans rfl
          have f3 := free_of_block kA2 3
          have c4 : World.cell? _ ⟨w1.heap.size, 4, none⟩ = some (.int .i64 0) := (cell_of_block kA2 4).trans rfl
          have f4 := free_of_block kA2 4
          have c5 : World.cell? _ ⟨w1.heap.size, 5, none⟩ = some (.int .i64 0) := (cell_of_block kA2 5).trans rfl
          have f5 := free_of_block kA2 5
          go_simp
          have hsep := H2.sep kA2 (by decide) (by decide)
          obtain ⟨kD, hk6⟩ := put6 (v0 := (.slice ra (nN n).toNat rc)) (v1 := (.int .i64 (nMe n me))) (v2 := (.int .i64 (nMore more))) (v3 := (.int .i64 (nMost wait most))) (v4 := (.int .i64 0)) (v5 := (.int .i64 0)) kA2
          have hin : ∀ x ∈ [w1.heap.size], x ∈ ([] : List Nat) ∨ W1.heap.size ≤ x := by intro x hx; simp only [List.mem_singleton] at hx; subst hx; exact .inr hidx
          have CD := C2.then hk6 hin
          have HD := H2.keep hk6 (by simp only [List.mem_singleton]; exact hsep.1) (by simp only [List.mem_singleton]; exact hsep.2)
          clear c0 c1 c2 c3 c4 c5 f0 f1 f2 f3 f4 f5
          refine hK.out _ _ ?_ (fun hHeld => ?_)
          · exact HK.out _ CD
          clear hK K
          try simp only [List.getElem_toArray, List.getElem_cons_succ, List.getElem_cons_zero, Act.put, List.setIfInBounds_toArray, List.set_cons_succ, List.set_cons_zero]
          refine wpAnyH_done (by kernel_rfl) ?_ _
          go_wp2_with fail
          go_meet
          exact ⟨b, bt, w1.heap.size, ra, rc, rfl, rfl, HD, kD, CD, hbb, hbbt, hidx⟩
      · go_simp
        have kA : ((W1.drew).alloc (.cells #[.slice none 0 0, .int .i64 0, .int .i64 0, .int .i64 0, .int .i64 0, .int .i64 0] 31)).heap[W1.heap.size]? = some (.cells #[.slice none 0 0, .int .i64 0, .int .i64 0, .int .i64 0, .int .i64 0, .int .i64 0] 31) := block_new _ _
        have CA := C0.alloc (.cells #[.slice none 0 0, .int .i64 0, .int .i64 0, .int .i64 0, .int .i64 0, .int .i64 0] 31)
        have hidx : W1.heap.size ≤ W1.heap.size := Nat.le_refl _
        refine hK.out _ _ ?_ (fun hHeld => ?_)
        · exact HK.out _ CA
        clear hK K
        try simp only [List.getElem_toArray, List.getElem_cons_succ, List.getElem_cons_zero, Act.put, List.setIfInBounds_toArray, List.set_cons_succ, List.set_cons_zero]
        refine wpAnyH_ready (rs := [10]) (by kernel_rfl) (by simp) ?_
        refine AllReadyH.cons rfl (fun K hK => ?_) AllReadyH.nil
        go_simp
        refine (new_any n me wait more most _ hn0 hn1).mono ?_
        rintro e w1 ⟨b, bt, rfl, H1, hcx, hb1, hbt1⟩
        have C1 := CA.trans hcx
        have hbb := Nat.le_trans CA.size hb1
        have hbbt := Nat.le_trans CA.size hbt1
        have kA1 := hcx.at kA (by simp)
        refine hK.out _ _ ?_ (fun hHeld => ?_)
        · exact HK.out _ C1
        clear hK K
        try simp only [List.getElem_toArray, List.getElem_cons_succ, List.getElem_cons_zero, Act.put, List.setIfInBounds_toArray, List.set_cons_succ, List.set_cons_zero]
        refine wpAnyH_ready (rs := [21]) (by kernel_rfl) (by simp) ?_
        refine AllReadyH.cons rfl (fun K hK => ?_) AllReadyH.nil
        go_simp
        refine (rnew_any n me wait more most _ hn0 hn1).mono ?_
        rintro e w2 ⟨ra, rc, rfl, hcx2⟩
        unfold rnValue
        have C2 := C1.trans hcx2
        have H2 := H1.keep0 hcx2
        have kA2 := hcx2.at kA1 (by simp)
        refine hK.out _ _ ?_ (fun hHeld => ?_)
        · exact HK.out _ C2
        clear hK K
        try simp only [List.getElem_toArray, List.getElem_cons_succ, List.getElem_cons_zero, Act.put, List.setIfInBounds_toArray, List.set_cons_succ, List.set_cons_zero]
        refine wpAnyH_take (i := 23) (v := ?va23_23) rfl (by kernel_rfl) (by kernel_rfl) (by kernel_rfl) (fun _ _ _ h => h) (Or.inl ⟨by rfl, ?ya23_23⟩) (by assumption) ?na23_23
        case ya23_23 => (intro w hSw; (try dsimp only at hSw); go_simp; (try with_reducible rfl))
        try simp only [List.getElem_toArray, List.getElem_cons_succ, List.getElem_cons_zero, Act.put, List.setIfInBounds_toArray, List.set_cons_succ, List.set_cons_zero]
        refine wpAnyH_ready (rs := [24]) (by kernel_rfl) (by simp) ?_
        refine AllReadyH.cons rfl (fun K hK => ?_) AllReadyH.nil
        have c0 : World.cell? _ ⟨W1.heap.size, 0, none⟩ = some (.slice none 0 0) := (cell_of_block kA2 0).trans rfl
        have f0 := free_of_block kA2 0
        have c1 : World.cell? _ ⟨W1.heap.size, 1, none⟩ = some (.int .i64 0) := (cell_of_block kA2 1).trans rfl
        have f1 := free_of_block kA2 1
        have c2 : World.cell? _ ⟨W1.heap.size, 2, none⟩ = some (.int .i64 0) := (cell_of_block kA2 2).trans rfl
        have f2 := free_of_block kA2 2
        have c3 : World.cell? _ ⟨W1.heap.size, 3, none⟩ = some (.int .i64 0) := (cell_of_block kA2 3).trans rfl
        have f3 := free_of_block kA2 3
        have c4 : World.cell? _ ⟨W1.heap.size, 4, none⟩ = some (.int .i64 0) := (cell_of_block kA2 4).trans rfl
        have f4 := free_of_block kA2 4
        have c5 : World.cell? _ ⟨W1.heap.size, 5, none⟩ = some (.int .i64 0) := (cell_of_block kA2 5).trans rfl
        have f5 := free_of_block kA2 5
        go_simp
        have hsep := H2.sep kA2 (by decide) (by decide)
        obtain ⟨kD, hk6⟩ := put6 (v0 := (.slice ra (nN n).toNat rc)) (v1 := (.int .i64 (nMe n me))) (v2 := (.int .i64 (nMore more))) (v3 := (.int .i64 (nMost wait most))) (v4 := (.int .i64 0)) (v5 := (.int .i64 0)) kA2
        have hin : ∀ x ∈ [W1.heap.size], x ∈ ([] : List Nat) ∨ W1.heap.size ≤ x := by intro x hx; simp only [List.mem_singleton] at hx; subst hx; exact .inr hidx
        have CD := C2.then hk6 hin
        have HD := H2.keep hk6 (by simp only [List.mem_singleton]; exact hsep.1) (by simp only [List.mem_singleton]; exact hsep.2)
        clear c0 c1 c2 c3 c4 c5 f0 f1 f2 f3 f4 f5
        refine hK.out _ _ ?_ (fun hHeld => ?_)
        · exact HK.out _ CD
        clear hK K
        try simp only [List.getElem_toArray, List.getElem_cons_succ, List.getElem_cons_zero, Act.put, List.setIfInBounds_toArray, List.set_cons_succ, List.set_cons_zero]
        refine wpAnyH_done (by kernel_rfl) ?_ _
        go_wp2_with fail
        go_meet
        exact ⟨b, bt, W1.heap.size, ra, rc, rfl, rfl, HD, kD, CD, hbb, hbbt, hidx⟩
    case rest =>
      obtain ⟨b, bt, bD, ra, rc, rfl, rfl, H, kD, hcc, hb, hbt, hbD⟩ := hcut
      have cN : wc.cell? ⟨w.heap.size, 2, none⟩ = some (.int .i64 wait) := (HK.out wc hcc).1.2.2.1
      have c0 : wc.cell? ⟨bD, 0, none⟩ = _ := (cell_of_block kD 0).trans rfl
      have c1 : wc.cell? ⟨bD, 1, none⟩ = _ := (cell_of_block kD 1).trans rfl
      have c2 : wc.cell? ⟨bD, 2, none⟩ = _ := (cell_of_block kD 2).trans rfl
      have c3 : wc.cell? ⟨bD, 3, none⟩ = _ := (cell_of_block kD 3).trans rfl
      have c4 : wc.cell? ⟨bD, 4, none⟩ = _ := (cell_of_block kD 4).trans rfl
      have c5 : wc.cell? ⟨bD, 5, none⟩ = _ := (cell_of_block kD 5).trans rfl
      have hNN : (nN n).toNat ≤ 64 := by unfold nN; omega
      have hrof := rof_any ra (nN n).toNat rc (nMe n me) (nMore more) (nMost wait most) p wc hNN
      rw [← new_there n me wait more most p] at hrof
      unfold rnValue at hrof
      have hsz := hc0.size
      have hNlt := lt_of_some kN
      have hcw : Chg [] w wc := hc0.trans hcc
      cases hth : (newB n me wait more most).there p with
      | false =>
        rw [hth] at hrof
        go_wp2_with fail
        refine hrof.mono ?_
        rintro e w2 ⟨rfl, hc2⟩
        go_wp2_with fail
        refine (wait_no p w2 (H.keep0 hc2) hth).mono ?_
        rintro e w' ⟨rfl, rfl⟩
        go_wp2_with fail
        refine (awake_any _).mono ?_
        rintro e w3 ⟨rfl, hc3⟩
        go_wp2_with fail
        go_ret
        exact ⟨rfl, (hcw.trans hc2).trans hc3⟩
      | true =>
        rw [hth] at hrof
        obtain ⟨q, rfl, HF⟩ := fresh_new n me wait more most hth hw1 hw2
        clear hth kD HK
        go_wp2_with fail
        refine hrof.mono ?_
        rintro e w2 ⟨rfl, hc2⟩
        have H2 := H.keep0 hc2
        have cN2 := (hc2.cell (p := ⟨w.heap.size, 2, none⟩) (Nat.lt_of_lt_of_le hNlt hcc.size) (by simp)).trans cN
        have hcw2 := hcw.trans hc2
        have hlc : w.heap.size < w2.heap.size := Nat.lt_of_lt_of_le (Nat.lt_of_lt_of_le hNlt hcc.size) hc2.size
        clear c0 c1 c2 c3 c4 c5 H cN hrof
        generalize newB n me wait more most = D0 at *
        go_wp2_with fail
        go_loopw [11, 12] (fun v i wr => ∃ (k : Nat) (D : BD) (nw : Int), k ≤ l.length ∧ i = .int .i64 k ∧ v = .int .i64 nw ∧ 0 ≤ nw ∧ nw ≤ 1000 * k ∧ fresh D q wait nw ∧ isB wr b bt D ∧ Chg [] w wr ∧ wr.cell? ⟨w.heap.size, 2, none⟩ = some (.int .i64 wait) ∧ w.heap.size < wr.heap.size) (fun _ i _ => l.length - (intOf i).toNat)
        case atStart => exact ⟨0, D0, 0, by omega, rfl, rfl, by omega, by omega, HF, H2, hcw2, cN2, hlc⟩
        case round =>
          obtain ⟨k, D, nw, hk, rfl, rfl, hnw0, hnw1, HFk, HD, hcr, cNr, hlr⟩ := hrel
          have hsub : ∀ x ∈ [b, bt], x ∈ ([] : List Nat) ∨ w.heap.size ≤ x := by intro x hx; simp at hx; omega
          by_cases hlt : k < l.length
          · obtain ⟨x, off, rfl⟩ := hA.addr hlt
            obtain ⟨_, hcell⟩ := (hA.keep0 hcr).at hlt
            obtain ⟨g0, g1⟩ := hG k hlt
            generalize l.getD k 0 = gp at *
            have hgm : 0 ≤ gp % (wait + 1) ∧ gp % (wait + 1) ≤ wait := by
              have := Int.emod_nonneg gp (show wait + 1 ≠ 0 by omega)
              have := Int.emod_lt_of_pos gp (show 0 < wait + 1 by omega)
              omega
            obtain ⟨hgm0, hgm1⟩ := hgm
            have hwn : ¬ wait + 1 = 0 := by omega
            go_upto_region 10 with fail
            go_quiet (fail)
            obtain ⟨g, hg⟩ : ∃ g, gp % (wait + 1) = g := ⟨_, rfl⟩
            rw [hg] at hgm0 hgm1 ⊢
            clear hg hwn g0 g1 hcell
            have HD := HD.keep0 ((Chg.refl [] wr).drewN nq)
            have hcr := hcr.drewN nq
            have cNr : (wr.drewN nq).cell? ⟨w.heap.size, 2, none⟩ = some (.int .i64 wait) := cNr
            have hlr : w.heap.size < (wr.drewN nq).heap.size := hlr
            generalize wr.drewN nq = wr at *
            have hcap : nw + g ≤ 1099511627776 := by omega
            obtain ⟨s1, s2, s3⟩ := HFk.susp hnw0 hgm0 hcap
            obtain ⟨t1, t2⟩ := HFk.step hnw0 hgm0 hgm1 hcap
            have hdf : decide (wait < g) = false := by simp; omega
            rw [hdf] at s3
            have hq1 := t2.hp
            have hq2 := t2.hm
            have hq3 := t2.hw
            have hwr1 : 0 ≤ (D.tell (nw + g)).wrong := by show 0 ≤ D.wrong; rw [HFk.hr]; exact Int.le_refl _
            have hwr2 : (D.tell (nw + g)).wrong ≤ 1000000000 := by show D.wrong ≤ _; rw [HFk.hr]; omega
            have hlen : (D.tell (nw + g)).suspL.length ≤ 1000000 := by have := BD.suspK_len (D.tell (nw + g)) D.len; have := HD.wf.h2; show ((D.tell (nw + g)).suspK D.len).length ≤ _; omega
            have T1 := Lib.hid t1
            have T2 := Lib.hid t2
            have S3 := Lib.hid s3
            have Q3 := Lib.hid hq3
            clear t1 t2 s1 s2 s3 hq3
            try go_upto_region 11 with fail
            have HK11 := Lib.hid (show ∀ w', Chg [b, bt] wr w' → w'.cell? ⟨w.heap.size, 2, none⟩ = some (.int .i64 wait) ∧ Chg [b, bt] wr w' from fun w' hc => ⟨(hc.cell (p := ⟨w.heap.size, 2, none⟩) hlr (by simp; omega)).trans cNr, hc⟩)
            have C0 : Chg [b, bt] wr wr.drew := (Chg.refl _ _).drew
            refine wp_region_held_drew (S := fun w' => w'.cell? ⟨w.heap.size, 2, none⟩ = some (.int .i64 wait) ∧ Chg [b, bt] wr w') (by kernel_rfl) ?_ (fun hHeld => ?_)
            · exact HK11.out _ C0
            refine wpAnyH_take (i := 0) (v := ?vb1_0) rfl (by kernel_rfl) (by kernel_rfl) (by kernel_rfl) (fun _ _ _ h => h) (Or.inl ⟨by rfl, ?yb1_0⟩) (by assumption) ?nb1_0
            case yb1_0 => (intro w hSw; (try dsimp only at hSw); go_simp; (try with_reducible rfl))
            try simp only [List.getElem_toArray, List.getElem_cons_succ, List.getElem_cons_zero, Act.put, List.setIfInBounds_toArray, List.set_cons_succ, List.set_cons_zero]
            refine wpAnyH_take (i := 1) (v := ?vb2_1) rfl (by kernel_rfl) (by kernel_rfl) (by kernel_rfl) (fun _ _ _ h => h) (Or.inl ⟨by rfl, ?yb2_1⟩) (by assumption) ?nb2_1
            case yb2_1 => (intro w hSw; (try dsimp only at hSw); go_simp; (try with_reducible rfl))
            try simp only [List.getElem_toArray, List.getElem_cons_succ, List.getElem_cons_zero, Act.put, List.setIfInBounds_toArray, List.set_cons_succ, List.set_cons_zero]
            refine wpAnyH_take (i := 3) (v := ?vb3_3) rfl (by kernel_rfl) (by kernel_rfl) (by kernel_rfl) (fun _ _ _ h => h) (Or.inl ⟨by rfl, ?yb3_3⟩) (by assumption) ?nb3_3
            case yb3_3 => (intro w hSw; (try dsimp only at hSw); go_simp; (try with_reducible rfl))
            try simp only [List.getElem_toArray, List.getElem_cons_succ, List.getElem_cons_zero, Act.put, List.setIfInBounds_toArray, List.set_cons_succ, List.set_cons_zero]
            refine wpAnyH_ready (rs := [2]) (by kernel_rfl) (by simp) ?_
            refine AllReadyH.cons rfl (fun K hK => ?_) AllReadyH.nil
            go_simp
            refine (suspects_any (nw + g) _ (HD.keep0 (Chg.refl [] _).drew)).mono ?_
            rintro e w3 ⟨ao3, cap3, rfl, i3, H3, hcx3, f3⟩
            have C3 : Chg [b, bt] wr w3 := C0.trans (hcx3.mono (by simp))
            have hin := in_any w3 ao3 (D.tell (nw + g)).suspL cap3 q i3 hlen
            rw [S3.out] at hin
            refine hK.out _ _ ?_ (fun hHeld => ?_)
            · exact HK11.out _ C3
            clear hK K
            try simp only [List.getElem_toArray, List.getElem_cons_succ, List.getElem_cons_zero, Act.put, List.setIfInBounds_toArray, List.set_cons_succ, List.set_cons_zero]
            refine wpAnyH_ready (rs := [4]) (by kernel_rfl) (by simp) ?_
            refine AllReadyH.cons rfl (fun K hK => ?_) AllReadyH.nil
            go_simp
            refine hin.mono ?_
            rintro e w' ⟨rfl, rfl⟩
            refine hK.out _ _ ?_ (fun hHeld => ?_)
            · exact HK11.out _ C3
            clear hK K
            try simp only [List.getElem_toArray, List.getElem_cons_succ, List.getElem_cons_zero, Act.put, List.setIfInBounds_toArray, List.set_cons_succ, List.set_cons_zero]
            refine wpAnyH_take (i := 5) (v := ?vb4_5) rfl (by kernel_rfl) (by kernel_rfl) (by kernel_rfl) (fun _ _ _ h => h) (Or.inl ⟨by rfl, ?yb4_5⟩) (by assumption) ?nb4_5
            case yb4_5 => (intro w hSw; (try dsimp only at hSw); go_simp; (try with_reducible rfl))
            try simp only [List.getElem_toArray, List.getElem_cons_succ, List.getElem_cons_zero, Act.put, List.setIfInBounds_toArray, List.set_cons_succ, List.set_cons_zero]
            refine wpAnyH_take (i := 6) (v := ?vb5_6) rfl (by kernel_rfl) (by kernel_rfl) (by kernel_rfl) (fun _ _ _ h => h) (Or.inl ⟨by rfl, ?yb5_6⟩) (by assumption) ?nb5_6
            case yb5_6 => (intro w hSw; (try dsimp only at hSw); go_simp; (try with_reducible rfl))
            try simp only [List.getElem_toArray, List.getElem_cons_succ, List.getElem_cons_zero, Act.put, List.setIfInBounds_toArray, List.set_cons_succ, List.set_cons_zero]
            refine wpAnyH_take (i := 7) (v := ?vb6_7) rfl (by kernel_rfl) (by kernel_rfl) (by kernel_rfl) (fun _ _ _ h => h) (Or.inl ⟨by rfl, ?yb6_7⟩) (by assumption) ?nb6_7
            case yb6_7 => (intro w hSw; (try dsimp only at hSw); go_simp; (try with_reducible rfl))
            try simp only [List.getElem_toArray, List.getElem_cons_succ, List.getElem_cons_zero, Act.put, List.setIfInBounds_toArray, List.set_cons_succ, List.set_cons_zero]
            refine wpAnyH_take (i := 8) (v := ?vb7_8) rfl (by kernel_rfl) (by kernel_rfl) (by kernel_rfl) (fun _ _ _ h => h) (Or.inl ⟨by rfl, ?yb7_8⟩) (by assumption) ?nb7_8
            case yb7_8 => (intro w hSw; (try dsimp only at hSw); go_simp; (try with_reducible rfl))
            try simp only [List.getElem_toArray, List.getElem_cons_succ, List.getElem_cons_zero, Act.put, List.setIfInBounds_toArray, List.set_cons_succ, List.set_cons_zero]
            refine wpAnyH_ready (rs := [9]) (by kernel_rfl) (by simp) ?_
            refine AllReadyH.cons rfl (fun K hK => ?_) AllReadyH.nil
            go_simp
            have kk := block_new w' (.cells #[.int .i64 (q : Int)] 3)
            have hca := (Chg.refl [] w').alloc (.cells #[.int .i64 (q : Int)] 3)
            have C4 := C3.alloc (.cells #[.int .i64 (q : Int)] 3)
            refine hK.out _ _ ?_ (fun hHeld => ?_)
            · exact HK11.out _ C4
            clear hK K
            try simp only [List.getElem_toArray, List.getElem_cons_succ, List.getElem_cons_zero, Act.put, List.setIfInBounds_toArray, List.set_cons_succ, List.set_cons_zero]
            refine wpAnyH_ready (rs := [10]) (by kernel_rfl) (by simp) ?_
            refine AllReadyH.cons rfl (fun K hK => ?_) AllReadyH.nil
            go_simp
            have hls := lt_of_some H3.hb
            have hlt3 := H3.ty.lt
            have hh := heard_any (nw + g) (some ⟨w'.heap.size, 0, none⟩) [(q : Int)] 1 _ (H3.keep0 hca) (block_ints (k := .i64) (l := [(q : Int)]) kk) (by simp) (by intro y off e; simp only [Option.some.injEq, Addr.mk.injEq, and_true] at e; obtain ⟨rfl, _⟩ := e; exact ⟨by omega, by omega⟩) hwr1 hwr2
            rw [T1.out] at hh
            refine hh.mono ?_
            rintro e w5 ⟨rfl, H5, hcx5⟩
            have C5 := C4.trans hcx5
            refine hK.out _ _ ?_ (fun hHeld => ?_)
            · exact HK11.out _ C5
            clear hK K
            try simp only [List.getElem_toArray, List.getElem_cons_succ, List.getElem_cons_zero, Act.put, List.setIfInBounds_toArray, List.set_cons_succ, List.set_cons_zero]
            refine wpAnyH_take (i := 11) (v := ?vb8_11) rfl (by kernel_rfl) (by kernel_rfl) (by kernel_rfl) (fun _ _ _ h => h) (Or.inl ⟨by rfl, ?yb8_11⟩) (by assumption) ?nb8_11
            case yb8_11 => (intro w hSw; (try dsimp only at hSw); go_simp; (try with_reducible rfl))
            try simp only [List.getElem_toArray, List.getElem_cons_succ, List.getElem_cons_zero, Act.put, List.setIfInBounds_toArray, List.set_cons_succ, List.set_cons_zero]
            refine wpAnyH_take (i := 12) (v := ?vb9_12) rfl (by kernel_rfl) (by kernel_rfl) (by kernel_rfl) (fun _ _ _ h => h) (Or.inl ⟨by rfl, ?yb9_12⟩) (by assumption) ?nb9_12
            case yb9_12 => (intro w hSw; (try dsimp only at hSw); go_simp; (try with_reducible rfl))
            try simp only [List.getElem_toArray, List.getElem_cons_succ, List.getElem_cons_zero, Act.put, List.setIfInBounds_toArray, List.set_cons_succ, List.set_cons_zero]
            refine wpAnyH_take (i := 13) (v := ?vb10_13) rfl (by kernel_rfl) (by kernel_rfl) (by kernel_rfl) (fun _ _ _ h => h) (Or.inl ⟨by rfl, ?yb10_13⟩) (by assumption) ?nb10_13
            case yb10_13 => (intro w hSw; (try dsimp only at hSw); go_simp; (try with_reducible rfl))
            try simp only [List.getElem_toArray, List.getElem_cons_succ, List.getElem_cons_zero, Act.put, List.setIfInBounds_toArray, List.set_cons_succ, List.set_cons_zero]
            refine wpAnyH_take (i := 14) (v := ?vb11_14) rfl (by kernel_rfl) (by kernel_rfl) (by kernel_rfl) (fun _ _ _ h => h) (Or.inl ⟨by rfl, ?yb11_14⟩) (by assumption) ?nb11_14
            case yb11_14 => (intro w hSw; (try dsimp only at hSw); go_simp; (try with_reducible rfl))
            try simp only [List.getElem_toArray, List.getElem_cons_succ, List.getElem_cons_zero, Act.put, List.setIfInBounds_toArray, List.set_cons_succ, List.set_cons_zero]
            refine wpAnyH_take (i := 15) (v := ?vb12_15) rfl (by kernel_rfl) (by kernel_rfl) (by kernel_rfl) (fun _ _ _ h => h) (Or.inl ⟨by rfl, ?yb12_15⟩) (by assumption) ?nb12_15
            case yb12_15 => (intro w hSw; (try dsimp only at hSw); go_simp; (try with_reducible rfl))
            try simp only [List.getElem_toArray, List.getElem_cons_succ, List.getElem_cons_zero, Act.put, List.setIfInBounds_toArray, List.set_cons_succ, List.set_cons_zero]
            refine wpAnyH_take (i := 17) (v := ?vb13_17) rfl (by kernel_rfl) (by kernel_rfl) (by kernel_rfl) (fun _ _ _ h => h) (Or.inl ⟨by rfl, ?yb13_17⟩) (by assumption) ?nb13_17
            case yb13_17 => (intro w hSw; (try dsimp only at hSw); go_simp; (try with_reducible rfl))
            try simp only [List.getElem_toArray, List.getElem_cons_succ, List.getElem_cons_zero, Act.put, List.setIfInBounds_toArray, List.set_cons_succ, List.set_cons_zero]
            refine wpAnyH_take (i := 18) (v := ?vb14_18) rfl (by kernel_rfl) (by kernel_rfl) (by kernel_rfl) (fun _ _ _ h => h) (Or.inl ⟨by rfl, ?yb14_18⟩) (by assumption) ?nb14_18
            case yb14_18 => (intro w hSw; (try dsimp only at hSw); go_simp; (try with_reducible rfl))
            try simp only [List.getElem_toArray, List.getElem_cons_succ, List.getElem_cons_zero, Act.put, List.setIfInBounds_toArray, List.set_cons_succ, List.set_cons_zero]
            refine wpAnyH_ready (rs := [16]) (by kernel_rfl) (by simp) ?_
            refine AllReadyH.cons rfl (fun K hK => ?_) AllReadyH.nil
            go_simp
            have hwt := wait_yes w5 H5 hq1 hq2
            rw [Q3.out] at hwt
            refine hwt.mono ?_
            rintro e w' ⟨rfl, rfl⟩
            refine hK.out _ _ ?_ (fun hHeld => ?_)
            · exact HK11.out _ C5
            clear hK K
            try simp only [List.getElem_toArray, List.getElem_cons_succ, List.getElem_cons_zero, Act.put, List.setIfInBounds_toArray, List.set_cons_succ, List.set_cons_zero]
            refine wpAnyH_take (i := 19) (v := ?vb15_19) rfl (by kernel_rfl) (by kernel_rfl) (by kernel_rfl) (fun _ _ _ h => h) (Or.inl ⟨by rfl, ?yb15_19⟩) (by assumption) ?nb15_19
            case yb15_19 => (intro w hSw; (try dsimp only at hSw); go_simp; (try with_reducible rfl))
            try simp only [List.getElem_toArray, List.getElem_cons_succ, List.getElem_cons_zero, Act.put, List.setIfInBounds_toArray, List.set_cons_succ, List.set_cons_zero]
            refine wpAnyH_take (i := 20) (v := ?vb16_20) rfl (by kernel_rfl) (by kernel_rfl) (by kernel_rfl) (fun _ _ _ h => h) (Or.inl ⟨by rfl, ?yb16_20⟩) (by assumption) ?nb16_20
            case yb16_20 => (intro w hSw; (try dsimp only at hSw); go_simp; (try with_reducible rfl))
            try simp only [List.getElem_toArray, List.getElem_cons_succ, List.getElem_cons_zero, Act.put, List.setIfInBounds_toArray, List.set_cons_succ, List.set_cons_zero]
            refine wpAnyH_done (by kernel_rfl) ?_ _
            
            go_wp2_with fail
            go_roundw
            case rel => exact ⟨k + 1, _, nw + g, by omega, by go_num, rfl, by omega, by omega, T2.out, H5, hcr.then C5 hsub, hHeld.1, Nat.lt_of_lt_of_le hlr C5.size⟩
            case measure => simp [intOf]; omega
          · have hcap : nw + behind ≤ 1099511627776 := by omega
            have hwp1 : IntKind.i64.wrap behind = behind := by rw [IntKind.wrap_i64]; omega
            have hwp2 : IntKind.i64.wrap (nw + behind) = nw + behind := by rw [IntKind.wrap_i64]; omega
            obtain ⟨s1, s2, s3⟩ := HFk.susp hnw0 hb0 hcap
            have hlen : (D.tell (nw + behind)).suspL.length ≤ 1000000 := by have := BD.suspK_len (D.tell (nw + behind)) D.len; have := HD.wf.h2; show ((D.tell (nw + behind)).suspK D.len).length ≤ _; omega
            have HK11 := Lib.hid (show ∀ w', Chg [b, bt] wr w' → w'.cell? ⟨w.heap.size, 2, none⟩ = some (.int .i64 wait) ∧ Chg [b, bt] wr w' from fun w' hc => ⟨(hc.cell (p := ⟨w.heap.size, 2, none⟩) hlr (by simp; omega)).trans cNr, hc⟩)
            cases hbb : decide (wait < behind) with
            | true =>
              rw [hbb] at s3
              have S3 := Lib.hid s3
              clear s1 s2 s3
              go_upto_region 13 with fail
              have C0 : Chg [b, bt] wr wr.drew := (Chg.refl _ _).drew
              refine wp_region_held_drew (S := fun w' => w'.cell? ⟨w.heap.size, 2, none⟩ = some (.int .i64 wait) ∧ Chg [b, bt] wr w') (by kernel_rfl) ?_ (fun hHeld => ?_)
              · exact HK11.out _ C0
              refine wpAnyH_take (i := 0) (v := ?vct1_0) rfl (by kernel_rfl) (by kernel_rfl) (by kernel_rfl) (fun _ _ _ h => h) (Or.inl ⟨by rfl, ?yct1_0⟩) (by assumption) ?nct1_0
              case yct1_0 => (intro w hSw; (try dsimp only at hSw); go_simp; (try with_reducible rfl))
              try simp only [List.getElem_toArray, List.getElem_cons_succ, List.getElem_cons_zero, Act.put, List.setIfInBounds_toArray, List.set_cons_succ, List.set_cons_zero]
              refine wpAnyH_take (i := 1) (v := ?vct2_1) rfl (by kernel_rfl) (by kernel_rfl) (by kernel_rfl) (fun _ _ _ h => h) (Or.inl ⟨by rfl, ?yct2_1⟩) (by assumption) ?nct2_1
              case yct2_1 => (intro w hSw; (try dsimp only at hSw); go_simp; (try with_reducible rfl))
              try simp only [List.getElem_toArray, List.getElem_cons_succ, List.getElem_cons_zero, Act.put, List.setIfInBounds_toArray, List.set_cons_succ, List.set_cons_zero]
              refine wpAnyH_take (i := 2) (v := ?vct3_2) rfl (by kernel_rfl) (by kernel_rfl) (by kernel_rfl) (fun _ _ _ h => h) (Or.inl ⟨by rfl, ?yct3_2⟩) (by assumption) ?nct3_2
              case yct3_2 => (intro w hSw; (try dsimp only at hSw); go_simp; (try with_reducible rfl))
              try simp only [List.getElem_toArray, List.getElem_cons_succ, List.getElem_cons_zero, Act.put, List.setIfInBounds_toArray, List.set_cons_succ, List.set_cons_zero]
              refine wpAnyH_take (i := 3) (v := ?vct4_3) rfl (by kernel_rfl) (by kernel_rfl) (by kernel_rfl) (fun _ _ _ h => h) (Or.inl ⟨by rfl, ?yct4_3⟩) (by assumption) ?nct4_3
              case yct4_3 => (intro w hSw; (try dsimp only at hSw); go_simp; (try with_reducible rfl))
              try simp only [List.getElem_toArray, List.getElem_cons_succ, List.getElem_cons_zero, Act.put, List.setIfInBounds_toArray, List.set_cons_succ, List.set_cons_zero]
              refine wpAnyH_take (i := 4) (v := ?vct5_4) rfl (by kernel_rfl) (by kernel_rfl) (by kernel_rfl) (fun _ _ _ h => h) (Or.inl ⟨by rfl, ?yct5_4⟩) (by assumption) ?nct5_4
              case yct5_4 => (intro w hSw; (try dsimp only at hSw); go_simp; (try with_reducible rfl))
              try simp only [List.getElem_toArray, List.getElem_cons_succ, List.getElem_cons_zero, Act.put, List.setIfInBounds_toArray, List.set_cons_succ, List.set_cons_zero]
              refine wpAnyH_take (i := 6) (v := ?vct6_6) rfl (by kernel_rfl) (by kernel_rfl) (by kernel_rfl) (fun _ _ _ h => h) (Or.inl ⟨by rfl, ?yct6_6⟩) (by assumption) ?nct6_6
              case yct6_6 => (intro w hSw; (try dsimp only at hSw); go_simp; (try with_reducible rfl))
              try simp only [List.getElem_toArray, List.getElem_cons_succ, List.getElem_cons_zero, Act.put, List.setIfInBounds_toArray, List.set_cons_succ, List.set_cons_zero]
              refine wpAnyH_take (i := 8) (v := ?vct7_8) rfl (by kernel_rfl) (by kernel_rfl) (by kernel_rfl) (fun _ _ _ h => h) (Or.inl ⟨by rfl, ?yct7_8⟩) (by assumption) ?nct7_8
              case yct7_8 => (intro w hSw; (try dsimp only at hSw); go_simp; (try with_reducible rfl))
              try simp only [List.getElem_toArray, List.getElem_cons_succ, List.getElem_cons_zero, Act.put, List.setIfInBounds_toArray, List.set_cons_succ, List.set_cons_zero]
              refine wpAnyH_take (i := 9) (v := ?vct8_9) rfl (by kernel_rfl) (by kernel_rfl) (by kernel_rfl) (fun _ _ _ h => h) (Or.inl ⟨by rfl, ?yct8_9⟩) (by assumption) ?nct8_9
              case yct8_9 => (intro w hSw; (try dsimp only at hSw); go_simp; (try with_reducible rfl))
              try simp only [List.getElem_toArray, List.getElem_cons_succ, List.getElem_cons_zero, Act.put, List.setIfInBounds_toArray, List.set_cons_succ, List.set_cons_zero]
              refine wpAnyH_take (i := 10) (v := ?vct9_10) rfl (by kernel_rfl) (by kernel_rfl) (by kernel_rfl) (fun _ _ _ h => h) (Or.inl ⟨by rfl, ?yct9_10⟩) (by assumption) ?nct9_10
              case yct9_10 => (intro w hSw; (try dsimp only at hSw); go_simp; (try with_reducible rfl))
              try simp only [List.getElem_toArray, List.getElem_cons_succ, List.getElem_cons_zero, Act.put, List.setIfInBounds_toArray, List.set_cons_succ, List.set_cons_zero]
              refine wpAnyH_take (i := 11) (v := ?vct10_11) rfl (by kernel_rfl) (by kernel_rfl) (by kernel_rfl) (fun _ _ _ h => h) (Or.inl ⟨by rfl, ?yct10_11⟩) (by assumption) ?nct10_11
              case yct10_11 => (intro w hSw; (try dsimp only at hSw); go_simp; (try with_reducible rfl))
              try simp only [List.getElem_toArray, List.getElem_cons_succ, List.getElem_cons_zero, Act.put, List.setIfInBounds_toArray, List.set_cons_succ, List.set_cons_zero]
              refine wpAnyH_take (i := 12) (v := ?vct11_12) rfl (by kernel_rfl) (by kernel_rfl) (by kernel_rfl) (fun _ _ _ h => h) (Or.inl ⟨by rfl, ?yct11_12⟩) (by assumption) ?nct11_12
              case yct11_12 => (intro w hSw; (try dsimp only at hSw); go_simp; (try with_reducible rfl))
              try simp only [List.getElem_toArray, List.getElem_cons_succ, List.getElem_cons_zero, Act.put, List.setIfInBounds_toArray, List.set_cons_succ, List.set_cons_zero]
              refine wpAnyH_ready (rs := [5]) (by kernel_rfl) (by simp) ?_
              refine AllReadyH.cons rfl (fun K hK => ?_) AllReadyH.nil
              go_simp
              refine (suspects_any (nw + behind) _ (HD.keep0 (Chg.refl [] _).drew)).mono ?_
              rintro e w3 ⟨ao3, cap3, rfl, i3, H3, hcx3, f3⟩
              have C3 : Chg [b, bt] wr w3 := C0.trans (hcx3.mono (by simp))
              have hin := in_any w3 ao3 (D.tell (nw + behind)).suspL cap3 q i3 hlen
              rw [S3.out] at hin
              refine hK.out _ _ ?_ (fun hHeld => ?_)
              · exact HK11.out _ C3
              clear hK K
              try simp only [List.getElem_toArray, List.getElem_cons_succ, List.getElem_cons_zero, Act.put, List.setIfInBounds_toArray, List.set_cons_succ, List.set_cons_zero]
              refine wpAnyH_ready (rs := [7]) (by kernel_rfl) (by simp) ?_
              refine AllReadyH.cons rfl (fun K hK => ?_) AllReadyH.nil
              go_simp
              refine hin.mono ?_
              rintro e w' ⟨rfl, rfl⟩
              refine hK.out _ _ ?_ (fun hHeld => ?_)
              · exact HK11.out _ C3
              clear hK K
              try simp only [List.getElem_toArray, List.getElem_cons_succ, List.getElem_cons_zero, Act.put, List.setIfInBounds_toArray, List.set_cons_succ, List.set_cons_zero]
              refine wpAnyH_take (i := 13) (v := ?vct12_13) rfl (by kernel_rfl) (by kernel_rfl) (by kernel_rfl) (fun _ _ _ h => h) (Or.inl ⟨by rfl, ?yct12_13⟩) (by assumption) ?nct12_13
              case yct12_13 => (intro w hSw; (try dsimp only at hSw); go_simp; (try with_reducible rfl))
              try simp only [List.getElem_toArray, List.getElem_cons_succ, List.getElem_cons_zero, Act.put, List.setIfInBounds_toArray, List.set_cons_succ, List.set_cons_zero]
              refine wpAnyH_take (i := 14) (v := ?vct13_14) rfl (by kernel_rfl) (by kernel_rfl) (by kernel_rfl) (fun _ _ _ h => h) (Or.inl ⟨by rfl, ?yct13_14⟩) (by assumption) ?nct13_14
              case yct13_14 => (intro w hSw; (try dsimp only at hSw); go_simp; (try with_reducible rfl))
              try simp only [List.getElem_toArray, List.getElem_cons_succ, List.getElem_cons_zero, Act.put, List.setIfInBounds_toArray, List.set_cons_succ, List.set_cons_zero]
              refine wpAnyH_ready (rs := [15]) (by kernel_rfl) (by simp) ?_
              refine AllReadyH.cons rfl (fun K hK => ?_) AllReadyH.nil
              go_simp
              refine (awake_any _).mono ?_
              rintro e w6 ⟨rfl, hc6⟩
              have C6 := C3.trans (hc6.mono (by simp))
              refine hK.out _ _ ?_ (fun hHeld => ?_)
              · exact HK11.out _ C6
              clear hK K
              try simp only [List.getElem_toArray, List.getElem_cons_succ, List.getElem_cons_zero, Act.put, List.setIfInBounds_toArray, List.set_cons_succ, List.set_cons_zero]
              refine wpAnyH_take (i := 16) (v := ?vct14_16) rfl (by kernel_rfl) (by kernel_rfl) (by kernel_rfl) (fun _ _ _ h => h) (Or.inl ⟨by rfl, ?yct14_16⟩) (by assumption) ?nct14_16
              case yct14_16 => (intro w hSw; (try dsimp only at hSw); go_simp; (try with_reducible rfl))
              try simp only [List.getElem_toArray, List.getElem_cons_succ, List.getElem_cons_zero, Act.put, List.setIfInBounds_toArray, List.set_cons_succ, List.set_cons_zero]
              refine wpAnyH_take (i := 17) (v := ?vct15_17) rfl (by kernel_rfl) (by kernel_rfl) (by kernel_rfl) (fun _ _ _ h => h) (Or.inl ⟨by rfl, ?yct15_17⟩) (by assumption) ?nct15_17
              case yct15_17 => (intro w hSw; (try dsimp only at hSw); go_simp; (try with_reducible rfl))
              try simp only [List.getElem_toArray, List.getElem_cons_succ, List.getElem_cons_zero, Act.put, List.setIfInBounds_toArray, List.set_cons_succ, List.set_cons_zero]
              refine wpAnyH_done (by kernel_rfl) ?_ _
              go_wp2_with fail
              go_ret
              exact ⟨rfl, hcr.then C6 hsub⟩
            | false =>
              rw [hbb] at s3
              have S3 := Lib.hid s3
              clear s1 s2 s3
              go_upto_region 13 with fail
              have C0 : Chg [b, bt] wr wr.drew := (Chg.refl _ _).drew
              refine wp_region_held_drew (S := fun w' => w'.cell? ⟨w.heap.size, 2, none⟩ = some (.int .i64 wait) ∧ Chg [b, bt] wr w') (by kernel_rfl) ?_ (fun hHeld => ?_)
              · exact HK11.out _ C0
              refine wpAnyH_take (i := 0) (v := ?vcf1_0) rfl (by kernel_rfl) (by kernel_rfl) (by kernel_rfl) (fun _ _ _ h => h) (Or.inl ⟨by rfl, ?ycf1_0⟩) (by assumption) ?ncf1_0
              case ycf1_0 => (intro w hSw; (try dsimp only at hSw); go_simp; (try with_reducible rfl))
              try simp only [List.getElem_toArray, List.getElem_cons_succ, List.getElem_cons_zero, Act.put, List.setIfInBounds_toArray, List.set_cons_succ, List.set_cons_zero]
              refine wpAnyH_take (i := 1) (v := ?vcf2_1) rfl (by kernel_rfl) (by kernel_rfl) (by kernel_rfl) (fun _ _ _ h => h) (Or.inl ⟨by rfl, ?ycf2_1⟩) (by assumption) ?ncf2_1
              case ycf2_1 => (intro w hSw; (try dsimp only at hSw); go_simp; (try with_reducible rfl))
              try simp only [List.getElem_toArray, List.getElem_cons_succ, List.getElem_cons_zero, Act.put, List.setIfInBounds_toArray, List.set_cons_succ, List.set_cons_zero]
              refine wpAnyH_take (i := 2) (v := ?vcf3_2) rfl (by kernel_rfl) (by kernel_rfl) (by kernel_rfl) (fun _ _ _ h => h) (Or.inl ⟨by rfl, ?ycf3_2⟩) (by assumption) ?ncf3_2
              case ycf3_2 => (intro w hSw; (try dsimp only at hSw); go_simp; (try with_reducible rfl))
              try simp only [List.getElem_toArray, List.getElem_cons_succ, List.getElem_cons_zero, Act.put, List.setIfInBounds_toArray, List.set_cons_succ, List.set_cons_zero]
              refine wpAnyH_take (i := 3) (v := ?vcf4_3) rfl (by kernel_rfl) (by kernel_rfl) (by kernel_rfl) (fun _ _ _ h => h) (Or.inl ⟨by rfl, ?ycf4_3⟩) (by assumption) ?ncf4_3
              case ycf4_3 => (intro w hSw; (try dsimp only at hSw); go_simp; (try with_reducible rfl))
              try simp only [List.getElem_toArray, List.getElem_cons_succ, List.getElem_cons_zero, Act.put, List.setIfInBounds_toArray, List.set_cons_succ, List.set_cons_zero]
              refine wpAnyH_take (i := 4) (v := ?vcf5_4) rfl (by kernel_rfl) (by kernel_rfl) (by kernel_rfl) (fun _ _ _ h => h) (Or.inl ⟨by rfl, ?ycf5_4⟩) (by assumption) ?ncf5_4
              case ycf5_4 => (intro w hSw; (try dsimp only at hSw); go_simp; (try with_reducible rfl))
              try simp only [List.getElem_toArray, List.getElem_cons_succ, List.getElem_cons_zero, Act.put, List.setIfInBounds_toArray, List.set_cons_succ, List.set_cons_zero]
              refine wpAnyH_take (i := 6) (v := ?vcf6_6) rfl (by kernel_rfl) (by kernel_rfl) (by kernel_rfl) (fun _ _ _ h => h) (Or.inl ⟨by rfl, ?ycf6_6⟩) (by assumption) ?ncf6_6
              case ycf6_6 => (intro w hSw; (try dsimp only at hSw); go_simp; (try with_reducible rfl))
              try simp only [List.getElem_toArray, List.getElem_cons_succ, List.getElem_cons_zero, Act.put, List.setIfInBounds_toArray, List.set_cons_succ, List.set_cons_zero]
              refine wpAnyH_take (i := 8) (v := ?vcf7_8) rfl (by kernel_rfl) (by kernel_rfl) (by kernel_rfl) (fun _ _ _ h => h) (Or.inl ⟨by rfl, ?ycf7_8⟩) (by assumption) ?ncf7_8
              case ycf7_8 => (intro w hSw; (try dsimp only at hSw); go_simp; (try with_reducible rfl))
              try simp only [List.getElem_toArray, List.getElem_cons_succ, List.getElem_cons_zero, Act.put, List.setIfInBounds_toArray, List.set_cons_succ, List.set_cons_zero]
              refine wpAnyH_take (i := 9) (v := ?vcf8_9) rfl (by kernel_rfl) (by kernel_rfl) (by kernel_rfl) (fun _ _ _ h => h) (Or.inl ⟨by rfl, ?ycf8_9⟩) (by assumption) ?ncf8_9
              case ycf8_9 => (intro w hSw; (try dsimp only at hSw); go_simp; (try with_reducible rfl))
              try simp only [List.getElem_toArray, List.getElem_cons_succ, List.getElem_cons_zero, Act.put, List.setIfInBounds_toArray, List.set_cons_succ, List.set_cons_zero]
              refine wpAnyH_take (i := 10) (v := ?vcf9_10) rfl (by kernel_rfl) (by kernel_rfl) (by kernel_rfl) (fun _ _ _ h => h) (Or.inl ⟨by rfl, ?ycf9_10⟩) (by assumption) ?ncf9_10
              case ycf9_10 => (intro w hSw; (try dsimp only at hSw); go_simp; (try with_reducible rfl))
              try simp only [List.getElem_toArray, List.getElem_cons_succ, List.getElem_cons_zero, Act.put, List.setIfInBounds_toArray, List.set_cons_succ, List.set_cons_zero]
              refine wpAnyH_take (i := 11) (v := ?vcf10_11) rfl (by kernel_rfl) (by kernel_rfl) (by kernel_rfl) (fun _ _ _ h => h) (Or.inl ⟨by rfl, ?ycf10_11⟩) (by assumption) ?ncf10_11
              case ycf10_11 => (intro w hSw; (try dsimp only at hSw); go_simp; (try with_reducible rfl))
              try simp only [List.getElem_toArray, List.getElem_cons_succ, List.getElem_cons_zero, Act.put, List.setIfInBounds_toArray, List.set_cons_succ, List.set_cons_zero]
              refine wpAnyH_take (i := 12) (v := ?vcf11_12) rfl (by kernel_rfl) (by kernel_rfl) (by kernel_rfl) (fun _ _ _ h => h) (Or.inl ⟨by rfl, ?ycf11_12⟩) (by assumption) ?ncf11_12
              case ycf11_12 => (intro w hSw; (try dsimp only at hSw); go_simp; (try with_reducible rfl))
              try simp only [List.getElem_toArray, List.getElem_cons_succ, List.getElem_cons_zero, Act.put, List.setIfInBounds_toArray, List.set_cons_succ, List.set_cons_zero]
              refine wpAnyH_ready (rs := [5]) (by kernel_rfl) (by simp) ?_
              refine AllReadyH.cons rfl (fun K hK => ?_) AllReadyH.nil
              go_simp
              refine (suspects_any (nw + behind) _ (HD.keep0 (Chg.refl [] _).drew)).mono ?_
              rintro e w3 ⟨ao3, cap3, rfl, i3, H3, hcx3, f3⟩
              have C3 : Chg [b, bt] wr w3 := C0.trans (hcx3.mono (by simp))
              have hin := in_any w3 ao3 (D.tell (nw + behind)).suspL cap3 q i3 hlen
              rw [S3.out] at hin
              refine hK.out _ _ ?_ (fun hHeld => ?_)
              · exact HK11.out _ C3
              clear hK K
              try simp only [List.getElem_toArray, List.getElem_cons_succ, List.getElem_cons_zero, Act.put, List.setIfInBounds_toArray, List.set_cons_succ, List.set_cons_zero]
              refine wpAnyH_ready (rs := [7]) (by kernel_rfl) (by simp) ?_
              refine AllReadyH.cons rfl (fun K hK => ?_) AllReadyH.nil
              go_simp
              refine hin.mono ?_
              rintro e w' ⟨rfl, rfl⟩
              refine hK.out _ _ ?_ (fun hHeld => ?_)
              · exact HK11.out _ C3
              clear hK K
              try simp only [List.getElem_toArray, List.getElem_cons_succ, List.getElem_cons_zero, Act.put, List.setIfInBounds_toArray, List.set_cons_succ, List.set_cons_zero]
              refine wpAnyH_take (i := 13) (v := ?vcf12_13) rfl (by kernel_rfl) (by kernel_rfl) (by kernel_rfl) (fun _ _ _ h => h) (Or.inl ⟨by rfl, ?ycf12_13⟩) (by assumption) ?ncf12_13
              case ycf12_13 => (intro w hSw; (try dsimp only at hSw); go_simp; (try with_reducible rfl))
              try simp only [List.getElem_toArray, List.getElem_cons_succ, List.getElem_cons_zero, Act.put, List.setIfInBounds_toArray, List.set_cons_succ, List.set_cons_zero]
              refine wpAnyH_take (i := 14) (v := ?vcf13_14) rfl (by kernel_rfl) (by kernel_rfl) (by kernel_rfl) (fun _ _ _ h => h) (Or.inl ⟨by rfl, ?ycf13_14⟩) (by assumption) ?ncf13_14
              case ycf13_14 => (intro w hSw; (try dsimp only at hSw); go_simp; (try with_reducible rfl))
              try simp only [List.getElem_toArray, List.getElem_cons_succ, List.getElem_cons_zero, Act.put, List.setIfInBounds_toArray, List.set_cons_succ, List.set_cons_zero]
              refine wpAnyH_ready (rs := [15]) (by kernel_rfl) (by simp) ?_
              refine AllReadyH.cons rfl (fun K hK => ?_) AllReadyH.nil
              go_simp
              refine (awake_any _).mono ?_
              rintro e w6 ⟨rfl, hc6⟩
              have C6 := C3.trans (hc6.mono (by simp))
              refine hK.out _ _ ?_ (fun hHeld => ?_)
              · exact HK11.out _ C6
              clear hK K
              try simp only [List.getElem_toArray, List.getElem_cons_succ, List.getElem_cons_zero, Act.put, List.setIfInBounds_toArray, List.set_cons_succ, List.set_cons_zero]
              refine wpAnyH_take (i := 16) (v := ?vcf14_16) rfl (by kernel_rfl) (by kernel_rfl) (by kernel_rfl) (fun _ _ _ h => h) (Or.inl ⟨by rfl, ?ycf14_16⟩) (by assumption) ?ncf14_16
              case ycf14_16 => (intro w hSw; (try dsimp only at hSw); go_simp; (try with_reducible rfl))
              try simp only [List.getElem_toArray, List.getElem_cons_succ, List.getElem_cons_zero, Act.put, List.setIfInBounds_toArray, List.set_cons_succ, List.set_cons_zero]
              refine wpAnyH_take (i := 17) (v := ?vcf15_17) rfl (by kernel_rfl) (by kernel_rfl) (by kernel_rfl) (fun _ _ _ h => h) (Or.inl ⟨by rfl, ?ycf15_17⟩) (by assumption) ?ncf15_17
              case ycf15_17 => (intro w hSw; (try dsimp only at hSw); go_simp; (try with_reducible rfl))
              try simp only [List.getElem_toArray, List.getElem_cons_succ, List.getElem_cons_zero, Act.put, List.setIfInBounds_toArray, List.set_cons_succ, List.set_cons_zero]
              refine wpAnyH_done (by kernel_rfl) ?_ _
              go_wp2_with fail
              go_ret
              exact ⟨rfl, hcr.then C6 hsub⟩

theorem beatHeard_lifted (os : Os) (started : os.Started) (H : Type) (enc : TypeId × Value → H) :
    ReturnsInHanded {} Try.checked os 3 .any (Rows.beatHeardSpec.pre6 enc Try.prog Try.f3 Rows.beatHeardRow.domain false) (Rows.beatHeardSpec.post enc Try.prog Try.f3 false true false false) := by
  refine law_lifted (C := Try.checked) (tb := 4) (by kernel_rfl) (by kernel_rfl) Try.func3 rfl (fun H ds h => ?_) rfl Try.underlying4 (by kernel_rfl) (by decide +kernel) os started H enc
    (ChangeSpec.witness6 (enc := enc) (C := Try.checked) false ⟨#[], #[.agg #[.int .i64 0, .int .i64 0, .int .i64 0, .int .i64 0, .int .i64 0], .int .i64 0, .slice none 0 0, .int .u16 0], []⟩ 8 (by kernel_rfl) (by kernel_rfl) (by kernel_rfl) (by kernel_rfl)) ?_
  · match ds, h with | [a, b, c, d], _ => rfl
  · intro W base args ha hv
    obtain ⟨v0, v1, v2, v3, rfl⟩ : ∃ v0 v1 v2 v3, args = [v0, v1, v2, v3] := by match args, ha with | [a, b, c, d], _ => exact ⟨a, b, c, d, rfl⟩
    obtain ⟨n, me, wait, more, most, rfl, g1, g2, g3, g4⟩ := nums_of (hv 0 23 v0 rfl rfl)
    obtain ⟨p, rfl, _⟩ := arg_int Try.underlying3 (hv 1 3 v1 rfl rfl)
    obtain ⟨ao, l, cap, rfl, hl, hA, hG⟩ := gaps_of (hv 2 24 v2 rfl rfl)
    obtain ⟨bh, rfl, wb⟩ := arg_int Try.underlying25 (hv 3 25 v3 rfl rfl)
    have b1 := bounds_u16 wb
    by_cases he : 100 < l.length ∨ wait < 1 ∨ 1000 < wait
    · exact (hwalk_early n me wait more most p bh ao l cap W he hl).mono fun e W' ⟨h1, h2⟩ => ⟨h1, h2.below⟩
    · exact (hwalk n me wait more most p bh ao l cap W (by omega) (by omega) (by omega) g1 g2 (by omega) (by omega) hA hG).mono fun e W' ⟨h1, h2⟩ => ⟨h1, h2.below⟩

theorem beatHeard_holds : Rows.BeatHeardSaid :=
  OpenClaim.holds_of_wide 3 Try.f3 rfl rfl rfl rfl rfl rfl rfl ⟨rfl, rfl, rfl, rfl, rfl⟩ rfl rfl rfl rfl rfl (by kernel_rfl) Try.func3 (by kernel_rfl)
    (of_decide_eq_true (by kernel_rfl)) (by unfold Func.isWrapper; first | (rw [if_pos (by decide +kernel)]; kernel_rfl) | (rw [if_neg (by decide +kernel)]; exact ⟨rfl, rfl⟩))
    (fun os started H enc _ => beatHeard_lifted os started H enc)
#print axioms beatHeard_holds
end Go.Proofs.Ytjindkkdgjeppaa
