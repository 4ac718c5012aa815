/-
  BeatWrong: how often one was heard that was suspected is the sum of what was told; who are heard together are heard as one by one.
-/
import Derived.Test.YtjindkkdgjeppaaBeatAw
import Derived.Test.YtjindkkdgjeppaaBeatWPlain
import Derived.Test.YtjindkkdgjeppaaBeatArg
namespace Go.Proofs.Ytjindkkdgjeppaa
open Go.ChangeShapes Go.WideShapes Go.ChangeAt Go.RowKit

def stepW (d : BD) (a : Act3) : BD := (d.heardL a.2.2 [a.2.1, a.1]).1

set_option maxRecDepth 100000 in
set_option maxHeartbeats 4000000 in
theorem wrong_walk (n me wait more most : Int) (ao : Option Addr) (l : List Act3) (cap : Nat) (w : World) (hn0 : -9223372036854775808 ≤ n) (hn1 : n ≤ 9223372036854775807) (hl : l.length ≤ 9223372036854775807) (hA : isActs w ao l) :
    Calls Try.prog 4 #[.agg #[.int .i64 n, .int .i64 me, .int .i64 wait, .int .i64 more, .int .i64 most], .slice ao l.length cap] w fun e w' => e = .returned (.bool true) ∧ Chg [] w w' := by
  by_cases hg : 100 < l.length
  · go_enter Try.func4, Try.ntmps4
    go_wp2_with fail
    refine (awake_any _).mono ?_
    rintro e w' ⟨rfl, hc⟩
    go_wp2_with fail
    go_ret
    exact ⟨rfl, ((Chg.refl _ _).alloc _).trans hc⟩
  · go_enter Try.func4, Try.ntmps4
    go_wp2_with fail
    have kN := block_new w (.cells #[.int .i64 n, .int .i64 me, .int .i64 wait, .int .i64 more, .int .i64 most] 23)
    have hc0 := (Chg.refl [] w).alloc (.cells #[.int .i64 n, .int .i64 me, .int .i64 wait, .int .i64 more, .int .i64 most] 23)
    generalize w.alloc (.cells #[.int .i64 n, .int .i64 me, .int .i64 wait, .int .i64 more, .int .i64 most] 23) = W1 at *
    have HK := Lib.hid (show ∀ w', Chg [] W1 w' → (w'.cell? ⟨w.heap.size, 0, none⟩ = some (.int .i64 n) ∧ w'.cell? ⟨w.heap.size, 1, none⟩ = some (.int .i64 me) ∧ w'.cell? ⟨w.heap.size, 2, none⟩ = some (.int .i64 wait) ∧ w'.cell? ⟨w.heap.size, 3, none⟩ = some (.int .i64 more) ∧ w'.cell? ⟨w.heap.size, 4, none⟩ = some (.int .i64 most)) ∧ Chg [] W1 w' from
      fun w' hc => ⟨⟨(cell_of_block (hc.at kN (by simp)) 0).trans rfl, (cell_of_block (hc.at kN (by simp)) 1).trans rfl, (cell_of_block (hc.at kN (by simp)) 2).trans rfl, (cell_of_block (hc.at kN (by simp)) 3).trans rfl, (cell_of_block (hc.at kN (by simp)) 4).trans rfl⟩, hc⟩)
    have hsz := hc0.size
    try go_upto_region 3 with fail
    refine wp_region_held_drew (S := fun w' => (w'.cell? ⟨w.heap.size, 0, none⟩ = some (.int .i64 n) ∧ w'.cell? ⟨w.heap.size, 1, none⟩ = some (.int .i64 me) ∧ w'.cell? ⟨w.heap.size, 2, none⟩ = some (.int .i64 wait) ∧ w'.cell? ⟨w.heap.size, 3, none⟩ = some (.int .i64 more) ∧ w'.cell? ⟨w.heap.size, 4, none⟩ = some (.int .i64 most)) ∧ Chg [] W1 w') (by kernel_rfl) ?_ (fun hHeld => ?_)
    · first | exact HK.out _ (Chg.refl _ _).drew | exact HK.out _ hHeld.2 | exact HK.out _ (hHeld.2.trans hcx) | exact HK.out _ (hHeld.2.trans hcx2)
    refine wpAnyH_take (i := 0) (v := ?va0) rfl (by kernel_rfl) (by kernel_rfl) (by kernel_rfl) (fun _ _ _ h => h) (Or.inl ⟨by rfl, ?ya0⟩) (by assumption) ?na0
    case ya0 => (intro w hSw; (try dsimp only at hSw); go_simp; (try with_reducible rfl))
    try simp only [List.getElem_toArray, List.getElem_cons_succ, List.getElem_cons_zero, Act.put, List.setIfInBounds_toArray, List.set_cons_succ, List.set_cons_zero]
    refine wpAnyH_take (i := 1) (v := ?va1) rfl (by kernel_rfl) (by kernel_rfl) (by kernel_rfl) (fun _ _ _ h => h) (Or.inl ⟨by rfl, ?ya1⟩) (by assumption) ?na1
    case ya1 => (intro w hSw; (try dsimp only at hSw); go_simp; (try with_reducible rfl))
    try simp only [List.getElem_toArray, List.getElem_cons_succ, List.getElem_cons_zero, Act.put, List.setIfInBounds_toArray, List.set_cons_succ, List.set_cons_zero]
    refine wpAnyH_take (i := 2) (v := ?va2) rfl (by kernel_rfl) (by kernel_rfl) (by kernel_rfl) (fun _ _ _ h => h) (Or.inl ⟨by rfl, ?ya2⟩) (by assumption) ?na2
    case ya2 => (intro w hSw; (try dsimp only at hSw); go_simp; (try with_reducible rfl))
    try simp only [List.getElem_toArray, List.getElem_cons_succ, List.getElem_cons_zero, Act.put, List.setIfInBounds_toArray, List.set_cons_succ, List.set_cons_zero]
    refine wpAnyH_take (i := 3) (v := ?va3) rfl (by kernel_rfl) (by kernel_rfl) (by kernel_rfl) (fun _ _ _ h => h) (Or.inl ⟨by rfl, ?ya3⟩) (by assumption) ?na3
    case ya3 => (intro w hSw; (try dsimp only at hSw); go_simp; (try with_reducible rfl))
    try simp only [List.getElem_toArray, List.getElem_cons_succ, List.getElem_cons_zero, Act.put, List.setIfInBounds_toArray, List.set_cons_succ, List.set_cons_zero]
    refine wpAnyH_take (i := 4) (v := ?va4) rfl (by kernel_rfl) (by kernel_rfl) (by kernel_rfl) (fun _ _ _ h => h) (Or.inl ⟨by rfl, ?ya4⟩) (by assumption) ?na4
    case ya4 => (intro w hSw; (try dsimp only at hSw); go_simp; (try with_reducible rfl))
    try simp only [List.getElem_toArray, List.getElem_cons_succ, List.getElem_cons_zero, Act.put, List.setIfInBounds_toArray, List.set_cons_succ, List.set_cons_zero]
    refine wpAnyH_take (i := 5) (v := ?va5) rfl (by kernel_rfl) (by kernel_rfl) (by kernel_rfl) (fun _ _ _ h => h) (Or.inl ⟨by rfl, ?ya5⟩) (by assumption) ?na5
    case ya5 => (intro w hSw; (try dsimp only at hSw); go_simp; (try with_reducible rfl))
    try simp only [List.getElem_toArray, List.getElem_cons_succ, List.getElem_cons_zero, Act.put, List.setIfInBounds_toArray, List.set_cons_succ, List.set_cons_zero]
    refine wpAnyH_take (i := 6) (v := ?va6) rfl (by kernel_rfl) (by kernel_rfl) (by kernel_rfl) (fun _ _ _ h => h) (Or.inl ⟨by rfl, ?ya6⟩) (by assumption) ?na6
    case ya6 => (intro w hSw; (try dsimp only at hSw); go_simp; (try with_reducible rfl))
    try simp only [List.getElem_toArray, List.getElem_cons_succ, List.getElem_cons_zero, Act.put, List.setIfInBounds_toArray, List.set_cons_succ, List.set_cons_zero]
    refine wpAnyH_take (i := 7) (v := ?va7) rfl (by kernel_rfl) (by kernel_rfl) (by kernel_rfl) (fun _ _ _ h => h) (Or.inl ⟨by rfl, ?ya7⟩) (by assumption) ?na7
    case ya7 => (intro w hSw; (try dsimp only at hSw); go_simp; (try with_reducible rfl))
    try simp only [List.getElem_toArray, List.getElem_cons_succ, List.getElem_cons_zero, Act.put, List.setIfInBounds_toArray, List.set_cons_succ, List.set_cons_zero]
    refine wpAnyH_take (i := 8) (v := ?va8) rfl (by kernel_rfl) (by kernel_rfl) (by kernel_rfl) (fun _ _ _ h => h) (Or.inl ⟨by rfl, ?ya8⟩) (by assumption) ?na8
    case ya8 => (intro w hSw; (try dsimp only at hSw); go_simp; (try with_reducible rfl))
    try simp only [List.getElem_toArray, List.getElem_cons_succ, List.getElem_cons_zero, Act.put, List.setIfInBounds_toArray, List.set_cons_succ, List.set_cons_zero]
    refine wpAnyH_take (i := 9) (v := ?va9) rfl (by kernel_rfl) (by kernel_rfl) (by kernel_rfl) (fun _ _ _ h => h) (Or.inl ⟨by rfl, ?ya9⟩) (by assumption) ?na9
    case ya9 => (intro w hSw; (try dsimp only at hSw); go_simp; (try with_reducible rfl))
    try simp only [List.getElem_toArray, List.getElem_cons_succ, List.getElem_cons_zero, Act.put, List.setIfInBounds_toArray, List.set_cons_succ, List.set_cons_zero]
    refine wpAnyH_take (i := 11) (v := ?va11) rfl (by kernel_rfl) (by kernel_rfl) (by kernel_rfl) (fun _ _ _ h => h) (Or.inl ⟨by rfl, ?ya11⟩) (by assumption) ?na11
    case ya11 => (intro w hSw; (try dsimp only at hSw); go_simp; (try with_reducible rfl))
    try simp only [List.getElem_toArray, List.getElem_cons_succ, List.getElem_cons_zero, Act.put, List.setIfInBounds_toArray, List.set_cons_succ, List.set_cons_zero]
    refine wpAnyH_take (i := 12) (v := ?va12) rfl (by kernel_rfl) (by kernel_rfl) (by kernel_rfl) (fun _ _ _ h => h) (Or.inl ⟨by rfl, ?ya12⟩) (by assumption) ?na12
    case ya12 => (intro w hSw; (try dsimp only at hSw); go_simp; (try with_reducible rfl))
    try simp only [List.getElem_toArray, List.getElem_cons_succ, List.getElem_cons_zero, Act.put, List.setIfInBounds_toArray, List.set_cons_succ, List.set_cons_zero]
    refine wpAnyH_take (i := 13) (v := ?va13) rfl (by kernel_rfl) (by kernel_rfl) (by kernel_rfl) (fun _ _ _ h => h) (Or.inl ⟨by rfl, ?ya13⟩) (by assumption) ?na13
    case ya13 => (intro w hSw; (try dsimp only at hSw); go_simp; (try with_reducible rfl))
    try simp only [List.getElem_toArray, List.getElem_cons_succ, List.getElem_cons_zero, Act.put, List.setIfInBounds_toArray, List.set_cons_succ, List.set_cons_zero]
    refine wpAnyH_take (i := 14) (v := ?va14) rfl (by kernel_rfl) (by kernel_rfl) (by kernel_rfl) (fun _ _ _ h => h) (Or.inl ⟨by rfl, ?ya14⟩) (by assumption) ?na14
    case ya14 => (intro w hSw; (try dsimp only at hSw); go_simp; (try with_reducible rfl))
    try simp only [List.getElem_toArray, List.getElem_cons_succ, List.getElem_cons_zero, Act.put, List.setIfInBounds_toArray, List.set_cons_succ, List.set_cons_zero]
    refine wpAnyH_take (i := 15) (v := ?va15) rfl (by kernel_rfl) (by kernel_rfl) (by kernel_rfl) (fun _ _ _ h => h) (Or.inl ⟨by rfl, ?ya15⟩) (by assumption) ?na15
    case ya15 => (intro w hSw; (try dsimp only at hSw); go_simp; (try with_reducible rfl))
    try simp only [List.getElem_toArray, List.getElem_cons_succ, List.getElem_cons_zero, Act.put, List.setIfInBounds_toArray, List.set_cons_succ, List.set_cons_zero]
    refine wpAnyH_take (i := 16) (v := ?va16) rfl (by kernel_rfl) (by kernel_rfl) (by kernel_rfl) (fun _ _ _ h => h) (Or.inl ⟨by rfl, ?ya16⟩) (by assumption) ?na16
    case ya16 => (intro w hSw; (try dsimp only at hSw); go_simp; (try with_reducible rfl))
    try simp only [List.getElem_toArray, List.getElem_cons_succ, List.getElem_cons_zero, Act.put, List.setIfInBounds_toArray, List.set_cons_succ, List.set_cons_zero]
    refine wpAnyH_take (i := 17) (v := ?va17) rfl (by kernel_rfl) (by kernel_rfl) (by kernel_rfl) (fun _ _ _ h => h) (Or.inl ⟨by rfl, ?ya17⟩) (by assumption) ?na17
    case ya17 => (intro w hSw; (try dsimp only at hSw); go_simp; (try with_reducible rfl))
    try simp only [List.getElem_toArray, List.getElem_cons_succ, List.getElem_cons_zero, Act.put, List.setIfInBounds_toArray, List.set_cons_succ, List.set_cons_zero]
    refine wpAnyH_take (i := 18) (v := ?va18) rfl (by kernel_rfl) (by kernel_rfl) (by kernel_rfl) (fun _ _ _ h => h) (Or.inl ⟨by rfl, ?ya18⟩) (by assumption) ?na18
    case ya18 => (intro w hSw; (try dsimp only at hSw); go_simp; (try with_reducible rfl))
    try simp only [List.getElem_toArray, List.getElem_cons_succ, List.getElem_cons_zero, Act.put, List.setIfInBounds_toArray, List.set_cons_succ, List.set_cons_zero]
    refine wpAnyH_take (i := 19) (v := ?va19) rfl (by kernel_rfl) (by kernel_rfl) (by kernel_rfl) (fun _ _ _ h => h) (Or.inl ⟨by rfl, ?ya19⟩) (by assumption) ?na19
    case ya19 => (intro w hSw; (try dsimp only at hSw); go_simp; (try with_reducible rfl))
    try simp only [List.getElem_toArray, List.getElem_cons_succ, List.getElem_cons_zero, Act.put, List.setIfInBounds_toArray, List.set_cons_succ, List.set_cons_zero]
    refine wpAnyH_take (i := 20) (v := ?va20) rfl (by kernel_rfl) (by kernel_rfl) (by kernel_rfl) (fun _ _ _ h => h) (Or.inl ⟨by rfl, ?ya20⟩) (by assumption) ?na20
    case ya20 => (intro w hSw; (try dsimp only at hSw); go_simp; (try with_reducible rfl))
    try simp only [List.getElem_toArray, List.getElem_cons_succ, List.getElem_cons_zero, Act.put, List.setIfInBounds_toArray, List.set_cons_succ, List.set_cons_zero]
    refine wpAnyH_ready (rs := [10]) (by kernel_rfl) (by simp) ?_
    refine AllReadyH.cons rfl (fun K hK => ?_) AllReadyH.nil
    go_simp
    refine (new_any n me wait more most _ hn0 hn1).mono ?_
    rintro e w1 ⟨b, bt, rfl, H1, hcx, hb1, hbt1⟩
    refine hK.out _ _ ?_ (fun hHeld => ?_)
    · first | exact HK.out _ (Chg.refl _ _).drew | exact HK.out _ hHeld.2 | exact HK.out _ (hHeld.2.trans hcx) | exact HK.out _ (hHeld.2.trans hcx2)
    clear hK K
    try simp only [List.getElem_toArray, List.getElem_cons_succ, List.getElem_cons_zero, Act.put, List.setIfInBounds_toArray, List.set_cons_succ, List.set_cons_zero]
    refine wpAnyH_ready (rs := [21]) (by kernel_rfl) (by simp) ?_
    refine AllReadyH.cons rfl (fun K hK => ?_) AllReadyH.nil
    go_simp
    refine (new_any n me wait more most _ hn0 hn1).mono ?_
    rintro e w2 ⟨c, ct, rfl, J1, hcx2, hc1, hct1⟩
    refine hK.out _ _ ?_ (fun hHeld => ?_)
    · first | exact HK.out _ (Chg.refl _ _).drew | exact HK.out _ hHeld.2 | exact HK.out _ (hHeld.2.trans hcx) | exact HK.out _ (hHeld.2.trans hcx2)
    clear hK K
    try simp only [List.getElem_toArray, List.getElem_cons_succ, List.getElem_cons_zero, Act.put, List.setIfInBounds_toArray, List.set_cons_succ, List.set_cons_zero]
    refine wpAnyH_take (i := 22) (v := ?va22) rfl (by kernel_rfl) (by kernel_rfl) (by kernel_rfl) (fun _ _ _ h => h) (Or.inl ⟨by rfl, ?ya22⟩) (by assumption) ?na22
    case ya22 => (intro w hSw; (try dsimp only at hSw); go_simp; (try with_reducible rfl))
    try simp only [List.getElem_toArray, List.getElem_cons_succ, List.getElem_cons_zero, Act.put, List.setIfInBounds_toArray, List.set_cons_succ, List.set_cons_zero]
    refine wpAnyH_take (i := 23) (v := ?va23) rfl (by kernel_rfl) (by kernel_rfl) (by kernel_rfl) (fun _ _ _ h => h) (Or.inl ⟨by rfl, ?ya23⟩) (by assumption) ?na23
    case ya23 => (intro w hSw; (try dsimp only at hSw); go_simp; (try with_reducible rfl))
    try simp only [List.getElem_toArray, List.getElem_cons_succ, List.getElem_cons_zero, Act.put, List.setIfInBounds_toArray, List.set_cons_succ, List.set_cons_zero]
    refine wpAnyH_done (by kernel_rfl) ?_ _
    have hlb := lt_of_some H1.hb
    have hlbt := H1.ty.lt
    have H2 := H1.keep0 hcx2
    have hD0w : (newB n me wait more most).wrong = 0 := rfl
    have hcall : Chg [] w w2 := hc0.trans hHeld.2
    have hszd : W1.drew.heap.size = W1.heap.size := rfl
    rw [hszd] at hb1 hbt1
    clear HK hHeld H1 hcx hcx2 kN hc0 hszd
    generalize newB n me wait more most = D0 at *
    go_wp2_with fail
    go_loopw [7, 8] (fun v i wr => ∃ k : Nat, k ≤ l.length ∧ i = .int .i64 k ∧ v = .int .i64 ((l.take k).foldl stepW D0).wrong ∧ isB wr b bt ((l.take k).foldl stepW D0) ∧ isB wr c ct ((l.take k).foldl stepW D0) ∧
        0 ≤ ((l.take k).foldl stepW D0).wrong ∧ ((l.take k).foldl stepW D0).wrong ≤ 2 * k ∧ Chg [] w wr ∧ Chg [b, bt, c, ct] w2 wr) (fun _ i _ => l.length - (intOf i).toNat)
    case atStart => exact ⟨0, by omega, rfl, by rw [show ((l.take 0).foldl stepW D0) = D0 from rfl, hD0w], H2, J1, by rw [show ((l.take 0).foldl stepW D0) = D0 from rfl, hD0w]; exact Int.le_refl _, by rw [show ((l.take 0).foldl stepW D0) = D0 from rfl, hD0w]; exact Int.le_refl _, hcall, Chg.refl _ _⟩
    case round =>
      obtain ⟨k, hk, rfl, rfl, HD, HE, hsum0, hsum1, hcr, hcr2⟩ := hrel
      by_cases hlt : k < l.length
      · have hst := Lib.hid (foldl_take stepW D0 l (0, 0, 0) hlt)
        obtain ⟨x, off, rfl⟩ := hA.addr hlt
        obtain ⟨hxn, _⟩ := hA.at hlt
        obtain ⟨hxl, a0, a1, a2⟩ := (hA.keep0 hcr).at hlt
        generalize l.getD k (0, 0, 0) = act at *
        obtain ⟨ak, ap, an⟩ := act
        dsimp only at a0 a1 a2
        generalize (l.take k).foldl stepW D0 = D at *
        have hx4 : x ∉ [b, bt, c, ct] := by simp; omega
        have hHK : ∀ w', Chg [b, bt, c, ct] wr w' → _ := fun w' hc => three_keep hxl hx4 a0 a1 a2 hc
        have HK := Lib.hid hHK
        obtain ⟨q1, q2, q3⟩ := heardL_bound D an [ap, ak]
        obtain ⟨q4, q5, q6⟩ := heardL_bound D an [ap]
        obtain ⟨q7, q8, q9⟩ := heardL_bound (D.heardL an [ap]).1 an [ak]
        have hsum4 : 0 ≤ (D.heardL an [ap]).1.wrong := by omega
        simp only [List.length_cons, List.length_nil] at q3 q6 q9
        have htwo := Lib.hid (heard_two D an ap ak)
        go_upto_region 8 with fail
        clear hHK
        refine wp_region_held_drew (S := fun w' => (w'.cell? ⟨x, off + k * 3, none⟩ = some (.int .i64 ak) ∧ w'.cell? ⟨x, off + k * 3 + 1, none⟩ = some (.int .i64 ap) ∧ w'.cell? ⟨x, off + k * 3 + 2, none⟩ = some (.int .i64 an)) ∧ Chg [b, bt, c, ct] wr w') (by kernel_rfl) ?_ (fun hHeld => ?_)
        · first | exact HK.out _ (Chg.refl _ _).drew | exact HK.out _ hHeld.2 | exact HK.out _ (hHeld.2.alloc _) | exact HK.out _ (hHeld.2.trans (hcx.mono (by simp)))
        refine wpAnyH_take (i := 0) (v := ?vb0) rfl (by kernel_rfl) (by kernel_rfl) (by kernel_rfl) (fun _ _ _ h => h) (Or.inl ⟨by rfl, ?yb0⟩) (by assumption) ?nb0
        case yb0 => (intro w hSw; (try dsimp only at hSw); go_simp; (try with_reducible rfl))
        try simp only [List.getElem_toArray, List.getElem_cons_succ, List.getElem_cons_zero, Act.put, List.setIfInBounds_toArray, List.set_cons_succ, List.set_cons_zero]
        refine wpAnyH_take (i := 1) (v := ?vb1) rfl (by kernel_rfl) (by kernel_rfl) (by kernel_rfl) (fun _ _ _ h => h) (Or.inl ⟨by rfl, ?yb1⟩) (by assumption) ?nb1
        case yb1 => (intro w hSw; (try dsimp only at hSw); go_simp; (try with_reducible rfl))
        try simp only [List.getElem_toArray, List.getElem_cons_succ, List.getElem_cons_zero, Act.put, List.setIfInBounds_toArray, List.set_cons_succ, List.set_cons_zero]
        refine wpAnyH_take (i := 2) (v := ?vb2) rfl (by kernel_rfl) (by kernel_rfl) (by kernel_rfl) (fun _ _ _ h => h) (Or.inl ⟨by rfl, ?yb2⟩) (by assumption) ?nb2
        case yb2 => (intro w hSw; (try dsimp only at hSw); go_simp; (try with_reducible rfl))
        try simp only [List.getElem_toArray, List.getElem_cons_succ, List.getElem_cons_zero, Act.put, List.setIfInBounds_toArray, List.set_cons_succ, List.set_cons_zero]
        refine wpAnyH_take (i := 3) (v := ?vb3) rfl (by kernel_rfl) (by kernel_rfl) (by kernel_rfl) (fun _ _ _ h => h) (Or.inl ⟨by rfl, ?yb3⟩) (by assumption) ?nb3
        case yb3 => (intro w hSw; (try dsimp only at hSw); go_simp; (try with_reducible rfl))
        try simp only [List.getElem_toArray, List.getElem_cons_succ, List.getElem_cons_zero, Act.put, List.setIfInBounds_toArray, List.set_cons_succ, List.set_cons_zero]
        refine wpAnyH_take (i := 4) (v := ?vb4) rfl (by kernel_rfl) (by kernel_rfl) (by kernel_rfl) (fun _ _ _ h => h) (Or.inl ⟨by rfl, ?yb4⟩) (by assumption) ?nb4
        case yb4 => (intro w hSw; (try dsimp only at hSw); go_simp; (try with_reducible rfl))
        try simp only [List.getElem_toArray, List.getElem_cons_succ, List.getElem_cons_zero, Act.put, List.setIfInBounds_toArray, List.set_cons_succ, List.set_cons_zero]
        refine wpAnyH_take (i := 5) (v := ?vb5) rfl (by kernel_rfl) (by kernel_rfl) (by kernel_rfl) (fun _ _ _ h => h) (Or.inl ⟨by rfl, ?yb5⟩) (by assumption) ?nb5
        case yb5 => (intro w hSw; (try dsimp only at hSw); go_simp; (try with_reducible rfl))
        try simp only [List.getElem_toArray, List.getElem_cons_succ, List.getElem_cons_zero, Act.put, List.setIfInBounds_toArray, List.set_cons_succ, List.set_cons_zero]
        refine wpAnyH_take (i := 6) (v := ?vb6) rfl (by kernel_rfl) (by kernel_rfl) (by kernel_rfl) (fun _ _ _ h => h) (Or.inl ⟨by rfl, ?yb6⟩) (by assumption) ?nb6
        case yb6 => (intro w hSw; (try dsimp only at hSw); go_simp; (try with_reducible rfl))
        try simp only [List.getElem_toArray, List.getElem_cons_succ, List.getElem_cons_zero, Act.put, List.setIfInBounds_toArray, List.set_cons_succ, List.set_cons_zero]
        refine wpAnyH_take (i := 7) (v := ?vb7) rfl (by kernel_rfl) (by kernel_rfl) (by kernel_rfl) (fun _ _ _ h => h) (Or.inl ⟨by rfl, ?yb7⟩) (by assumption) ?nb7
        case yb7 => (intro w hSw; (try dsimp only at hSw); go_simp; (try with_reducible rfl))
        try simp only [List.getElem_toArray, List.getElem_cons_succ, List.getElem_cons_zero, Act.put, List.setIfInBounds_toArray, List.set_cons_succ, List.set_cons_zero]
        refine wpAnyH_take (i := 8) (v := ?vb8) rfl (by kernel_rfl) (by kernel_rfl) (by kernel_rfl) (fun _ _ _ h => h) (Or.inl ⟨by rfl, ?yb8⟩) (by assumption) ?nb8
        case yb8 => (intro w hSw; (try dsimp only at hSw); go_simp; (try with_reducible rfl))
        try simp only [List.getElem_toArray, List.getElem_cons_succ, List.getElem_cons_zero, Act.put, List.setIfInBounds_toArray, List.set_cons_succ, List.set_cons_zero]
        refine wpAnyH_take (i := 9) (v := ?vb9) rfl (by kernel_rfl) (by kernel_rfl) (by kernel_rfl) (fun _ _ _ h => h) (Or.inl ⟨by rfl, ?yb9⟩) (by assumption) ?nb9
        case yb9 => (intro w hSw; (try dsimp only at hSw); go_simp; (try with_reducible rfl))
        try simp only [List.getElem_toArray, List.getElem_cons_succ, List.getElem_cons_zero, Act.put, List.setIfInBounds_toArray, List.set_cons_succ, List.set_cons_zero]
        refine wpAnyH_take (i := 10) (v := ?vb10) rfl (by kernel_rfl) (by kernel_rfl) (by kernel_rfl) (fun _ _ _ h => h) (Or.inl ⟨by rfl, ?yb10⟩) (by assumption) ?nb10
        case yb10 => (intro w hSw; (try dsimp only at hSw); go_simp; (try with_reducible rfl))
        try simp only [List.getElem_toArray, List.getElem_cons_succ, List.getElem_cons_zero, Act.put, List.setIfInBounds_toArray, List.set_cons_succ, List.set_cons_zero]
        refine wpAnyH_take (i := 11) (v := ?vb11) rfl (by kernel_rfl) (by kernel_rfl) (by kernel_rfl) (fun _ _ _ h => h) (Or.inl ⟨by rfl, ?yb11⟩) (by assumption) ?nb11
        case yb11 => (intro w hSw; (try dsimp only at hSw); go_simp; (try with_reducible rfl))
        try simp only [List.getElem_toArray, List.getElem_cons_succ, List.getElem_cons_zero, Act.put, List.setIfInBounds_toArray, List.set_cons_succ, List.set_cons_zero]
        refine wpAnyH_take (i := 12) (v := ?vb12) rfl (by kernel_rfl) (by kernel_rfl) (by kernel_rfl) (fun _ _ _ h => h) (Or.inl ⟨by rfl, ?yb12⟩) (by assumption) ?nb12
        case yb12 => (intro w hSw; (try dsimp only at hSw); go_simp; (try with_reducible rfl))
        try simp only [List.getElem_toArray, List.getElem_cons_succ, List.getElem_cons_zero, Act.put, List.setIfInBounds_toArray, List.set_cons_succ, List.set_cons_zero]
        refine wpAnyH_take (i := 13) (v := ?vb13) rfl (by kernel_rfl) (by kernel_rfl) (by kernel_rfl) (fun _ _ _ h => h) (Or.inl ⟨by rfl, ?yb13⟩) (by assumption) ?nb13
        case yb13 => (intro w hSw; (try dsimp only at hSw); go_simp; (try with_reducible rfl))
        try simp only [List.getElem_toArray, List.getElem_cons_succ, List.getElem_cons_zero, Act.put, List.setIfInBounds_toArray, List.set_cons_succ, List.set_cons_zero]
        refine wpAnyH_take (i := 14) (v := ?vb14) rfl (by kernel_rfl) (by kernel_rfl) (by kernel_rfl) (fun _ _ _ h => h) (Or.inl ⟨by rfl, ?yb14⟩) (by assumption) ?nb14
        case yb14 => (intro w hSw; (try dsimp only at hSw); go_simp; (try with_reducible rfl))
        try simp only [List.getElem_toArray, List.getElem_cons_succ, List.getElem_cons_zero, Act.put, List.setIfInBounds_toArray, List.set_cons_succ, List.set_cons_zero]
        refine wpAnyH_take (i := 15) (v := ?vb15) rfl (by kernel_rfl) (by kernel_rfl) (by kernel_rfl) (fun _ _ _ h => h) (Or.inl ⟨by rfl, ?yb15⟩) (by assumption) ?nb15
        case yb15 => (intro w hSw; (try dsimp only at hSw); go_simp; (try with_reducible rfl))
        try simp only [List.getElem_toArray, List.getElem_cons_succ, List.getElem_cons_zero, Act.put, List.setIfInBounds_toArray, List.set_cons_succ, List.set_cons_zero]
        refine wpAnyH_ready (rs := [16]) (by kernel_rfl) (by simp) ?_
        refine AllReadyH.cons rfl (fun K hK => ?_) AllReadyH.nil
        go_simp
        refine hK.out _ _ ?_ (fun hHeld => ?_)
        · first | exact HK.out _ (Chg.refl _ _).drew | exact HK.out _ hHeld.2 | exact HK.out _ (hHeld.2.alloc _) | exact HK.out _ (hHeld.2.trans (hcx.mono (by simp)))
        clear hK K
        try simp only [List.getElem_toArray, List.getElem_cons_succ, List.getElem_cons_zero, Act.put, List.setIfInBounds_toArray, List.set_cons_succ, List.set_cons_zero]
        refine wpAnyH_ready (rs := [17]) (by kernel_rfl) (by simp) ?_
        refine AllReadyH.cons rfl (fun K hK => ?_) AllReadyH.nil
        go_simp
        have kk1 := block_new wr.drew (.cells #[.int .i64 ap, .int .i64 ak] 3)
        have hca1 := (Chg.refl [] wr.drew).alloc (.cells #[.int .i64 ap, .int .i64 ak] 3)
        have hone1 := block_ints (k := .i64) (l := [ap, ak]) kk1
        have hls1 := lt_of_some (HD.keep0 (Chg.refl [] _).drew).hb
        have hlt1 := (HD.keep0 (Chg.refl [] _).drew).ty.lt
        have hh1 := heard_any an (some ⟨wr.drew.heap.size, 0, none⟩) [ap, ak] 2 _ ((HD.keep0 (Chg.refl [] _).drew).keep0 hca1) hone1 (by simp) (by intro y off e; simp only [Option.some.injEq, Addr.mk.injEq, and_true] at e; obtain ⟨rfl, _⟩ := e; exact ⟨by omega, by omega⟩) hsum0 (by omega)
        refine hh1.mono ?_
        rintro e w3 ⟨rfl, HD3, hcx⟩
        refine hK.out _ _ ?_ (fun hHeld => ?_)
        · first | exact HK.out _ (Chg.refl _ _).drew | exact HK.out _ hHeld.2 | exact HK.out _ (hHeld.2.alloc _) | exact HK.out _ (hHeld.2.trans (hcx.mono (by simp)))
        clear hK K
        try simp only [List.getElem_toArray, List.getElem_cons_succ, List.getElem_cons_zero, Act.put, List.setIfInBounds_toArray, List.set_cons_succ, List.set_cons_zero]
        refine wpAnyH_take (i := 18) (v := ?vb18) rfl (by kernel_rfl) (by kernel_rfl) (by kernel_rfl) (fun _ _ _ h => h) (Or.inl ⟨by rfl, ?yb18⟩) (by assumption) ?nb18
        case yb18 => (intro w hSw; (try dsimp only at hSw); go_simp; (try with_reducible rfl))
        try simp only [List.getElem_toArray, List.getElem_cons_succ, List.getElem_cons_zero, Act.put, List.setIfInBounds_toArray, List.set_cons_succ, List.set_cons_zero]
        refine wpAnyH_done (by kernel_rfl) ?_ _
        have hcb : Chg [b, bt] wr w3 := (((Chg.refl [] wr).drew.mono (by simp)).trans (hca1.mono (by simp))).trans hcx
        have HE3 := HE.keep hcb (by simp; omega) (by simp; omega)
        have hx3 := hcb.size
        have b0 := (hcb.cell (p := ⟨x, off + k * 3, none⟩) hxl (by simp; omega)).trans a0
        have b1 := (hcb.cell (p := ⟨x, off + k * 3 + 1, none⟩) hxl (by simp; omega)).trans a1
        have b2 := (hcb.cell (p := ⟨x, off + k * 3 + 2, none⟩) hxl (by simp; omega)).trans a2
        clear HK hcx hHeld kk1 hca1 hone1 hls1 hlt1 hh1
        have hHK2 : ∀ w', Chg [b, bt, c, ct] w3 w' → _ := fun w' hc => three_keep (by omega) hx4 b0 b1 b2 hc
        have HK2 := Lib.hid hHK2
        go_upto_region 9 with fail
        clear hHK2
        refine wp_region_held_drew (S := fun w' => (w'.cell? ⟨x, off + k * 3, none⟩ = some (.int .i64 ak) ∧ w'.cell? ⟨x, off + k * 3 + 1, none⟩ = some (.int .i64 ap) ∧ w'.cell? ⟨x, off + k * 3 + 2, none⟩ = some (.int .i64 an)) ∧ Chg [b, bt, c, ct] w3 w') (by kernel_rfl) ?_ (fun hHeld => ?_)
        · first | exact HK2.out _ (Chg.refl _ _).drew | exact HK2.out _ hHeld.2 | exact HK2.out _ (hHeld.2.alloc _) | exact HK2.out _ (hHeld.2.trans (hcx.mono (by simp)))
        refine wpAnyH_take (i := 0) (v := ?vc0) rfl (by kernel_rfl) (by kernel_rfl) (by kernel_rfl) (fun _ _ _ h => h) (Or.inl ⟨by rfl, ?yc0⟩) (by assumption) ?nc0
        case yc0 => (intro w hSw; (try dsimp only at hSw); go_simp; (try with_reducible rfl))
        try simp only [List.getElem_toArray, List.getElem_cons_succ, List.getElem_cons_zero, Act.put, List.setIfInBounds_toArray, List.set_cons_succ, List.set_cons_zero]
        refine wpAnyH_take (i := 1) (v := ?vc1) rfl (by kernel_rfl) (by kernel_rfl) (by kernel_rfl) (fun _ _ _ h => h) (Or.inl ⟨by rfl, ?yc1⟩) (by assumption) ?nc1
        case yc1 => (intro w hSw; (try dsimp only at hSw); go_simp; (try with_reducible rfl))
        try simp only [List.getElem_toArray, List.getElem_cons_succ, List.getElem_cons_zero, Act.put, List.setIfInBounds_toArray, List.set_cons_succ, List.set_cons_zero]
        refine wpAnyH_take (i := 2) (v := ?vc2) rfl (by kernel_rfl) (by kernel_rfl) (by kernel_rfl) (fun _ _ _ h => h) (Or.inl ⟨by rfl, ?yc2⟩) (by assumption) ?nc2
        case yc2 => (intro w hSw; (try dsimp only at hSw); go_simp; (try with_reducible rfl))
        try simp only [List.getElem_toArray, List.getElem_cons_succ, List.getElem_cons_zero, Act.put, List.setIfInBounds_toArray, List.set_cons_succ, List.set_cons_zero]
        refine wpAnyH_take (i := 3) (v := ?vc3) rfl (by kernel_rfl) (by kernel_rfl) (by kernel_rfl) (fun _ _ _ h => h) (Or.inl ⟨by rfl, ?yc3⟩) (by assumption) ?nc3
        case yc3 => (intro w hSw; (try dsimp only at hSw); go_simp; (try with_reducible rfl))
        try simp only [List.getElem_toArray, List.getElem_cons_succ, List.getElem_cons_zero, Act.put, List.setIfInBounds_toArray, List.set_cons_succ, List.set_cons_zero]
        refine wpAnyH_take (i := 4) (v := ?vc4) rfl (by kernel_rfl) (by kernel_rfl) (by kernel_rfl) (fun _ _ _ h => h) (Or.inl ⟨by rfl, ?yc4⟩) (by assumption) ?nc4
        case yc4 => (intro w hSw; (try dsimp only at hSw); go_simp; (try with_reducible rfl))
        try simp only [List.getElem_toArray, List.getElem_cons_succ, List.getElem_cons_zero, Act.put, List.setIfInBounds_toArray, List.set_cons_succ, List.set_cons_zero]
        refine wpAnyH_take (i := 5) (v := ?vc5) rfl (by kernel_rfl) (by kernel_rfl) (by kernel_rfl) (fun _ _ _ h => h) (Or.inl ⟨by rfl, ?yc5⟩) (by assumption) ?nc5
        case yc5 => (intro w hSw; (try dsimp only at hSw); go_simp; (try with_reducible rfl))
        try simp only [List.getElem_toArray, List.getElem_cons_succ, List.getElem_cons_zero, Act.put, List.setIfInBounds_toArray, List.set_cons_succ, List.set_cons_zero]
        refine wpAnyH_take (i := 6) (v := ?vc6) rfl (by kernel_rfl) (by kernel_rfl) (by kernel_rfl) (fun _ _ _ h => h) (Or.inl ⟨by rfl, ?yc6⟩) (by assumption) ?nc6
        case yc6 => (intro w hSw; (try dsimp only at hSw); go_simp; (try with_reducible rfl))
        try simp only [List.getElem_toArray, List.getElem_cons_succ, List.getElem_cons_zero, Act.put, List.setIfInBounds_toArray, List.set_cons_succ, List.set_cons_zero]
        refine wpAnyH_take (i := 7) (v := ?vc7) rfl (by kernel_rfl) (by kernel_rfl) (by kernel_rfl) (fun _ _ _ h => h) (Or.inl ⟨by rfl, ?yc7⟩) (by assumption) ?nc7
        case yc7 => (intro w hSw; (try dsimp only at hSw); go_simp; (try with_reducible rfl))
        try simp only [List.getElem_toArray, List.getElem_cons_succ, List.getElem_cons_zero, Act.put, List.setIfInBounds_toArray, List.set_cons_succ, List.set_cons_zero]
        refine wpAnyH_take (i := 8) (v := ?vc8) rfl (by kernel_rfl) (by kernel_rfl) (by kernel_rfl) (fun _ _ _ h => h) (Or.inl ⟨by rfl, ?yc8⟩) (by assumption) ?nc8
        case yc8 => (intro w hSw; (try dsimp only at hSw); go_simp; (try with_reducible rfl))
        try simp only [List.getElem_toArray, List.getElem_cons_succ, List.getElem_cons_zero, Act.put, List.setIfInBounds_toArray, List.set_cons_succ, List.set_cons_zero]
        refine wpAnyH_take (i := 9) (v := ?vc9) rfl (by kernel_rfl) (by kernel_rfl) (by kernel_rfl) (fun _ _ _ h => h) (Or.inl ⟨by rfl, ?yc9⟩) (by assumption) ?nc9
        case yc9 => (intro w hSw; (try dsimp only at hSw); go_simp; (try with_reducible rfl))
        try simp only [List.getElem_toArray, List.getElem_cons_succ, List.getElem_cons_zero, Act.put, List.setIfInBounds_toArray, List.set_cons_succ, List.set_cons_zero]
        refine wpAnyH_take (i := 10) (v := ?vc10) rfl (by kernel_rfl) (by kernel_rfl) (by kernel_rfl) (fun _ _ _ h => h) (Or.inl ⟨by rfl, ?yc10⟩) (by assumption) ?nc10
        case yc10 => (intro w hSw; (try dsimp only at hSw); go_simp; (try with_reducible rfl))
        try simp only [List.getElem_toArray, List.getElem_cons_succ, List.getElem_cons_zero, Act.put, List.setIfInBounds_toArray, List.set_cons_succ, List.set_cons_zero]
        refine wpAnyH_ready (rs := [11]) (by kernel_rfl) (by simp) ?_
        refine AllReadyH.cons rfl (fun K hK => ?_) AllReadyH.nil
        go_simp
        refine hK.out _ _ ?_ (fun hHeld => ?_)
        · first | exact HK2.out _ (Chg.refl _ _).drew | exact HK2.out _ hHeld.2 | exact HK2.out _ (hHeld.2.alloc _) | exact HK2.out _ (hHeld.2.trans (hcx.mono (by simp)))
        clear hK K
        try simp only [List.getElem_toArray, List.getElem_cons_succ, List.getElem_cons_zero, Act.put, List.setIfInBounds_toArray, List.set_cons_succ, List.set_cons_zero]
        refine wpAnyH_ready (rs := [12]) (by kernel_rfl) (by simp) ?_
        refine AllReadyH.cons rfl (fun K hK => ?_) AllReadyH.nil
        go_simp
        have kk2 := block_new w3.drew (.cells #[.int .i64 ap] 3)
        have hca2 := (Chg.refl [] w3.drew).alloc (.cells #[.int .i64 ap] 3)
        have hone2 := block_ints (k := .i64) (l := [ap]) kk2
        have hls2 := lt_of_some (HE3.keep0 (Chg.refl [] _).drew).hb
        have hlt2 := (HE3.keep0 (Chg.refl [] _).drew).ty.lt
        have hh2 := heard_any an (some ⟨w3.drew.heap.size, 0, none⟩) [ap] 1 _ ((HE3.keep0 (Chg.refl [] _).drew).keep0 hca2) hone2 (by simp) (by intro y off e; simp only [Option.some.injEq, Addr.mk.injEq, and_true] at e; obtain ⟨rfl, _⟩ := e; exact ⟨by omega, by omega⟩) hsum0 (by omega)
        refine hh2.mono ?_
        rintro e w4 ⟨rfl, HE4, hcx⟩
        refine hK.out _ _ ?_ (fun hHeld => ?_)
        · first | exact HK2.out _ (Chg.refl _ _).drew | exact HK2.out _ hHeld.2 | exact HK2.out _ (hHeld.2.alloc _) | exact HK2.out _ (hHeld.2.trans (hcx.mono (by simp)))
        clear hK K
        try simp only [List.getElem_toArray, List.getElem_cons_succ, List.getElem_cons_zero, Act.put, List.setIfInBounds_toArray, List.set_cons_succ, List.set_cons_zero]
        refine wpAnyH_take (i := 13) (v := ?vc13) rfl (by kernel_rfl) (by kernel_rfl) (by kernel_rfl) (fun _ _ _ h => h) (Or.inl ⟨by rfl, ?yc13⟩) (by assumption) ?nc13
        case yc13 => (intro w hSw; (try dsimp only at hSw); go_simp; (try with_reducible rfl))
        try simp only [List.getElem_toArray, List.getElem_cons_succ, List.getElem_cons_zero, Act.put, List.setIfInBounds_toArray, List.set_cons_succ, List.set_cons_zero]
        refine wpAnyH_done (by kernel_rfl) ?_ _
        have hcc : Chg [c, ct] w3 w4 := (((Chg.refl [] w3).drew.mono (by simp)).trans (hca2.mono (by simp))).trans hcx
        have HD4 := HD3.keep hcc (by simp; omega) (by simp; omega)
        have hx4' := hcc.size
        have b0' := (hcc.cell (p := ⟨x, off + k * 3, none⟩) (show x < w3.heap.size by omega) (by simp; omega)).trans b0
        have b1' := (hcc.cell (p := ⟨x, off + k * 3 + 1, none⟩) (show x < w3.heap.size by omega) (by simp; omega)).trans b1
        have b2' := (hcc.cell (p := ⟨x, off + k * 3 + 2, none⟩) (show x < w3.heap.size by omega) (by simp; omega)).trans b2
        clear HK2 hcx hHeld kk2 hca2 hone2 hls2 hlt2 hh2 b0 b1 b2
        have hHK3 : ∀ w', Chg [b, bt, c, ct] w4 w' → _ := fun w' hc => three_keep (by omega) hx4 b0' b1' b2' hc
        have HK3 := Lib.hid hHK3
        go_upto_region 10 with fail
        clear hHK3
        refine wp_region_held_drew (S := fun w' => (w'.cell? ⟨x, off + k * 3, none⟩ = some (.int .i64 ak) ∧ w'.cell? ⟨x, off + k * 3 + 1, none⟩ = some (.int .i64 ap) ∧ w'.cell? ⟨x, off + k * 3 + 2, none⟩ = some (.int .i64 an)) ∧ Chg [b, bt, c, ct] w4 w') (by kernel_rfl) ?_ (fun hHeld => ?_)
        · first | exact HK3.out _ (Chg.refl _ _).drew | exact HK3.out _ hHeld.2 | exact HK3.out _ (hHeld.2.alloc _) | exact HK3.out _ (hHeld.2.trans (hcx.mono (by simp)))
        refine wpAnyH_take (i := 0) (v := ?vd0) rfl (by kernel_rfl) (by kernel_rfl) (by kernel_rfl) (fun _ _ _ h => h) (Or.inl ⟨by rfl, ?yd0⟩) (by assumption) ?nd0
        case yd0 => (intro w hSw; (try dsimp only at hSw); go_simp; (try with_reducible rfl))
        try simp only [List.getElem_toArray, List.getElem_cons_succ, List.getElem_cons_zero, Act.put, List.setIfInBounds_toArray, List.set_cons_succ, List.set_cons_zero]
        refine wpAnyH_take (i := 1) (v := ?vd1) rfl (by kernel_rfl) (by kernel_rfl) (by kernel_rfl) (fun _ _ _ h => h) (Or.inl ⟨by rfl, ?yd1⟩) (by assumption) ?nd1
        case yd1 => (intro w hSw; (try dsimp only at hSw); go_simp; (try with_reducible rfl))
        try simp only [List.getElem_toArray, List.getElem_cons_succ, List.getElem_cons_zero, Act.put, List.setIfInBounds_toArray, List.set_cons_succ, List.set_cons_zero]
        refine wpAnyH_take (i := 2) (v := ?vd2) rfl (by kernel_rfl) (by kernel_rfl) (by kernel_rfl) (fun _ _ _ h => h) (Or.inl ⟨by rfl, ?yd2⟩) (by assumption) ?nd2
        case yd2 => (intro w hSw; (try dsimp only at hSw); go_simp; (try with_reducible rfl))
        try simp only [List.getElem_toArray, List.getElem_cons_succ, List.getElem_cons_zero, Act.put, List.setIfInBounds_toArray, List.set_cons_succ, List.set_cons_zero]
        refine wpAnyH_take (i := 3) (v := ?vd3) rfl (by kernel_rfl) (by kernel_rfl) (by kernel_rfl) (fun _ _ _ h => h) (Or.inl ⟨by rfl, ?yd3⟩) (by assumption) ?nd3
        case yd3 => (intro w hSw; (try dsimp only at hSw); go_simp; (try with_reducible rfl))
        try simp only [List.getElem_toArray, List.getElem_cons_succ, List.getElem_cons_zero, Act.put, List.setIfInBounds_toArray, List.set_cons_succ, List.set_cons_zero]
        refine wpAnyH_take (i := 4) (v := ?vd4) rfl (by kernel_rfl) (by kernel_rfl) (by kernel_rfl) (fun _ _ _ h => h) (Or.inl ⟨by rfl, ?yd4⟩) (by assumption) ?nd4
        case yd4 => (intro w hSw; (try dsimp only at hSw); go_simp; (try with_reducible rfl))
        try simp only [List.getElem_toArray, List.getElem_cons_succ, List.getElem_cons_zero, Act.put, List.setIfInBounds_toArray, List.set_cons_succ, List.set_cons_zero]
        refine wpAnyH_take (i := 5) (v := ?vd5) rfl (by kernel_rfl) (by kernel_rfl) (by kernel_rfl) (fun _ _ _ h => h) (Or.inl ⟨by rfl, ?yd5⟩) (by assumption) ?nd5
        case yd5 => (intro w hSw; (try dsimp only at hSw); go_simp; (try with_reducible rfl))
        try simp only [List.getElem_toArray, List.getElem_cons_succ, List.getElem_cons_zero, Act.put, List.setIfInBounds_toArray, List.set_cons_succ, List.set_cons_zero]
        refine wpAnyH_take (i := 6) (v := ?vd6) rfl (by kernel_rfl) (by kernel_rfl) (by kernel_rfl) (fun _ _ _ h => h) (Or.inl ⟨by rfl, ?yd6⟩) (by assumption) ?nd6
        case yd6 => (intro w hSw; (try dsimp only at hSw); go_simp; (try with_reducible rfl))
        try simp only [List.getElem_toArray, List.getElem_cons_succ, List.getElem_cons_zero, Act.put, List.setIfInBounds_toArray, List.set_cons_succ, List.set_cons_zero]
        refine wpAnyH_take (i := 7) (v := ?vd7) rfl (by kernel_rfl) (by kernel_rfl) (by kernel_rfl) (fun _ _ _ h => h) (Or.inl ⟨by rfl, ?yd7⟩) (by assumption) ?nd7
        case yd7 => (intro w hSw; (try dsimp only at hSw); go_simp; (try with_reducible rfl))
        try simp only [List.getElem_toArray, List.getElem_cons_succ, List.getElem_cons_zero, Act.put, List.setIfInBounds_toArray, List.set_cons_succ, List.set_cons_zero]
        refine wpAnyH_take (i := 8) (v := ?vd8) rfl (by kernel_rfl) (by kernel_rfl) (by kernel_rfl) (fun _ _ _ h => h) (Or.inl ⟨by rfl, ?yd8⟩) (by assumption) ?nd8
        case yd8 => (intro w hSw; (try dsimp only at hSw); go_simp; (try with_reducible rfl))
        try simp only [List.getElem_toArray, List.getElem_cons_succ, List.getElem_cons_zero, Act.put, List.setIfInBounds_toArray, List.set_cons_succ, List.set_cons_zero]
        refine wpAnyH_take (i := 9) (v := ?vd9) rfl (by kernel_rfl) (by kernel_rfl) (by kernel_rfl) (fun _ _ _ h => h) (Or.inl ⟨by rfl, ?yd9⟩) (by assumption) ?nd9
        case yd9 => (intro w hSw; (try dsimp only at hSw); go_simp; (try with_reducible rfl))
        try simp only [List.getElem_toArray, List.getElem_cons_succ, List.getElem_cons_zero, Act.put, List.setIfInBounds_toArray, List.set_cons_succ, List.set_cons_zero]
        refine wpAnyH_take (i := 10) (v := ?vd10) rfl (by kernel_rfl) (by kernel_rfl) (by kernel_rfl) (fun _ _ _ h => h) (Or.inl ⟨by rfl, ?yd10⟩) (by assumption) ?nd10
        case yd10 => (intro w hSw; (try dsimp only at hSw); go_simp; (try with_reducible rfl))
        try simp only [List.getElem_toArray, List.getElem_cons_succ, List.getElem_cons_zero, Act.put, List.setIfInBounds_toArray, List.set_cons_succ, List.set_cons_zero]
        refine wpAnyH_take (i := 11) (v := ?vd11) rfl (by kernel_rfl) (by kernel_rfl) (by kernel_rfl) (fun _ _ _ h => h) (Or.inl ⟨by rfl, ?yd11⟩) (by assumption) ?nd11
        case yd11 => (intro w hSw; (try dsimp only at hSw); go_simp; (try with_reducible rfl))
        try simp only [List.getElem_toArray, List.getElem_cons_succ, List.getElem_cons_zero, Act.put, List.setIfInBounds_toArray, List.set_cons_succ, List.set_cons_zero]
        refine wpAnyH_ready (rs := [12]) (by kernel_rfl) (by simp) ?_
        refine AllReadyH.cons rfl (fun K hK => ?_) AllReadyH.nil
        go_simp
        refine hK.out _ _ ?_ (fun hHeld => ?_)
        · first | exact HK3.out _ (Chg.refl _ _).drew | exact HK3.out _ hHeld.2 | exact HK3.out _ (hHeld.2.alloc _) | exact HK3.out _ (hHeld.2.trans (hcx.mono (by simp)))
        clear hK K
        try simp only [List.getElem_toArray, List.getElem_cons_succ, List.getElem_cons_zero, Act.put, List.setIfInBounds_toArray, List.set_cons_succ, List.set_cons_zero]
        refine wpAnyH_ready (rs := [13]) (by kernel_rfl) (by simp) ?_
        refine AllReadyH.cons rfl (fun K hK => ?_) AllReadyH.nil
        go_simp
        have kk3 := block_new w4.drew (.cells #[.int .i64 ak] 3)
        have hca3 := (Chg.refl [] w4.drew).alloc (.cells #[.int .i64 ak] 3)
        have hone3 := block_ints (k := .i64) (l := [ak]) kk3
        have hls3 := lt_of_some (HE4.keep0 (Chg.refl [] _).drew).hb
        have hlt3 := (HE4.keep0 (Chg.refl [] _).drew).ty.lt
        have hh3 := heard_any an (some ⟨w4.drew.heap.size, 0, none⟩) [ak] 1 _ ((HE4.keep0 (Chg.refl [] _).drew).keep0 hca3) hone3 (by simp) (by intro y off e; simp only [Option.some.injEq, Addr.mk.injEq, and_true] at e; obtain ⟨rfl, _⟩ := e; exact ⟨by omega, by omega⟩) hsum4 (by omega)
        refine hh3.mono ?_
        rintro e w5 ⟨rfl, HE5, hcx⟩
        refine hK.out _ _ ?_ (fun hHeld => ?_)
        · first | exact HK3.out _ (Chg.refl _ _).drew | exact HK3.out _ hHeld.2 | exact HK3.out _ (hHeld.2.alloc _) | exact HK3.out _ (hHeld.2.trans (hcx.mono (by simp)))
        clear hK K
        try simp only [List.getElem_toArray, List.getElem_cons_succ, List.getElem_cons_zero, Act.put, List.setIfInBounds_toArray, List.set_cons_succ, List.set_cons_zero]
        refine wpAnyH_take (i := 14) (v := ?vd14) rfl (by kernel_rfl) (by kernel_rfl) (by kernel_rfl) (fun _ _ _ h => h) (Or.inl ⟨by rfl, ?yd14⟩) (by assumption) ?nd14
        case yd14 => (intro w hSw; (try dsimp only at hSw); go_simp; (try with_reducible rfl))
        try simp only [List.getElem_toArray, List.getElem_cons_succ, List.getElem_cons_zero, Act.put, List.setIfInBounds_toArray, List.set_cons_succ, List.set_cons_zero]
        refine wpAnyH_take (i := 15) (v := ?vd15) rfl (by kernel_rfl) (by kernel_rfl) (by kernel_rfl) (fun _ _ _ h => h) (Or.inl ⟨by rfl, ?yd15⟩) (by assumption) ?nd15
        case yd15 => (intro w hSw; (try dsimp only at hSw); go_simp; (try with_reducible rfl))
        try simp only [List.getElem_toArray, List.getElem_cons_succ, List.getElem_cons_zero, Act.put, List.setIfInBounds_toArray, List.set_cons_succ, List.set_cons_zero]
        refine wpAnyH_done (by kernel_rfl) ?_ _
        have hcd : Chg [c, ct] w4 w5 := (((Chg.refl [] w4).drew.mono (by simp)).trans (hca3.mono (by simp))).trans hcx
        have HD5 := HD4.keep hcd (by simp; omega) (by simp; omega)
        clear HK3 hcx hHeld kk3 hca3 hone3 hls3 hlt3 hh3 b0' b1' b2'
        have e2 : (D.heardL an [ap, ak]).2 = (D.heardL an [ap]).2 + ((D.heardL an [ap]).1.heardL an [ak]).2 := by rw [htwo.out]
        have e1 : (D.heardL an [ap, ak]).1 = ((D.heardL an [ap]).1.heardL an [ak]).1 := by rw [htwo.out]
        have HSt := Lib.hid (show stepW D (ak, ap, an) = (D.heardL an [ap, ak]).1 from rfl)
        rw [← e1] at HE5
        have hch5 : Chg [b, bt, c, ct] wr w5 := ((hcb.mono (by simp)).trans (hcc.mono (by simp))).trans (hcd.mono (by simp))
        have hw5 : Chg [] w w5 := hcr.then hch5 (by simp; omega)
        clear e1 q7 q4 hsum4 htwo
        generalize (D.heardL an [ap]).2 = k1 at *
        generalize ((D.heardL an [ap]).1.heardL an [ak]).2 = k2 at *
        generalize (D.heardL an [ap, ak]).2 = k3 at *
        generalize (D.heardL an [ap, ak]).1 = D2 at *
        rw [e2] at q1 q2 q3 ⊢
        clear e2
        have hq1 : D.wrong + (k1 + k2) = D2.wrong := q1.symm
        have hq0 : 0 ≤ D2.wrong ∧ D2.wrong ≤ 202 := by omega
        have hq0' : 0 ≤ D2.wrong ∧ D2.wrong ≤ 2 * ((k + 1 : Nat) : Int) := by omega
        have HQ := Lib.hid hq0'
        clear q1 hq0'
        go_wp2_with fail
        refine (wrong_any w5 HD5).mono ?_
        rintro e w' ⟨rfl, rfl⟩
        go_wp2_with fail
        refine (wrong_any w5 HE5).mono ?_
        rintro e w' ⟨rfl, rfl⟩
        go_wp2_with fail
        go_roundw
        case rel =>
          refine ⟨k + 1, by omega, by go_num, ?_, ?_, ?_, ?_, ?_, hw5, hcr2.trans hch5⟩
          · rw [hst.out, HSt.out, ← hq1]
          · rw [hst.out, HSt.out]; exact HD5
          · rw [hst.out, HSt.out]; exact HE5
          · rw [hst.out, HSt.out]; exact HQ.out.1
          · rw [hst.out, HSt.out]; exact HQ.out.2
        case measure => simp [intOf]; omega
      · go_wp2_with fail
        refine (awake_any _).mono ?_
        rintro e w' ⟨rfl, hc⟩
        go_wp2_with fail
        go_ret
        exact ⟨rfl, hcr.trans hc⟩

theorem beatWrong_lifted (os : Os) (started : os.Started) (H : Type) (enc : TypeId × Value → H) :
    ReturnsInHanded {} Try.checked os 4 .any (Rows.beatWrongSpec.pre6 enc Try.prog Try.f4 Rows.beatWrongRow.domain false) (Rows.beatWrongSpec.post enc Try.prog Try.f4 false true false false) := by
  refine law_lifted (C := Try.checked) (tb := 4) (by kernel_rfl) (by kernel_rfl) Try.func4 rfl (fun H ds h => ?_) rfl Try.underlying4 (by kernel_rfl) (by decide +kernel) os started H enc
    (ChangeSpec.witness6 (enc := enc) (C := Try.checked) false ⟨#[], #[.agg #[.int .i64 0, .int .i64 0, .int .i64 0, .int .i64 0, .int .i64 0], .slice none 0 0], []⟩ 8 (by kernel_rfl) (by kernel_rfl) (by kernel_rfl) (by kernel_rfl)) ?_
  · match ds, h with | [a, b], _ => rfl
  · intro W base args ha hv
    obtain ⟨v0, v1, rfl⟩ : ∃ v0 v1, args = [v0, v1] := by match args, ha with | [a, b], _ => exact ⟨a, b, rfl⟩
    obtain ⟨n, me, wait, more, most, rfl, g1, g2, _, _⟩ := nums_of (hv 0 23 v0 rfl rfl)
    obtain ⟨ao, l, cap, rfl, hl, hA⟩ := acts_of (hv 1 40 v1 rfl rfl)
    exact (wrong_walk n me wait more most ao l cap W g1 g2 hl hA).mono fun e W' ⟨h1, h2⟩ => ⟨h1, h2.below⟩

theorem beatWrong_holds : Rows.BeatWrongSaid :=
  OpenClaim.holds_of_wide 4 Try.f4 rfl rfl rfl rfl rfl rfl rfl ⟨rfl, rfl, rfl, rfl, rfl⟩ rfl rfl rfl rfl rfl (by kernel_rfl) Try.func4 (by kernel_rfl)
    (of_decide_eq_true (by kernel_rfl)) (by unfold Func.isWrapper; first | (rw [if_pos (by decide +kernel)]; kernel_rfl) | (rw [if_neg (by decide +kernel)]; exact ⟨rfl, rfl⟩))
    (fun os started H enc _ => beatWrong_lifted os started H enc)
#print axioms beatWrong_holds
end Go.Proofs.Ytjindkkdgjeppaa
