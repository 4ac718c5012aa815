/-
  The reference of crc: whether bytes fit.
-/
import Derived.Test.YtoidbcmhlnelgaaCrcRMark
namespace Go.Proofs.Ytoidbcmhlnelgaa
open Go.RowKit Crc

theorem mark_fits {L : List Nat} {n : Nat} (hn : L.length = n + 4) : (L.take n ++ foot (sum (L.take n)) = L) ↔ foot (sum (L.take n)) = L.drop n := by
  conv => lhs; rhs; rw [← List.take_append_drop n L]
  exact List.append_cancel_left_eq _ _ _ |> fun h => by rw [h]

def rfitsPost (L : List Nat) (w : World) (e : Ending) (w' : World) : Prop :=
  ∃ ao cap, e = .returned (.tuple #[.slice ao (fitsB L).length cap, .int .i64 (fitsE L)]) ∧ isBytes w' ao (fitsB L) ∧ Chg [] w w'

set_option maxRecDepth 100000 in
set_option maxHeartbeats 1000000 in
theorem rfits_any (w : World) (ao : Option Addr) (L : List Nat) (cap : Nat) (h : isBytes w ao L) (hl : L.length ≤ cap) (hcap : cap ≤ maxLen) (hsm : L.length ≤ 100000) :
    Calls Try.prog 14 #[.slice ao L.length cap] w (rfitsPost L w) := by
  unfold maxLen at hcap
  by_cases h4 : L.length < 4
  · have HE := Lib.hid (show fitsE L = 2 by simp [fitsE, h4])
    have HB := Lib.hid (show fitsB L = [] by simp [fitsB, HE.out])
    go_enter Try.func14, Try.ntmps14
    go_wp2_with fail
    refine bodyPost_ret (v := .tuple #[.slice (some ⟨w.heap.size, 0, none⟩) 0 0, .int .i64 2]) (by simp [results, Try.results14, go_sem]) rfl ?_
    refine ⟨_, 0, ?_, isBytes_nil _ (some ⟨w.heap.size, 0, none⟩) |> (HB.out ▸ ·), (Chg.refl _ _).alloc _⟩
    rw [HE.out, HB.out]; rfl
  · obtain ⟨n, hn⟩ : ∃ n, L.length = n + 4 := ⟨L.length - 4, by omega⟩
    obtain ⟨b, off, rfl⟩ := h.addr (show 0 < L.length by omega)
    have hnc : n ≤ cap := by omega
    have hcn : ¬ cap = n := by omega
    have hle4 : (n : Int) ≤ (n : Int) + 4 := by omega
    have hd1 : decide ((n : Int) + 4 < 4) = false := by simp; omega
    have HK := Lib.hid (show ∀ w', Chg [] w w' → isBytes w' (some ⟨b, off, none⟩) L ∧ Chg [] w w' from fun w' hc => ⟨h.keep0 hc, hc⟩)
    have hN := Lib.hid hn
    have hll : (L.length : Int) = (n : Int) + 4 := by omega
    go_enter Try.func14, Try.ntmps14
    go_upto_region 4 with fail
    refine wp_region_held_drew (S := fun w' => isBytes w' (some ⟨b, off, none⟩) L ∧ Chg [] w w') (by kernel_rfl) ?_ (fun hHeld => ?_)
    · first | exact HK.out _ (Chg.refl _ _).drew | exact HK.out _ hHeld.2 | exact HK.out _ (hHeld.2.alloc _) | exact HK.out _ (hHeld.2.trans hcx)
    refine wpAnyH_take (i := 0) (v := ?vr0) rfl (by kernel_rfl) (by kernel_rfl) (by kernel_rfl) (fun _ _ _ h => h) (Or.inl ⟨by rfl, ?yr0⟩) (by assumption) ?nr0
    case yr0 => (intro w hSw; (try dsimp only at hSw); go_simp; (try with_reducible rfl))
    try simp only [List.getElem_toArray, List.getElem_cons_succ, List.getElem_cons_zero, Act.put, List.setIfInBounds_toArray, List.set_cons_succ, List.set_cons_zero]
    refine wpAnyH_take (i := 1) (v := ?vr1) rfl (by kernel_rfl) (by kernel_rfl) (by kernel_rfl) (fun _ _ _ h => h) (Or.inl ⟨by rfl, ?yr1⟩) (by assumption) ?nr1
    case yr1 => (intro w hSw; (try dsimp only at hSw); go_simp; (try with_reducible rfl))
    try simp only [List.getElem_toArray, List.getElem_cons_succ, List.getElem_cons_zero, Act.put, List.setIfInBounds_toArray, List.set_cons_succ, List.set_cons_zero]
    refine wpAnyH_take (i := 2) (v := ?vr2) rfl (by kernel_rfl) (by kernel_rfl) (by kernel_rfl) (fun _ _ _ h => h) (Or.inl ⟨by rfl, ?yr2⟩) (by assumption) ?nr2
    case yr2 => (intro w hSw; (try dsimp only at hSw); go_simp; (try with_reducible rfl))
    try simp only [List.getElem_toArray, List.getElem_cons_succ, List.getElem_cons_zero, Act.put, List.setIfInBounds_toArray, List.set_cons_succ, List.set_cons_zero]
    refine wpAnyH_take (i := 5) (v := ?vr5) rfl (by kernel_rfl) (by kernel_rfl) (by kernel_rfl) (fun _ _ _ h => h) (Or.inl ⟨by rfl, ?yr5⟩) (by assumption) ?nr5
    case yr5 => (intro w hSw; (try dsimp only at hSw); go_simp; (try with_reducible rfl))
    try simp only [List.getElem_toArray, List.getElem_cons_succ, List.getElem_cons_zero, Act.put, List.setIfInBounds_toArray, List.set_cons_succ, List.set_cons_zero]
    refine wpAnyH_take (i := 6) (v := ?vr6) rfl (by kernel_rfl) (by kernel_rfl) (by kernel_rfl) (fun _ _ _ h => h) (Or.inl ⟨by rfl, ?yr6⟩) (by assumption) ?nr6
    case yr6 => (intro w hSw; (try dsimp only at hSw); (have hcv := conv_bytes Try.underlying28 Try.underlying5 Try.underlying9 cap hSw.1); (rw [hN.out] at hcv); go_simp; (try with_reducible rfl))
    try simp only [List.getElem_toArray, List.getElem_cons_succ, List.getElem_cons_zero, Act.put, List.setIfInBounds_toArray, List.set_cons_succ, List.set_cons_zero]
    refine wpAnyH_ready (rs := [3]) (by kernel_rfl) (by simp) ?_
    refine AllReadyH.cons rfl (fun K hK => ?_) AllReadyH.nil
    go_simp
    have hln : (L.take n).length = n := by rw [List.length_take]; omega
    have hrm := rmark_any w.drew (some ⟨b, off, none⟩) (L.take n) cap (hHeld.1.take n) (by simp) (by omega)
    rw [hln] at hrm
    refine hrm.mono ?_
    rintro e w' ⟨ao3, cap3, rfl, q1, q2, q3, q4, q5, hcx, _⟩
    refine hK.out _ _ ?_ (fun hHeld => ?_)
    · first | exact HK.out _ (Chg.refl _ _).drew | exact HK.out _ hHeld.2 | exact HK.out _ (hHeld.2.alloc _) | exact HK.out _ (hHeld.2.trans hcx)
    clear hK K
    try simp only [List.getElem_toArray, List.getElem_cons_succ, List.getElem_cons_zero, Act.put, List.setIfInBounds_toArray, List.set_cons_succ, List.set_cons_zero]
    refine wpAnyH_ready (rs := [4]) (by kernel_rfl) (by simp) ?_
    refine AllReadyH.cons rfl (fun K hK => ?_) AllReadyH.nil
    go_simp
    have hcv := conv_bytes Try.underlying28 Try.underlying5 Try.underlying9 cap3 q1
    rw [List.length_append, hln] at hcv
    rw [hcv]
    refine hK.out _ _ ?_ (fun hHeld => ?_)
    · first | exact HK.out _ (Chg.refl _ _).drew | exact HK.out _ hHeld.2 | exact HK.out _ (hHeld.2.alloc _) | exact HK.out _ (hHeld.2.trans hcx)
    clear hK K
    try simp only [List.getElem_toArray, List.getElem_cons_succ, List.getElem_cons_zero, Act.put, List.setIfInBounds_toArray, List.set_cons_succ, List.set_cons_zero]
    refine wpAnyH_take (i := 7) (v := ?vr7) rfl (by kernel_rfl) (by kernel_rfl) (by kernel_rfl) (fun _ _ _ h => h) (Or.inl ⟨by rfl, ?yr7⟩) (by assumption) ?nr7
    case yr7 => (intro w hSw; (try dsimp only at hSw); go_simp; (try with_reducible rfl))
    try simp only [List.getElem_toArray, List.getElem_cons_succ, List.getElem_cons_zero, Act.put, List.setIfInBounds_toArray, List.set_cons_succ, List.set_cons_zero]
    refine wpAnyH_done (by kernel_rfl) ?_ _
    have hall := h.all
    rw [strB_eq (a := L.take n ++ foot (sum (L.take n))) (fun x hx => (List.mem_append.1 hx).elim (fun hx => hall x (List.mem_of_mem_take hx)) (foot_lt _ x)) hall]
    have hcw := hHeld.2
    have hbw := hHeld.1
    clear hHeld
    have hiff := mark_fits hn
    have hln : (L.take n).length = n := by rw [List.length_take]; omega
    by_cases e : foot (sum (L.take n)) = L.drop n
    · have HE := Lib.hid (show fitsE L = 0 by unfold fitsE; rw [if_neg (by omega), show L.length - 4 = n by omega, if_pos e])
      have HB := Lib.hid (show fitsB L = L.take n by unfold fitsB; rw [if_pos HE.out, show L.length - 4 = n by omega])
      have hde : decide (L.take n ++ foot (sum (L.take n)) = L) = true := by simp [hiff, e]
      rw [hde]
      clear e hde hiff
      have HL := Lib.hid hln
      clear hln
      go_wp2_with fail
      refine bodyPost_ret (v := .tuple #[.slice (some ⟨b, off, none⟩) n cap, .int .i64 0]) (by simp [results, Try.results14, go_sem]) rfl ?_
      refine ⟨some ⟨b, off, none⟩, cap, ?_, by rw [HB.out]; exact hbw.take n, hcw⟩
      rw [HE.out, HB.out, HL.out]
    · have HE := Lib.hid (show fitsE L = 5 by unfold fitsE; rw [if_neg (by omega), show L.length - 4 = n by omega, if_neg e])
      have HB := Lib.hid (show fitsB L = [] by unfold fitsB; rw [if_neg (by rw [HE.out]; omega)])
      have hde : decide (L.take n ++ foot (sum (L.take n)) = L) = false := by simp [hiff, e]
      rw [hde]
      clear e hde hiff
      go_wp2_with fail
      refine bodyPost_ret (v := .tuple #[.slice (some ⟨w'.heap.size, 0, none⟩) 0 0, .int .i64 5]) (by simp [results, Try.results14, go_sem]) rfl ?_
      refine ⟨some ⟨w'.heap.size, 0, none⟩, 0, ?_, by rw [HB.out]; exact isBytes_nil _ _, hcw.alloc _⟩
      rw [HE.out, HB.out]; rfl
end Go.Proofs.Ytoidbcmhlnelgaa
