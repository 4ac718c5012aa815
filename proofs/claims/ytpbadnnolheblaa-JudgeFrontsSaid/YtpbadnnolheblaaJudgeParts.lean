/-
  Package judge: where two logs part.
-/
import Derived.Test.YtpbadnnolheblaaJudgeAlone
namespace Go.Proofs.Ytpbadnnolheblaa
open Go.RowKit

def parts (a b : List Dl) (i : Nat) : Bool := decide (a.getD i Dl.z ≠ b.getD i Dl.z)
def partsK (a b : List Dl) (k : Nat) : Option Nat := (List.range k).find? (parts a b)
def partsAt (a b : List Dl) : Option Nat := partsK a b (min a.length b.length)
theorem partsK_succ (a b : List Dl) (k : Nat) : partsK a b (k + 1) = (partsK a b k).or (if parts a b k then some k else none) := by
  unfold partsK
  rw [List.range_succ, List.find?_append]
  congr 1
  simp only [List.find?_cons, List.find?_nil]
  cases parts a b k <;> rfl
theorem partsK_some (a b : List Dl) {k m : Nat} (h : partsK a b (k + 1) = some k) (hm : k + 1 ≤ m) : partsK a b m = some k := by
  induction m with
  | zero => omega
  | succ m ih =>
    by_cases e : m = k
    · subst e; exact h
    · rw [partsK_succ, ih (by omega)]; rfl
def partsI : Option Nat → Int
  | none => -1
  | some i => (i : Int)

set_option maxRecDepth 100000 in
set_option maxHeartbeats 2000000 in
theorem parts_any (w : World) (ao bo : Option Addr) (a b : List Dl) (ca cb : Nat) (ha : isLog w ao a) (hb : isLog w bo b) (hla : a.length ≤ 100000) (hlb : b.length ≤ 100000) :
    Calls Try.prog 9 #[.slice ao a.length ca, .slice bo b.length cb] w fun e w' => e = .returned (.int .i64 (partsI (partsAt a b))) ∧ Chg [] w w' := by
  obtain ⟨M, hM⟩ : ∃ M : Nat, (if (b.length : Int) < (a.length : Int) then (b.length : Int) else (a.length : Int)) = (M : Int) := ⟨min a.length b.length, by split <;> omega⟩
  have hMm : M = min a.length b.length := by split at hM <;> omega
  have hM2 : (if b.length < a.length then (b.length : Int) else (a.length : Int)) = (M : Int) := by split <;> omega
  have HMm := Lib.hid hMm
  have hMa : M ≤ a.length ∧ M ≤ b.length := by omega
  clear hMm
  go_enter Try.func9, Try.ntmps9
  go_wp2_with fail
  clear hM hM2
  go_loopw [11] (fun i wr => ∃ k : Nat, k ≤ M ∧ i = .int .i64 k ∧ partsK a b k = none ∧ Chg [] w wr) (fun i _ => M - (intOf i).toNat)
  case atStart => exact ⟨0, by omega, rfl, rfl, Chg.refl _ _⟩
  case round =>
    obtain ⟨k, hkM, rfl, hpk, hcr⟩ := hrel
    by_cases hlt : k < M
    · obtain ⟨ba, oa, rfl⟩ := ha.addr (show k < a.length by omega)
      obtain ⟨bb, ob, rfl⟩ := hb.addr (show k < b.length by omega)
      obtain ⟨a1, ca1, l1, p0, p1, p2, p3, p4, p5, _⟩ := (ha.keep0 hcr).at (show k < a.length by omega)
      obtain ⟨b1, cb1, l2, q0, q1, q2, q3, q4, q5, _⟩ := (hb.keep0 hcr).at (show k < b.length by omega)
      have hst := partsK_succ a b k
      rw [hpk] at hst
      have hst2 := Lib.hid hst
      have hpm := Lib.hid (fun h => @partsK_some a b k M h (by omega))
      have hdef := Lib.hid (show parts a b k = !decide (a.getD k Dl.z = b.getD k Dl.z) by simp [parts])
      have HPK := Lib.hid hpk
      have hka : (k : Int) < (a.length : Int) := by omega
      have hkb : (k : Int) < (b.length : Int) := by omega
      clear hst hpk
      generalize a.getD k Dl.z = x at *
      generalize b.getD k Dl.z = y at *
      have HK := Lib.hid (show ∀ w', Chg [] wr w' → (isBytes w' a1 x.p ∧ isBytes w' b1 y.p ∧ w'.cell? ⟨ba, oa + k * 3, none⟩ = some (.int .u8 (x.f : Int)) ∧ w'.cell? ⟨ba, oa + k * 3 + 1, none⟩ = some (.int .u64 (x.s : Int)) ∧ w'.cell? ⟨ba, oa + k * 3 + 2, none⟩ = some (.slice a1 x.p.length ca1) ∧ w'.cell? ⟨bb, ob + k * 3, none⟩ = some (.int .u8 (y.f : Int)) ∧ w'.cell? ⟨bb, ob + k * 3 + 1, none⟩ = some (.int .u64 (y.s : Int)) ∧ w'.cell? ⟨bb, ob + k * 3 + 2, none⟩ = some (.slice b1 y.p.length cb1)) ∧ Chg [] wr w' from
        fun w' hc => ⟨⟨p3.keep0 hc, q3.keep0 hc, (hc.cell (p := ⟨ba, oa + k * 3, none⟩) l1 (by simp)).trans p0, (hc.cell (p := ⟨ba, oa + k * 3 + 1, none⟩) l1 (by simp)).trans p1, (hc.cell (p := ⟨ba, oa + k * 3 + 2, none⟩) l1 (by simp)).trans p2,
          (hc.cell (p := ⟨bb, ob + k * 3, none⟩) l2 (by simp)).trans q0, (hc.cell (p := ⟨bb, ob + k * 3 + 1, none⟩) l2 (by simp)).trans q1, (hc.cell (p := ⟨bb, ob + k * 3 + 2, none⟩) l2 (by simp)).trans q2⟩, hc⟩)
      go_upto_region 4 with fail
      have C0 : Chg [] wr wr.drew := (Chg.refl _ _).drew
      refine wp_region_held_drew (S := fun w' => (isBytes w' a1 x.p ∧ isBytes w' b1 y.p ∧ w'.cell? ⟨ba, oa + k * 3, none⟩ = some (.int .u8 (x.f : Int)) ∧ w'.cell? ⟨ba, oa + k * 3 + 1, none⟩ = some (.int .u64 (x.s : Int)) ∧ w'.cell? ⟨ba, oa + k * 3 + 2, none⟩ = some (.slice a1 x.p.length ca1) ∧ w'.cell? ⟨bb, ob + k * 3, none⟩ = some (.int .u8 (y.f : Int)) ∧ w'.cell? ⟨bb, ob + k * 3 + 1, none⟩ = some (.int .u64 (y.s : Int)) ∧ w'.cell? ⟨bb, ob + k * 3 + 2, none⟩ = some (.slice b1 y.p.length cb1)) ∧ Chg [] wr w') (by kernel_rfl) ?_ (fun hHeld => ?_)
      · exact HK.out _ C0
      refine wpAnyH_take (i := 0) (v := ?vb1_0) rfl (by kernel_rfl) (by kernel_rfl) (by kernel_rfl) (fun _ _ _ h => h) (Or.inl ⟨by rfl, ?yb1_0⟩) (by assumption) ?nb1_0
      case yb1_0 => (intro w hSw; (try dsimp only at hSw); go_simp; (try with_reducible rfl))
      try simp only [List.getElem_toArray, List.getElem_cons_succ, List.getElem_cons_zero, Act.put, List.setIfInBounds_toArray, List.set_cons_succ, List.set_cons_zero]
      refine wpAnyH_take (i := 1) (v := ?vb2_1) rfl (by kernel_rfl) (by kernel_rfl) (by kernel_rfl) (fun _ _ _ h => h) (Or.inl ⟨by rfl, ?yb2_1⟩) (by assumption) ?nb2_1
      case yb2_1 => (intro w hSw; (try dsimp only at hSw); go_simp; (try with_reducible rfl))
      try simp only [List.getElem_toArray, List.getElem_cons_succ, List.getElem_cons_zero, Act.put, List.setIfInBounds_toArray, List.set_cons_succ, List.set_cons_zero]
      refine wpAnyH_take (i := 2) (v := ?vb3_2) rfl (by kernel_rfl) (by kernel_rfl) (by kernel_rfl) (fun _ _ _ h => h) (Or.inl ⟨by rfl, ?yb3_2⟩) (by assumption) ?nb3_2
      case yb3_2 => (intro w hSw; (try dsimp only at hSw); go_simp; (try with_reducible rfl))
      try simp only [List.getElem_toArray, List.getElem_cons_succ, List.getElem_cons_zero, Act.put, List.setIfInBounds_toArray, List.set_cons_succ, List.set_cons_zero]
      refine wpAnyH_take (i := 3) (v := ?vb4_3) rfl (by kernel_rfl) (by kernel_rfl) (by kernel_rfl) (fun _ _ _ h => h) (Or.inl ⟨by rfl, ?yb4_3⟩) (by assumption) ?nb4_3
      case yb4_3 => (intro w hSw; (try dsimp only at hSw); go_simp; (try with_reducible rfl))
      try simp only [List.getElem_toArray, List.getElem_cons_succ, List.getElem_cons_zero, Act.put, List.setIfInBounds_toArray, List.set_cons_succ, List.set_cons_zero]
      refine wpAnyH_take (i := 4) (v := ?vb5_4) rfl (by kernel_rfl) (by kernel_rfl) (by kernel_rfl) (fun _ _ _ h => h) (Or.inl ⟨by rfl, ?yb5_4⟩) (by assumption) ?nb5_4
      case yb5_4 => (intro w hSw; (try dsimp only at hSw); go_simp; (try with_reducible rfl))
      try simp only [List.getElem_toArray, List.getElem_cons_succ, List.getElem_cons_zero, Act.put, List.setIfInBounds_toArray, List.set_cons_succ, List.set_cons_zero]
      refine wpAnyH_take (i := 5) (v := ?vb6_5) rfl (by kernel_rfl) (by kernel_rfl) (by kernel_rfl) (fun _ _ _ h => h) (Or.inl ⟨by rfl, ?yb6_5⟩) (by assumption) ?nb6_5
      case yb6_5 => (intro w hSw; (try dsimp only at hSw); go_simp; (try with_reducible rfl))
      try simp only [List.getElem_toArray, List.getElem_cons_succ, List.getElem_cons_zero, Act.put, List.setIfInBounds_toArray, List.set_cons_succ, List.set_cons_zero]
      refine wpAnyH_take (i := 6) (v := ?vb7_6) rfl (by kernel_rfl) (by kernel_rfl) (by kernel_rfl) (fun _ _ _ h => h) (Or.inl ⟨by rfl, ?yb7_6⟩) (by assumption) ?nb7_6
      case yb7_6 => (intro w hSw; (try dsimp only at hSw); go_simp; (try with_reducible rfl))
      try simp only [List.getElem_toArray, List.getElem_cons_succ, List.getElem_cons_zero, Act.put, List.setIfInBounds_toArray, List.set_cons_succ, List.set_cons_zero]
      refine wpAnyH_take (i := 7) (v := ?vb8_7) rfl (by kernel_rfl) (by kernel_rfl) (by kernel_rfl) (fun _ _ _ h => h) (Or.inl ⟨by rfl, ?yb8_7⟩) (by assumption) ?nb8_7
      case yb8_7 => (intro w hSw; (try dsimp only at hSw); go_simp; (try with_reducible rfl))
      try simp only [List.getElem_toArray, List.getElem_cons_succ, List.getElem_cons_zero, Act.put, List.setIfInBounds_toArray, List.set_cons_succ, List.set_cons_zero]
      refine wpAnyH_ready (rs := [8]) (by kernel_rfl) (by simp) ?_
      refine AllReadyH.cons rfl (fun K hK => ?_) AllReadyH.nil
      go_simp
      refine (same_any wr.drew x y a1 b1 ca1 cb1 (hHeld.1.1.keep0 (Chg.refl [] _)) (hHeld.1.2.1.keep0 (Chg.refl [] _))).mono ?_
      rintro e w3 ⟨rfl, hcx⟩
      have C1 := C0.trans hcx
      refine hK.out _ _ ?_ (fun hHeld => ?_)
      · exact HK.out _ C1
      clear hK K
      try simp only [List.getElem_toArray, List.getElem_cons_succ, List.getElem_cons_zero, Act.put, List.setIfInBounds_toArray, List.set_cons_succ, List.set_cons_zero]
      refine wpAnyH_take (i := 9) (v := ?vb9_9) rfl (by kernel_rfl) (by kernel_rfl) (by kernel_rfl) (fun _ _ _ h => h) (Or.inl ⟨by rfl, ?yb9_9⟩) (by assumption) ?nb9_9
      case yb9_9 => (intro w hSw; (try dsimp only at hSw); go_simp; (try with_reducible rfl))
      try simp only [List.getElem_toArray, List.getElem_cons_succ, List.getElem_cons_zero, Act.put, List.setIfInBounds_toArray, List.set_cons_succ, List.set_cons_zero]
      refine wpAnyH_done (by kernel_rfl) ?_ _
      
      cases hxy : decide (x = y) with
      | true =>
        have HN := Lib.hid (show partsK a b (k + 1) = none by rw [hst2.out, hdef.out, hxy]; rfl)
        clear hxy
        go_wp2_with fail
        go_roundw
        case rel => exact ⟨k + 1, by omega, by go_num, HN.out, hcr.trans hHeld.2⟩
        case measure => simp [intOf]; omega
      | false =>
        have HN := Lib.hid (show partsAt a b = some k by unfold partsAt; rw [← HMm.out]; exact hpm.out (by rw [hst2.out, hdef.out, hxy]; rfl))
        clear hxy
        go_wp2_with fail
        go_ret
        rw [HN.out]
        exact ⟨rfl, hcr.trans hHeld.2⟩
    · obtain rfl : k = M := by omega
      have HN := Lib.hid (show partsAt a b = none by unfold partsAt; rw [← HMm.out]; exact hpk)
      clear hpk
      go_wp2_with fail
      go_ret
      rw [HN.out]
      exact ⟨rfl, hcr⟩
end Go.Proofs.Ytpbadnnolheblaa
