/-
  Package judge: what is found of logs.
-/
import Derived.Test.YtpbadnnolheblaaJudgeParts
namespace Go.Proofs.Ytpbadnnolheblaa
open Go.RowKit

/-- Rows of logs. -/
def isLogs (w : World) (ao : Option Addr) (L : List (List Dl)) : Prop :=
  ∀ i, i < L.length → ∃ b off a' cap, ao = some ⟨b, off, none⟩ ∧ b < w.heap.size ∧ w.cell? ⟨b, off + i, none⟩ = some (.slice a' (L.getD i []).length cap) ∧ isLog w a' (L.getD i [])
theorem isLogs.keep0 {w w' : World} {ao : Option Addr} {L : List (List Dl)} (h : isLogs w ao L) (hc : Chg [] w w') : isLogs w' ao L := by
  intro i hi
  obtain ⟨b, off, a', cap, h1, h2, h3, h4⟩ := h i hi
  exact ⟨b, off, a', cap, h1, Nat.lt_of_lt_of_le h2 hc.size, (hc.cell (p := ⟨b, off + i, none⟩) h2 (by simp)).trans h3, h4.keep0 hc⟩
theorem isLogs.at {w : World} {b off : Nat} {l : List (List Dl)} (h : isLogs w (some ⟨b, off, none⟩) l) {i : Nat} (hi : i < l.length) :
    ∃ a' cap, b < w.heap.size ∧ w.cell? ⟨b, off + i, none⟩ = some (.slice a' (l.getD i []).length cap) ∧ isLog w a' (l.getD i []) := by
  obtain ⟨b', off', a', cap, h1, h2⟩ := h i hi
  simp only [Option.some.injEq, Addr.mk.injEq, and_true] at h1
  obtain ⟨rfl, rfl⟩ := h1
  exact ⟨a', cap, h2⟩
theorem isLogs.addr {w : World} {ao : Option Addr} {l : List (List Dl)} (h : isLogs w ao l) {i : Nat} (hi : i < l.length) : ∃ b off, ao = some ⟨b, off, none⟩ := by
  obtain ⟨b, off, _, _, h1, _⟩ := h i hi; exact ⟨b, off, h1⟩

/-- What Judge says of logs whose messages all were sent so. -/
def judged (L : List (List Dl)) (what : Nat) (p i : Int) : Prop :=
  (what = 2 ∧ ∃ pn xn : Nat, p = pn ∧ i = xn ∧ pn < L.length ∧ twice (L.getD pn []) = some xn ∧ ∀ p', p' < pn → twice (L.getD p' []) = none) ∨
  (what = 3 ∧ (∀ p', p' < L.length → twice (L.getD p' []) = none) ∧ ∃ p0 qn xn : Nat, p = qn ∧ i = xn ∧ p0 < qn ∧ qn < L.length ∧ partsAt (L.getD p0 []) (L.getD qn []) = some xn) ∨
  (what = 0 ∧ p = -1 ∧ i = -1 ∧ (∀ p', p' < L.length → twice (L.getD p' []) = none) ∧ ∀ p0 qn, p0 < qn → qn < L.length → partsAt (L.getD p0 []) (L.getD qn []) = none)

set_option maxRecDepth 100000 in
set_option maxHeartbeats 4000000 in
theorem judge_known (w : World) (so : Option Addr) (S : List (List (List Nat))) (sc : Nat) (lo : Option Addr) (L : List (List Dl)) (lc : Nat) (hS : isSent w so S) (hSl : S.length ≤ 1000) (hr : ∀ r ∈ S, r.length ≤ 1000)
    (hL : isLogs w lo L) (hLl : L.length ≤ 1000) (hll : ∀ l ∈ L, l.length ≤ 100000) (hk : ∀ l ∈ L, ∀ d ∈ l, kn S d) (hw : ∀ l ∈ L, ∀ d ∈ l, d.wf) :
    Calls Try.prog 8 #[.slice so S.length sc, .slice lo L.length lc] w fun e w' => ∃ what p i, e = .returned (.tuple #[.int .u8 (what : Nat), .int .i64 p, .int .i64 i]) ∧ judged L what p i ∧ Chg [] w w' := by
  go_enter Try.func8, Try.ntmps8
  go_wp2_with fail
  go_loopw [16] (fun i wr => ∃ k : Nat, k ≤ L.length ∧ i = .int .i64 k ∧ (∀ p', p' < k → twice (L.getD p' []) = none) ∧ Chg [] w wr) (fun i _ => L.length - (intOf i).toNat)
  case atStart => exact ⟨0, by omega, rfl, fun p' h => by omega, Chg.refl _ _⟩
  case round =>
    obtain ⟨k, hkl, rfl, hnone, hcr⟩ := hrel
    by_cases hlt : k < L.length
    · obtain ⟨bl, ol, rfl⟩ := hL.addr hlt
      obtain ⟨a1, ca1, l1, x0, x1⟩ := (hL.keep0 hcr).at hlt
      have hmem : L.getD k [] ∈ L := by simp [List.getD, hlt]
      have hal := alone_known wr so S sc a1 (L.getD k []) ca1 (hS.keep0 hcr) hSl hr x1 (hll _ hmem) (hk _ hmem) (hw _ hmem)
      have hlx := hll _ hmem
      cases htw : twice (L.getD k []) with
      | some i =>
        have HJ := Lib.hid (show judged L 2 (k : Int) (i : Int) from .inl ⟨rfl, k, i, rfl, rfl, hlt, htw, hnone⟩)
        rw [htw] at hal
        unfold aloneV at hal
        clear htw hnone
        generalize L.getD k [] = l at *
        go_wp2_with fail
        refine hal.mono ?_
        rintro e w' ⟨rfl, hc⟩
        go_wp2_with fail
        refine bodyPost_ret (v := .tuple #[.int .u8 (2 : Nat), .int .i64 (k : Int), .int .i64 (i : Int)]) (by simp [results, Try.results8, go_sem]) rfl ?_
        exact ⟨2, _, _, rfl, HJ.out, hcr.trans hc⟩
      | none =>
        have HN := Lib.hid (show ∀ p', p' < k + 1 → twice (L.getD p' []) = none from fun p' h => by
          by_cases e : p' = k
          · subst e; exact htw
          · exact hnone p' (by omega))
        rw [htw] at hal
        unfold aloneV at hal
        clear htw hnone
        generalize L.getD k [] = l at *
        go_wp2_with fail
        refine hal.mono ?_
        rintro e w' ⟨rfl, hc⟩
        go_wp2_with fail
        go_roundw
        case rel => exact ⟨k + 1, by omega, by go_num, HN.out, hcr.trans hc⟩
        case measure => simp [intOf]; omega
    · obtain rfl : k = L.length := by omega
      have HN := Lib.hid hnone
      clear hnone
      go_wp2_with fail
      go_loopw [35] (fun i wr => ∃ p : Nat, p ≤ L.length ∧ i = .int .i64 p ∧ (∀ p0 qn, p0 < p → p0 < qn → qn < L.length → partsAt (L.getD p0 []) (L.getD qn []) = none) ∧ Chg [] w wr) (fun i _ => L.length - (intOf i).toNat)
      case atStart => exact ⟨0, by omega, rfl, fun p0 qn h => by omega, hcr⟩
      case round =>
        obtain ⟨p, hpl, rfl, hpn, hcr⟩ := hrel
        by_cases hlp : p < L.length
        · have HP := Lib.hid hpn
          clear hpn
          go_wp2_with fail
          go_loopw [12] (fun i wr => ∃ q : Nat, p < q ∧ q ≤ L.length ∧ i = .int .i64 q ∧ (∀ qn, p < qn → qn < q → partsAt (L.getD p []) (L.getD qn []) = none) ∧ Chg [] w wr) (fun i _ => L.length - (intOf i).toNat)
          case atStart => exact ⟨p + 1, by omega, by omega, by go_num, fun qn h1 h2 => by omega, hcr⟩
          case round =>
            obtain ⟨q, hpq, hql, rfl, hqn, hcr⟩ := hrel
            by_cases hlq : q < L.length
            · obtain ⟨bl, ol, rfl⟩ := hL.addr hlq
              obtain ⟨a1, ca1, l1, x0, x1⟩ := (hL.keep0 hcr).at hlp
              obtain ⟨b1, cb1, _, y0, y1⟩ := (hL.keep0 hcr).at hlq
              have hlx := hll (L.getD p []) (by simp [List.getD, hlp])
              have hly := hll (L.getD q []) (by simp [List.getD, hlq])
              have HQ := Lib.hid hqn
              clear hqn
              obtain ⟨x, hx⟩ : ∃ x, L.getD p [] = x := ⟨_, rfl⟩
              obtain ⟨y, hy⟩ : ∃ y, L.getD q [] = y := ⟨_, rfl⟩
              rw [hx] at x0 x1 hlx
              rw [hy] at y0 y1 hly
              have HX := Lib.hid hx
              have HY := Lib.hid hy
              have hpi : (p : Int) < (L.length : Int) := by omega
              have hqi : (q : Int) < (L.length : Int) := by omega
              clear hx hy
              have HK := Lib.hid (show ∀ w', Chg [] wr w' → (isLog w' a1 x ∧ isLog w' b1 y ∧ w'.cell? ⟨bl, ol + p, none⟩ = some (.slice a1 x.length ca1) ∧ w'.cell? ⟨bl, ol + q, none⟩ = some (.slice b1 y.length cb1)) ∧ Chg [] wr w' from
                fun w' hc => ⟨⟨x1.keep0 hc, y1.keep0 hc, (hc.cell (p := ⟨bl, ol + p, none⟩) l1 (by simp)).trans x0, (hc.cell (p := ⟨bl, ol + q, none⟩) l1 (by simp)).trans y0⟩, hc⟩)
              go_upto_region 14 with fail
              have C0 : Chg [] wr wr.drew := (Chg.refl _ _).drew
              refine wp_region_held_drew (S := fun w' => (isLog w' a1 x ∧ isLog w' b1 y ∧ w'.cell? ⟨bl, ol + p, none⟩ = some (.slice a1 x.length ca1) ∧ w'.cell? ⟨bl, ol + q, none⟩ = some (.slice b1 y.length cb1)) ∧ Chg [] wr w') (by kernel_rfl) ?_ (fun hHeld => ?_)
              · exact HK.out _ C0
              refine wpAnyH_take (i := 0) (v := ?vb1_0) rfl (by kernel_rfl) (by kernel_rfl) (by kernel_rfl) (fun _ _ _ h => h) (Or.inl ⟨by rfl, ?yb1_0⟩) (by assumption) ?nb1_0
              case yb1_0 => (intro w hSw; (try dsimp only at hSw); go_simp; (try with_reducible rfl))
              try simp only [List.getElem_toArray, List.getElem_cons_succ, List.getElem_cons_zero, Act.put, List.setIfInBounds_toArray, List.set_cons_succ, List.set_cons_zero]
              refine wpAnyH_take (i := 1) (v := ?vb2_1) rfl (by kernel_rfl) (by kernel_rfl) (by kernel_rfl) (fun _ _ _ h => h) (Or.inl ⟨by rfl, ?yb2_1⟩) (by assumption) ?nb2_1
              case yb2_1 => (intro w hSw; (try dsimp only at hSw); go_simp; (try with_reducible rfl))
              try simp only [List.getElem_toArray, List.getElem_cons_succ, List.getElem_cons_zero, Act.put, List.setIfInBounds_toArray, List.set_cons_succ, List.set_cons_zero]
              refine wpAnyH_take (i := 2) (v := ?vb3_2) rfl (by kernel_rfl) (by kernel_rfl) (by kernel_rfl) (fun _ _ _ h => h) (Or.inl ⟨by rfl, ?yb3_2⟩) (by assumption) ?nb3_2
              case yb3_2 => (intro w hSw; (try dsimp only at hSw); go_simp; (try with_reducible rfl))
              try simp only [List.getElem_toArray, List.getElem_cons_succ, List.getElem_cons_zero, Act.put, List.setIfInBounds_toArray, List.set_cons_succ, List.set_cons_zero]
              refine wpAnyH_take (i := 3) (v := ?vb4_3) rfl (by kernel_rfl) (by kernel_rfl) (by kernel_rfl) (fun _ _ _ h => h) (Or.inl ⟨by rfl, ?yb4_3⟩) (by assumption) ?nb4_3
              case yb4_3 => (intro w hSw; (try dsimp only at hSw); go_simp; (try with_reducible rfl))
              try simp only [List.getElem_toArray, List.getElem_cons_succ, List.getElem_cons_zero, Act.put, List.setIfInBounds_toArray, List.set_cons_succ, List.set_cons_zero]
              refine wpAnyH_take (i := 4) (v := ?vb5_4) rfl (by kernel_rfl) (by kernel_rfl) (by kernel_rfl) (fun _ _ _ h => h) (Or.inl ⟨by rfl, ?yb5_4⟩) (by assumption) ?nb5_4
              case yb5_4 => (intro w hSw; (try dsimp only at hSw); go_simp; (try with_reducible rfl))
              try simp only [List.getElem_toArray, List.getElem_cons_succ, List.getElem_cons_zero, Act.put, List.setIfInBounds_toArray, List.set_cons_succ, List.set_cons_zero]
              refine wpAnyH_take (i := 5) (v := ?vb6_5) rfl (by kernel_rfl) (by kernel_rfl) (by kernel_rfl) (fun _ _ _ h => h) (Or.inl ⟨by rfl, ?yb6_5⟩) (by assumption) ?nb6_5
              case yb6_5 => (intro w hSw; (try dsimp only at hSw); go_simp; (try with_reducible rfl))
              try simp only [List.getElem_toArray, List.getElem_cons_succ, List.getElem_cons_zero, Act.put, List.setIfInBounds_toArray, List.set_cons_succ, List.set_cons_zero]
              refine wpAnyH_take (i := 6) (v := ?vb7_6) rfl (by kernel_rfl) (by kernel_rfl) (by kernel_rfl) (fun _ _ _ h => h) (Or.inl ⟨by rfl, ?yb7_6⟩) (by assumption) ?nb7_6
              case yb7_6 => (intro w hSw; (try dsimp only at hSw); go_simp; (try with_reducible rfl))
              try simp only [List.getElem_toArray, List.getElem_cons_succ, List.getElem_cons_zero, Act.put, List.setIfInBounds_toArray, List.set_cons_succ, List.set_cons_zero]
              refine wpAnyH_take (i := 7) (v := ?vb8_7) rfl (by kernel_rfl) (by kernel_rfl) (by kernel_rfl) (fun _ _ _ h => h) (Or.inl ⟨by rfl, ?yb8_7⟩) (by assumption) ?nb8_7
              case yb8_7 => (intro w hSw; (try dsimp only at hSw); go_simp; (try with_reducible rfl))
              try simp only [List.getElem_toArray, List.getElem_cons_succ, List.getElem_cons_zero, Act.put, List.setIfInBounds_toArray, List.set_cons_succ, List.set_cons_zero]
              refine wpAnyH_ready (rs := [8]) (by kernel_rfl) (by simp) ?_
              refine AllReadyH.cons rfl (fun K hK => ?_) AllReadyH.nil
              go_simp
              refine (parts_any wr.drew a1 b1 x y ca1 cb1 (hHeld.1.1.keep0 (Chg.refl [] _)) (hHeld.1.2.1.keep0 (Chg.refl [] _)) hlx hly).mono ?_
              rintro e w3 ⟨rfl, hcx⟩
              have C1 := C0.trans hcx
              refine hK.out _ _ ?_ (fun hHeld => ?_)
              · exact HK.out _ C1
              clear hK K
              try simp only [List.getElem_toArray, List.getElem_cons_succ, List.getElem_cons_zero, Act.put, List.setIfInBounds_toArray, List.set_cons_succ, List.set_cons_zero]
              refine wpAnyH_take (i := 9) (v := ?vb9_9) rfl (by kernel_rfl) (by kernel_rfl) (by kernel_rfl) (fun _ _ _ h => h) (Or.inl ⟨by rfl, ?yb9_9⟩) (by assumption) ?nb9_9
              case yb9_9 => (intro w hSw; (try dsimp only at hSw); go_simp; (try with_reducible rfl))
              try simp only [List.getElem_toArray, List.getElem_cons_succ, List.getElem_cons_zero, Act.put, List.setIfInBounds_toArray, List.set_cons_succ, List.set_cons_zero]
              refine wpAnyH_done (by kernel_rfl) ?_ _
              
              cases hpt : partsAt x y with
              | some i =>
                have HJ := Lib.hid (show judged L 3 (q : Int) (i : Int) from .inr (.inl ⟨rfl, HN.out, p, q, i, rfl, rfl, hpq, hlq, by rw [HX.out, HY.out]; exact hpt⟩))
                clear hpt
                unfold partsI
                go_wp2_with fail
                refine bodyPost_ret (v := .tuple #[.int .u8 (3 : Nat), .int .i64 (q : Int), .int .i64 (i : Int)]) (by simp [results, Try.results8, go_sem]) rfl ?_
                exact ⟨3, _, _, rfl, HJ.out, hcr.trans hHeld.2⟩
              | none =>
                have HQ2 := Lib.hid (show ∀ qn, p < qn → qn < q + 1 → partsAt (L.getD p []) (L.getD qn []) = none from fun qn h1 h2 => by
                  by_cases e : qn = q
                  · subst e; rw [HX.out, HY.out]; exact hpt
                  · exact HQ.out qn h1 (by omega))
                clear hpt
                unfold partsI
                go_wp2_with fail
                go_roundw
                case rel => exact ⟨q + 1, by omega, by omega, by go_num, HQ2.out, hcr.trans hHeld.2⟩
                case measure => simp [intOf]; omega
            · have HP2 := Lib.hid (show ∀ p0 qn, p0 < p + 1 → p0 < qn → qn < L.length → partsAt (L.getD p0 []) (L.getD qn []) = none from fun p0 qn h1 h2 h3 => by
                by_cases e : p0 = p
                · subst e; exact hqn qn h2 (by omega)
                · exact HP.out p0 qn (by omega) h2 h3)
              clear hqn
              go_wp2_with fail
              go_roundw
              case rel => exact ⟨p + 1, by omega, by go_num, HP2.out, hcr⟩
              case measure => simp [intOf]; omega
        · have HJ := Lib.hid (show judged L 0 (-1) (-1) from .inr (.inr ⟨rfl, rfl, rfl, HN.out, fun p0 qn h1 h2 => hpn p0 qn (by omega) h1 h2⟩))
          clear hpn
          go_wp2_with fail
          refine bodyPost_ret (v := .tuple #[.int .u8 (0 : Nat), .int .i64 (-1), .int .i64 (-1)]) (by simp [results, Try.results8, go_sem]) rfl ?_
          exact ⟨0, _, _, rfl, HJ.out, hcr⟩
end Go.Proofs.Ytpbadnnolheblaa
