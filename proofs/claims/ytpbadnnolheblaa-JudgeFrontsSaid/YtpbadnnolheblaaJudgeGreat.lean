/-
  What is too great.
-/
import Derived.Test.YtpbadnnolheblaaJudgeJ
namespace Go.Proofs.Ytpbadnnolheblaa
open Go.RowKit

def small (S : List (List (List Nat))) : Prop := S.length ≤ 10 ∧ ∀ r ∈ S, r.length ≤ 60 ∧ ∀ m ∈ r, m.length ≤ 100

def greatPost (S : List (List (List Nat))) (w : World) (e : Ending) (w' : World) : Prop := ∃ g, e = .returned (.bool g) ∧ (g = false → small S) ∧ w' = w
set_option maxHeartbeats 2000000 in
theorem great_any (w : World) (so : Option Addr) (S : List (List (List Nat))) (sc : Nat) (lo : Option Addr) (lc : Nat) (hS : isSent w so S) (hSl : S.length ≤ maxLen) :
    Calls Try.prog 5 #[.slice so S.length sc, .slice lo 0 lc] w (greatPost S w) := by
  unfold maxLen at hSl
  by_cases h10 : 10 < S.length
  · go_enter Try.func5, Try.ntmps5
    go_wp2_with fail
    go_ret
    exact ⟨true, rfl, by simp, rfl⟩
  · go_enter Try.func5, Try.ntmps5
    go_wp2_with fail
    go_loop [5] (fun i => ∃ p : Nat, p ≤ S.length ∧ i = .int .i64 p ∧ ∀ q, q < p → (S.getD q []).length ≤ 60 ∧ ∀ m ∈ S.getD q [], m.length ≤ 100) (fun i => S.length - (intOf i).toNat)
    case atStart => exact ⟨0, by omega, rfl, fun q hq => by omega⟩
    case round =>
      obtain ⟨p, hp, rfl, hall⟩ := hrel
      by_cases hlt : p < S.length
      · obtain ⟨b, off, rfl⟩ := hS.addr hlt
        obtain ⟨a1, c1, _, x0, x1, x2, x3⟩ := hS.at hlt
        have HA := Lib.hid hall
        clear hall
        obtain ⟨r, hr⟩ : ∃ r, S.getD p [] = r := ⟨_, rfl⟩
        rw [hr] at x0 x1 x2
        have HR := Lib.hid hr
        clear hr
        unfold maxLen at x3
        by_cases h60 : 60 < r.length
        · go_wp2_with fail
          go_ret
          exact ⟨true, rfl, by simp, rfl⟩
        · go_wp2_with fail
          go_loop [6] (fun i => ∃ k : Nat, k ≤ r.length ∧ i = .int .i64 k ∧ ∀ q, q < k → (r.getD q []).length ≤ 100) (fun i => r.length - (intOf i).toNat)
          case atStart => exact ⟨0, by omega, rfl, fun q hq => by omega⟩
          case round =>
            obtain ⟨k, hk, rfl, hrow⟩ := hrel
            by_cases hlk : k < r.length
            · obtain ⟨b2, off2, rfl⟩ := x1.addr hlk
              obtain ⟨a2, c2, _, y0, y1, y2, y3, _⟩ := x1.at hlk
              have HRow := Lib.hid hrow
              clear hrow
              obtain ⟨m, hm⟩ : ∃ m, r.getD k [] = m := ⟨_, rfl⟩
              rw [hm] at y0 y1 y2
              have HM := Lib.hid hm
              clear hm
              unfold maxLen at y3
              by_cases h100 : 100 < m.length
              · go_wp2_with fail
                go_ret
                exact ⟨true, rfl, by simp, rfl⟩
              · go_wp2_with fail
                go_round
                case rel =>
                  refine ⟨k + 1, by omega, by go_num, fun q hq => ?_⟩
                  by_cases e : q = k
                  · subst e; rw [HM.out]; omega
                  · exact HRow.out q (by omega)
                case measure => simp [intOf]; omega
            · have HN := Lib.hid (show ∀ q, q < p + 1 → (S.getD q []).length ≤ 60 ∧ ∀ m ∈ S.getD q [], m.length ≤ 100 from fun q hq => by
                by_cases e : q = p
                · subst e
                  rw [HR.out]
                  refine ⟨by omega, fun m hm => ?_⟩
                  obtain ⟨i, hi, rfl⟩ := List.mem_iff_getElem.1 hm
                  have := hrow i (by omega)
                  simpa [List.getD, hi] using this
                · exact HA.out q (by omega))
              clear hrow
              go_wp2_with fail
              go_round
              case rel => exact ⟨p + 1, by omega, by go_num, HN.out⟩
              case measure => simp [intOf]; omega
      · have HN := Lib.hid (show small S from ⟨by omega, fun r hr => by
          obtain ⟨i, hi, rfl⟩ := List.mem_iff_getElem.1 hr
          have := hall i (by omega)
          simpa [List.getD, hi] using this⟩)
        clear hall
        go_wp2_with fail
        go_loop [7] (fun i => i = .int .i64 0) (fun i => 0)
        case atStart => rfl
        case round =>
          obtain rfl := hrel
          go_wp2_with fail
          go_ret
          exact ⟨false, rfl, fun _ => HN.out, rfl⟩
end Go.Proofs.Ytpbadnnolheblaa
