/-
  The reference of grant, its limit.
-/
import Derived.Test.YtdoebgbjpimkaaaRef17
namespace Go.Proofs.Ytdoebgbjpimkaaa
open Go.RowKit

/-! ### Limit, Left -/
/-- From a start on: the least of those that aren't gone, of the first k. -/
def minK (told : List Int) (gone : List Bool) (s : Int) : Nat → Int
  | 0 => s
  | k + 1 => if gone.getD k false then minK told gone s k else (if told.getD k 0 < minK told gone s k then told.getD k 0 else minK told gone s k)
theorem minK_lim {told : List Int} {gone : List Bool} {s : Int} (hs : s ≤ 18446744073709551615) : ∀ k, minK told gone s k = min s (limK told gone k)
  | 0 => by simp [minK, limK]; omega
  | k + 1 => by
    have ih := minK_lim (told := told) (gone := gone) hs k
    unfold minK limK
    by_cases h : gone.getD k false = true
    · rw [if_pos h, if_pos h]; exact ih
    · rw [if_neg h, if_neg h, ih]; split <;> split <;> omega
/-- I am never gone: the limit is as the reference reckons it. -/
theorem minK_eq {g : GM} (wf : g.wf) (hme : g.gone.getD g.me.toNat false = false) : minK g.told g.gone (g.told.getD g.me.toNat 0) g.told.length = g.lim := by
  have h1 := wf.m0
  have h2 := wf.m1
  have h3 := wf.hi g.me.toNat
  rw [minK_lim (by omega)]
  have := limK_le (told := g.told) hme g.told.length (by omega)
  unfold GM.lim
  omega

set_option maxHeartbeats 1000000 in
theorem rlimit_any {bl cap : Nat} {g : GM} (w : World) (H : isR w bl cap g) (wf : g.wf) (hme : g.gone.getD g.me.toNat false = false) :
    Calls Try.prog 16 #[gVal bl cap g] w fun e w' => e = .returned (.int .u64 g.lim) ∧ Chg [] w w' := by
  have hE := Lib.hid (minK_eq wf hme)
  have h2 := wf.h2
  obtain ⟨m, hm⟩ : ∃ m : Nat, g.me = m := ⟨g.me.toNat, by have := wf.m0; omega⟩
  have hml : m < g.told.length := by have := wf.m1; omega
  clear hme wf
  unfold gVal
  rw [hm] at hE ⊢
  simp only [Int.toNat_natCast] at hE
  clear hm
  have hcc := (Chg.refl [] w).alloc (.cells #[.slice (some ⟨bl, 0, none⟩) g.told.length cap, .int .i64 m] 37)
  have k1 := block_new w (.cells #[.slice (some ⟨bl, 0, none⟩) g.told.length cap, .int .i64 m] 37)
  have H3 := H.keep hcc (by simp)
  have x0 := H3.ct m hml
  go_enter Try.func16, Try.ntmps16
  go_upto_region 1 with fail
  generalize w.alloc (.cells #[.slice (some ⟨bl, 0, none⟩) g.told.length cap, .int .i64 m] 37) = W at *
  generalize w.heap.size = B0 at *
  have a0 : W.cell? ⟨B0, 0, none⟩ = some (.slice (some ⟨bl, 0, none⟩) g.told.length cap) := by rw [cell_of_block k1]; rfl
  have a1 : W.cell? ⟨B0, 1, none⟩ = some (.int .i64 m) := by rw [cell_of_block k1]; rfl
  generalize hs : g.told.getD m 0 = s at *
  go_wp2_with fail
  go_loop [3, 15] (fun l i => ∃ k : Nat, k ≤ g.told.length ∧ i = .int .i64 k ∧ l = .int .u64 (minK g.told g.gone s k)) (fun _ i => g.told.length - (intOf i).toNat)
  case atStart => exact ⟨0, Nat.zero_le _, rfl, rfl⟩
  case round =>
    obtain ⟨k, hk, rfl, rfl⟩ := hrel
    by_cases hlt : k < g.told.length
    · have hct := H3.ct k hlt
      have hcg := H3.cg k hlt
      have hstep : Hid (minK g.told g.gone s (k+1) = if g.gone.getD k false then minK g.told g.gone s k else (if g.told.getD k 0 < minK g.told g.gone s k then g.told.getD k 0 else minK g.told g.gone s k)) := rfl
      cases hgk : g.gone.getD k false
      all_goals
        rw [hgk] at hcg hstep
        go_wp2
        all_goals
          go_round
          case rel => exact ⟨k + 1, by omega, by go_num, by rw [hstep.out]; first | (simp_all; done) | (simp_all; omega)⟩
          case measure => simp [intOf]; omega
    · go_wp2
      go_ret
      obtain rfl : k = g.told.length := by omega
      exact ⟨by simp [hE.out, go_sem], hcc⟩


theorem rleft_any {bl cap : Nat} {g : GM} (u : Int) (w : World) (H : isR w bl cap g) (wf : g.wf) (hme : g.gone.getD g.me.toNat false = false) (h0 : 0 ≤ u) :
    Calls Try.prog 19 #[gVal bl cap g, .int .u64 u] w fun e w' => e = .returned (.int .u64 (if u < g.lim then g.lim - u else 0)) ∧ Chg [] w w' := by
  have hl := wf.lim
  have hN : ∀ a b : Int, 0 ≤ a → a ≤ b → b ≤ 18446744073709551615 → IntKind.u64.wrap (b - a) = b - a := fun a b _ _ _ => by simp [IntKind.wrap_u64]; omega
  have hlim := fun (W : World) (h : isR W bl cap g) => rlimit_any W h wf hme
  unfold gVal at *
  have hcc := (Chg.refl [] w).alloc (.cells #[.slice (some ⟨bl, 0, none⟩) g.told.length cap, .int .i64 g.me] 37)
  have k1 := block_new w (.cells #[.slice (some ⟨bl, 0, none⟩) g.told.length cap, .int .i64 g.me] 37)
  have H3 := H.keep hcc (by simp)
  by_cases hu : u < g.lim
  · have H1 := Lib.hid (hN u g.lim h0 (by omega) hl.2)
    clear hN hl
    go_enter Try.func19, Try.ntmps19
    go_upto_region 1 with fail
    generalize w.alloc (.cells #[.slice (some ⟨bl, 0, none⟩) g.told.length cap, .int .i64 g.me] 37) = W at *
    generalize w.heap.size = B0 at *
    have a0 : W.cell? ⟨B0, 0, none⟩ = some (.slice (some ⟨bl, 0, none⟩) g.told.length cap) := by rw [cell_of_block k1]; rfl
    have a1 : W.cell? ⟨B0, 1, none⟩ = some (.int .i64 g.me) := by rw [cell_of_block k1]; rfl
    go_wp2_with fail
    refine (hlim _ H3).mono ?_
    rintro e w2 ⟨rfl, hc2⟩
    have k2 := hc2.at k1 (by simp)
    have a0' : w2.cell? ⟨B0, 0, none⟩ = some (.slice (some ⟨bl, 0, none⟩) g.told.length cap) := by rw [cell_of_block k2]; rfl
    have a1' : w2.cell? ⟨B0, 1, none⟩ = some (.int .i64 g.me) := by rw [cell_of_block k2]; rfl
    go_wp2_with fail
    refine (hlim _ (H3.keep hc2 (by simp))).mono ?_
    rintro e w3 ⟨rfl, hc3⟩
    go_wp2_with fail
    go_ret
    exact ⟨by simp [go_sem, hu, H1.out], (hcc.trans hc2).trans hc3⟩
  · clear hN hl
    go_enter Try.func19, Try.ntmps19
    go_upto_region 1 with fail
    generalize w.alloc (.cells #[.slice (some ⟨bl, 0, none⟩) g.told.length cap, .int .i64 g.me] 37) = W at *
    generalize w.heap.size = B0 at *
    have a0 : W.cell? ⟨B0, 0, none⟩ = some (.slice (some ⟨bl, 0, none⟩) g.told.length cap) := by rw [cell_of_block k1]; rfl
    have a1 : W.cell? ⟨B0, 1, none⟩ = some (.int .i64 g.me) := by rw [cell_of_block k1]; rfl
    go_wp2_with fail
    refine (hlim _ H3).mono ?_
    rintro e w2 ⟨rfl, hc2⟩
    go_wp2_with fail
    go_ret
    exact ⟨by simp [go_sem, hu], hcc.trans hc2⟩

end Go.Proofs.Ytdoebgbjpimkaaa
