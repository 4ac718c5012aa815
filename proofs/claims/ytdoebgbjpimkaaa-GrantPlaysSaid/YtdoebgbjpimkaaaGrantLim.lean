/-
  Plain: the limit is at most what each process that isn't gone told, and no act lowers it.
-/
import Derived.Test.YtdoebgbjpimkaaaGrantComm
namespace Go.Proofs.Ytdoebgbjpimkaaa

theorem limK_le {told : List Int} {gone : List Bool} {i : Nat} (hg : gone.getD i false = false) : ∀ k, i < k → limK told gone k ≤ told.getD i 0
  | 0, h => by omega
  | k + 1, h => by
    unfold limK
    by_cases e : i = k
    · subst e; rw [hg]; simp only [Bool.false_eq_true, if_false]; split <;> omega
    · have := limK_le (told := told) hg k (by omega)
      split
      · exact this
      · split <;> omega
theorem limK_mono {told told' : List Int} {gone gone' : List Bool} (ht : ∀ i, told.getD i 0 ≤ told'.getD i 0) (hg : ∀ i, gone.getD i false = true → gone'.getD i false = true) :
    ∀ k, limK told gone k ≤ limK told' gone' k
  | 0 => by simp [limK]
  | k + 1 => by
    have := limK_mono ht hg k
    have := ht k
    unfold limK
    by_cases h1 : gone.getD k false = true
    · rw [if_pos h1, if_pos (hg k h1)]; assumption
    · rw [if_neg h1]
      by_cases h2 : gone'.getD k false = true
      · rw [if_pos h2]; split <;> omega
      · rw [if_neg h2]; split <;> split <;> omega
theorem GM.lim_le {g : GM} {i : Nat} (hi : i < g.told.length) (hg : g.gone.getD i false = false) : g.lim ≤ g.told.getD i 0 := limK_le hg _ hi
theorem GM.lim_act (g : GM) (a : Act3) : g.lim ≤ (g.act a).lim := by
  unfold GM.lim
  rw [GM.act_len]
  refine limK_mono (fun i => ?_) (fun i => ?_) _
  · simp only [List.getD, GM.act_told]
    cases h : g.told[i]? with
    | none => simp
    | some x => simp; split <;> omega
  · simp only [List.getD, GM.act_gone]
    cases h : g.gone[i]? with
    | none => simp
    | some x => simp; intro h; simp [h]
theorem GM.act_goneD (g : GM) (a : Act3) (i : Nat) (h : (g.act a).gone.getD i false = true) : g.gone.getD i false = true ∨ (a.1 = true ∧ a.2.1 = i ∧ g.goes i = true) := by
  simp only [List.getD, GM.act_gone] at h
  cases hx : g.gone[i]? with
  | none => simp [hx] at h
  | some x =>
    simp only [hx, Option.map_some, Option.getD_some] at h
    cases x with
    | true => left; simp [List.getD, hx]
    | false =>
      right
      split at h
      · rename_i hc
        obtain ⟨h1, h2, h3, h4⟩ := hc
        refine ⟨h1, h2, ?_⟩
        simp only [GM.goes, GM.there]
        simp [List.getD, hx, h4]
        omega
      · cases h
theorem GM.fold_len (g : GM) (l : List Act3) : (l.foldl GM.act g).told.length = g.told.length := by
  induction l generalizing g with
  | nil => rfl
  | cons a l ih => simp only [List.foldl_cons]; rw [ih, GM.act_len]
theorem GM.fold_me (g : GM) (l : List Act3) : (l.foldl GM.act g).me = g.me := by
  induction l generalizing g with
  | nil => rfl
  | cons a l ih => simp only [List.foldl_cons]; rw [ih, GM.act_me]
/-- Whoever goes is no other than one of the 64, and not me, clamped or not. -/
theorem GM.goes_range {g : GM} {n me p : Int} (h1 : g.told.length = (clampN n).toNat) (h2 : g.me = clampM (clampN n).toNat me) (h : g.goes p = true) : 0 ≤ p ∧ p ≤ 63 ∧ (p == me) = false := by
  simp only [GM.goes, GM.there, Bool.and_eq_true, decide_eq_true_eq, bne_iff_ne] at h
  obtain ⟨⟨⟨a, b⟩, c⟩, _⟩ := h
  have := clampN_hi n
  have := clampN_lo n
  refine ⟨a, by omega, ?_⟩
  rw [h2] at c
  unfold clampM at c
  simp only [beq_eq_false_iff_ne]
  omega
end Go.Proofs.Ytdoebgbjpimkaaa
