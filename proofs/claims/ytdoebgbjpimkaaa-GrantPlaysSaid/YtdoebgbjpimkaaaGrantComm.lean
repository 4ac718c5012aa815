/-
  Plain: acts on grants may change places.
-/
import Derived.Test.YtdoebgbjpimkaaaGrant
namespace Go.Proofs.Ytdoebgbjpimkaaa

/-- An act: gone, of whom, up to which message. -/
abbrev Act3 := Bool × Int × Int
def GM.act (g : GM) (a : Act3) : GM := if a.1 then g.go a.2.1 else g.tell a.2.1 a.2.2

theorem GM.act_len (g : GM) (a : Act3) : (g.act a).told.length = g.told.length := by
  unfold GM.act GM.go GM.tell; split <;> split <;> simp
theorem GM.act_me (g : GM) (a : Act3) : (g.act a).me = g.me := by
  unfold GM.act GM.go GM.tell; split <;> split <;> rfl
theorem GM.act_told (g : GM) (a : Act3) (i : Nat) :
    (g.act a).told[i]? = (g.told[i]?).map fun x => if a.1 = false ∧ a.2.1 = i then max x a.2.2 else x := by
  obtain ⟨b, p, u⟩ := a
  cases b with
  | true => simp only [GM.act, if_true]; unfold GM.go; split <;> simp
  | false =>
    simp only [GM.act, Bool.false_eq_true, if_false, true_and]
    unfold GM.tell GM.tells GM.there
    by_cases h : 0 ≤ p ∧ p < g.told.length
    · obtain ⟨n, rfl⟩ : ∃ n : Nat, p = n := ⟨p.toNat, by omega⟩
      have hn : n < g.told.length := by omega
      by_cases hu : g.told[n] < u
      · by_cases e : n = i
        · subst e; simp [hn, hu]; omega
        · simp [hn, hu, List.getElem?_set, e, show ¬ ((n : Int) = i) by omega]
      · by_cases e : n = i
        · subst e; simp [hn, hu]; omega
        · simp [hu, show ¬ ((n : Int) = i) by omega, hn]
    · simp only [h, decide_false, Bool.false_and, Bool.false_eq_true, if_false]
      by_cases hi : i < g.told.length
      · have : ¬ p = i := by omega
        simp [this]
      · simp [show g.told.length ≤ i by omega]
theorem GM.act_gone (g : GM) (a : Act3) (i : Nat) :
    (g.act a).gone[i]? = (g.gone[i]?).map fun x => if a.1 = true ∧ a.2.1 = i ∧ a.2.1 ≠ g.me ∧ i < g.told.length then true else x := by
  obtain ⟨b, p, u⟩ := a
  cases b with
  | false => simp only [GM.act, Bool.false_eq_true, if_false, false_and]; unfold GM.tell; split <;> simp
  | true =>
    simp only [GM.act, if_true, true_and]
    unfold GM.go GM.goes GM.there
    by_cases h : 0 ≤ p ∧ p < g.told.length
    · obtain ⟨n, rfl⟩ : ∃ n : Nat, p = n := ⟨p.toNat, by omega⟩
      have hn : n < g.told.length := by omega
      by_cases e : n = i
      · subst e
        by_cases hm : (n : Int) = g.me
        · simp [hm]
        · by_cases hg : g.gone[n]?.getD false
          · cases hx : g.gone[n]? <;> simp_all
          · by_cases hl : n < g.gone.length
            · simp_all
            · simp_all
      · have : ¬ ((n : Int) = i) := by omega
        simp only [this, false_and, if_false]
        split <;> simp [List.getElem?_set, e]
    · simp only [h, decide_false, Bool.false_and, Bool.false_eq_true, if_false]
      have : ¬ (p = (i : Int) ∧ p ≠ g.me ∧ i < g.told.length) := by omega
      simp [this]

theorem GM.act_comm (g : GM) (a b : Act3) : (g.act a).act b = (g.act b).act a := by
  have h1 : ((g.act a).act b).told = ((g.act b).act a).told := by
    apply List.ext_getElem?
    intro i
    simp only [GM.act_told, Option.map_map]
    congr 1
    funext x
    simp only [Function.comp]
    split <;> split <;> omega
  have h2 : ((g.act a).act b).gone = ((g.act b).act a).gone := by
    apply List.ext_getElem?
    intro i
    simp only [GM.act_gone, GM.act_len, GM.act_me, Option.map_map]
    congr 1
    funext x
    simp only [Function.comp]
    split <;> split <;> rfl
  have h3 : ((g.act a).act b).me = ((g.act b).act a).me := by simp only [GM.act_me]
  cases hx : (g.act a).act b
  cases hy : (g.act b).act a
  rw [hx] at h1 h2 h3
  rw [hy] at h1 h2 h3
  simp_all

theorem GM.fold_act (g : GM) (a : Act3) (l : List Act3) : l.foldl GM.act (g.act a) = (l.foldl GM.act g).act a := by
  induction l generalizing g with
  | nil => rfl
  | cons b l ih => simp only [List.foldl_cons]; rw [GM.act_comm, ih]
theorem GM.fold_turn (g : GM) (l : List Act3) : l.foldl GM.act g = l.reverse.foldl GM.act g := by
  induction l with
  | nil => rfl
  | cons a l ih => simp only [List.foldl_cons, List.reverse_cons, List.foldl_append, List.foldl_nil]; rw [GM.fold_act, ih]
end Go.Proofs.Ytdoebgbjpimkaaa
