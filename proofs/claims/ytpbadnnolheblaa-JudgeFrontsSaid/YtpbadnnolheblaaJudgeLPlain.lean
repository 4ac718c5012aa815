/-
  How many ids a set has; fronts of one row. No program in sight.
-/
import Derived.Test.YtpbadnnolheblaaJudgeBPlain
import Derived.Test.YtpbadnnolheblaaJudgeJ
namespace Go.Proofs.Ytpbadnnolheblaa
open Go.RowKit Go.Maps

/-- How many ids the set of a row's ids has. -/
def szOf (l : List Dl) : Nat := Maps.size (setOf (H := Unit) (.agg []) (keys l))
theorem sz_list (l : List Dl) (hw : ∀ d ∈ l, d.wf) : ∀ k, k ≤ l.length → ∃ u : List (Nat × Nat), u.Nodup ∧ (∀ x, x ∈ u ↔ x ∈ ids (l.take k)) ∧ u.length = szOf (l.take k)
  | 0, _ => ⟨[], by simp, by simp [ids], by simp [szOf, keys, setOf, Maps.size]⟩
  | k + 1, hk => by
    obtain ⟨u, h1, h2, h3⟩ := sz_list l hw k (by omega)
    have hd : l[k] ∈ l := List.getElem_mem (by omega)
    have ht : l.take (k + 1) = l.take k ++ [l[k]] := List.take_succ_eq_append_getElem (by omega)
    have hs : szOf (l.take (k + 1)) = if (((l[k]).f, (l[k]).s) ∈ ids (l.take k)) then szOf (l.take k) else szOf (l.take k) + 1 := by
      have hh := has_ids (l.take k) (fun d hd => hw d (List.mem_of_mem_take hd)) l[k] (hw _ hd)
      unfold szOf
      rw [ht, show keys (l.take k ++ [l[k]]) = keys (l.take k) ++ [klOf (l[k]).f (l[k]).s] from List.map_append, setOf_snoc, size_put (tidy_setOf _ _ (keys_isKey _)), hh]
      simp
    by_cases hm : ((l[k]).f, (l[k]).s) ∈ ids (l.take k)
    · refine ⟨u, h1, fun x => ?_, by rw [hs, if_pos hm, h3]⟩
      rw [ht, ids_append, h2, List.mem_append]
      constructor
      · exact .inl
      · rintro (h | h)
        · exact h
        · simp [ids] at h; subst h; exact hm
    · refine ⟨u ++ [((l[k]).f, (l[k]).s)], ?_, fun x => ?_, by rw [hs, if_neg hm]; simp [h3]⟩
      · rw [List.nodup_append]
        refine ⟨h1, by simp, fun a ha b hb => ?_⟩
        simp at hb; subst hb
        intro e; subst e
        exact hm ((h2 _).1 ha)
      · rw [ht, ids_append, List.mem_append, List.mem_append, h2]
        simp [ids]
/-- A set of the ids of R has as many as R. -/
theorem sz_same (l R : List Dl) (hw : ∀ d ∈ l, d.wf) (hn : (ids R).Nodup) (h : ∀ x, x ∈ ids l ↔ x ∈ ids R) : szOf l = R.length := by
  obtain ⟨u, h1, h2, h3⟩ := sz_list l hw l.length (Nat.le_refl _)
  rw [List.take_length] at h2 h3
  have := ((List.perm_ext_iff_of_nodup h1 hn).2 fun x => (h2 x).trans (h x)).length_eq
  rw [← h3, this]; simp [ids]
theorem sz_nodup (l : List Dl) (hw : ∀ d ∈ l, d.wf) (hn : (ids l).Nodup) : szOf l = l.length := sz_same l l hw hn fun _ => Iff.rfl
theorem ids_take (l : List Dl) (k : Nat) : ids (l.take k) = (ids l).take k := by simp [ids]
theorem nodup_take {l : List Dl} (hn : (ids l).Nodup) (k : Nat) : (ids (l.take k)).Nodup := by rw [ids_take]; exact List.Sublist.nodup (List.take_sublist _ _) hn

/-- Fronts of one row. -/
def fronts (R : List Dl) (ks : List Nat) : List (List Dl) := ks.map fun k => R.take k
theorem fronts_len (R : List Dl) (ks : List Nat) : (fronts R ks).length = ks.length := by simp [fronts]
theorem fronts_get (R : List Dl) (ks : List Nat) {i : Nat} (hi : i < ks.length) : (fronts R ks).getD i [] = R.take (ks.getD i 0) := by simp [fronts, List.getD, hi]
theorem fronts_mem {R : List Dl} {ks : List Nat} {l : List Dl} (h : l ∈ fronts R ks) : ∃ k, l = R.take k := by
  simp only [fronts, List.mem_map] at h
  obtain ⟨k, _, rfl⟩ := h
  exact ⟨k, rfl⟩
theorem fronts_snoc (R : List Dl) (ks : List Nat) (k : Nat) : fronts R (ks ++ [k]) = fronts R ks ++ [R.take k] := by simp [fronts]
theorem parts_fronts (R : List Dl) (a b : Nat) : partsAt (R.take a) (R.take b) = none := by
  unfold partsAt partsK
  rw [List.find?_eq_none]
  intro i hi
  simp only [List.mem_range, List.length_take] at hi
  have h1 : i < R.length := by omega
  have h2 : i < a := by omega
  have h3 : i < b := by omega
  simp [parts, List.getD, List.getElem?_take, h1, h2, h3]
theorem judged_fronts {R : List Dl} (hn : (ids R).Nodup) {ks : List Nat} {what : Nat} {p x : Int} (h : judged (fronts R ks) what p x) : what = 0 ∧ p = -1 ∧ x = -1 := by
  have ht : ∀ i, i < (fronts R ks).length → twice ((fronts R ks).getD i []) = none := fun i hi => by
    rw [fronts_get R ks (by rwa [fronts_len] at hi)]
    exact twice_none (nodup_take hn _)
  rcases h with ⟨_, pn, xn, _, _, hp, hw, _⟩ | ⟨_, _, p0, qn, xn, _, _, h4, h5, h6⟩ | ⟨h1, h2, h3, _⟩
  · rw [ht pn hp] at hw; cases hw
  · rw [fronts_get R ks (by rw [fronts_len] at h5; omega), fronts_get R ks (by rwa [fronts_len] at h5), parts_fronts] at h6
    cases h6
  · exact ⟨h1, h2, h3⟩

/-- What lacks, summed over the first logs. -/
def lackK (n : Int) (L : List (List Dl)) : Nat → Int
  | 0 => 0
  | k + 1 => lackK n L k + (n - (szOf (L.getD k []) : Int))
def lackS (n : Int) (ks : List Nat) : Int := (ks.map fun k : Nat => n - (k : Int)).foldl (· + ·) 0
theorem lackS_snoc (n : Int) (ks : List Nat) (k : Nat) : lackS n (ks ++ [k]) = lackS n ks + (n - (k : Int)) := by simp [lackS]
theorem lackS_bound (n : Nat) (ks : List Nat) (h : ∀ k ∈ ks, k ≤ n) : 0 ≤ lackS n ks ∧ lackS n ks ≤ ks.length * n := by
  have : ∀ i, i ≤ ks.length → 0 ≤ lackS n (ks.take i) ∧ lackS n (ks.take i) ≤ i * n := by
    intro i
    induction i with
    | zero => intro _; simp [lackS]
    | succ i ih =>
      intro hi
      have := ih (by omega)
      rw [List.take_succ_eq_append_getElem (by omega), lackS_snoc]
      have hk := h (ks[i]) (List.getElem_mem (by omega))
      have e : ((i + 1 : Nat) : Int) * n = i * n + n := by rw [Int.natCast_add, Int.add_mul]; simp
      rw [e]
      omega
  have := this ks.length (Nat.le_refl _)
  rwa [List.take_length] at this
theorem lack_fronts {R : List Dl} (hn : (ids R).Nodup) (hw : ∀ d ∈ R, d.wf) {ks : List Nat} (hk : ∀ k ∈ ks, k ≤ R.length) : ∀ i, i ≤ ks.length → lackK R.length (fronts R ks) i = lackS R.length (ks.take i)
  | 0, _ => by simp [lackK, lackS]
  | i + 1, hi => by
    have h1 := hk (ks[i]) (List.getElem_mem (by omega))
    rw [lackK, lack_fronts hn hw hk i (by omega), List.take_succ_eq_append_getElem (by omega), lackS_snoc, fronts_get R ks (by omega),
      sz_nodup _ (fun d hd => hw d (List.mem_of_mem_take hd)) (nodup_take hn _)]
    have : ks.getD i 0 = ks[i] := by simp [List.getD, show i < ks.length by omega]
    rw [this, List.length_take, Nat.min_eq_left h1]
theorem sz_should {R : List Dl} (hn : (ids R).Nodup) (hw : ∀ d ∈ R, d.wf) (ks : List Nat) : szOf ((fronts R ks).flatten ++ R) = R.length := by
  have hsub : ∀ d ∈ (fronts R ks).flatten ++ R, d ∈ R := by
    intro d hd
    rcases List.mem_append.1 hd with h | h
    · obtain ⟨l, hl, hd⟩ := List.mem_flatten.1 h
      obtain ⟨k, rfl⟩ := fronts_mem hl
      exact List.mem_of_mem_take hd
    · exact h
  refine sz_same _ R (fun d hd => hw d (hsub d hd)) hn fun x => ?_
  rw [ids_append, List.mem_append]
  constructor
  · rintro (h | h)
    · simp only [ids, List.mem_map] at h ⊢
      obtain ⟨d, hd, rfl⟩ := h
      exact ⟨d, hsub d (List.mem_append.2 (.inl hd)), rfl⟩
    · exact h
  · exact .inr
end Go.Proofs.Ytpbadnnolheblaa
