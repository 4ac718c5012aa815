/-
  Plain: the row of all messages has each once; two that were turned round part; one that comes twice is found.
-/
import Derived.Test.YtpbadnnolheblaaJudgeRow2
namespace Go.Proofs.Ytpbadnnolheblaa

theorem ids_get (l : List Dl) {i : Nat} (h : i < l.length) : idAt l i = ((l[i]).f, (l[i]).s) := by simp [idAt, List.getD, h]
theorem ids_append (a b : List Dl) : ids (a ++ b) = ids a ++ ids b := by simp [ids]
/-- Where no id comes twice none is found again. -/
theorem again_none {l : List Dl} (h : (ids l).Nodup) {i : Nat} (hi : i < l.length) : again l i = false := by
  unfold again
  rw [decide_eq_false_iff_not]
  intro hm
  have e : ids l = ids (l.take i) ++ ids (l.drop i) := by rw [← ids_append, List.take_append_drop]
  rw [e, List.nodup_append] at h
  have h2 : idAt l i ∈ ids (l.drop i) := by
    rw [ids_get l hi]
    simp only [ids, List.mem_map]
    exact ⟨l[i], by rw [List.mem_iff_getElem]; exact ⟨0, by simp; omega, by simp⟩, rfl⟩
  exact h.2.2 _ hm _ h2 rfl
theorem twiceK_none {l : List Dl} (h : ∀ i, i < l.length → again l i = false) : ∀ k, k ≤ l.length → twiceK l k = none
  | 0, _ => rfl
  | k + 1, hk => by rw [twiceK_succ, twiceK_none h k (by omega), h k (by omega)]; rfl
theorem twice_none {l : List Dl} (h : (ids l).Nodup) : twice l = none := twiceK_none (fun _ hi => again_none h hi) _ (Nat.le_refl _)
theorem again_take (l : List Dl) (d : Dl) {i : Nat} (hi : i < l.length) : again (l ++ [d]) i = again l i := by
  unfold again idAt
  rw [List.take_append_of_le_length (by omega)]
  have : (l ++ [d]).getD i Dl.z = l.getD i Dl.z := by simp [List.getD, List.getElem?_append, hi]
  rw [this]
theorem twice_snoc {l : List Dl} (h : (ids l).Nodup) (d : Dl) (hd : d ∈ l) : twice (l ++ [d]) = some l.length := by
  have h1 : ∀ k, k ≤ l.length → twiceK (l ++ [d]) k = none := by
    intro k
    induction k with
    | zero => intro _; rfl
    | succ k ih => intro hk; rw [twiceK_succ, ih (by omega), again_take l d (by omega), again_none h (by omega)]; rfl
  have h2 : again (l ++ [d]) l.length = true := by
    unfold again
    rw [decide_eq_true_iff]
    have e1 : (l ++ [d]).take l.length = l := by simp
    have e2 : idAt (l ++ [d]) l.length = (d.f, d.s) := by simp [idAt, List.getD]
    rw [e1, e2]
    simp only [ids, List.mem_map]
    exact ⟨d, hd, rfl⟩
  unfold twice
  rw [List.length_append, List.length_singleton, twiceK_succ, h1 _ (Nat.le_refl _), h2]; rfl

/-- Two neighbours turned round. -/
def bentOf (l : List Dl) (i : Nat) : List Dl := (l.set i (l.getD (i + 1) Dl.z)).set (i + 1) (l.getD i Dl.z)
theorem bentOf_len (l : List Dl) (i : Nat) : (bentOf l i).length = l.length := by simp [bentOf]
def sw (i j : Nat) : Nat := if j = i then i + 1 else if j = i + 1 then i else j
theorem sw_inj {i a b : Nat} (h : sw i a = sw i b) : a = b := by
  unfold sw at h
  split at h <;> split at h <;> (try split at h) <;> (try split at h) <;> omega
theorem bentOf_get (l : List Dl) {i : Nat} (hi : i + 1 < l.length) (j : Nat) : (bentOf l i).getD j Dl.z = l.getD (sw i j) Dl.z := by
  unfold bentOf sw
  by_cases h1 : j = i
  · subst h1
    simp [List.getD, List.getElem?_set, show j < l.length by omega]
  · by_cases h2 : j = i + 1
    · subst h2
      simp [List.getD, List.getElem?_set, hi]
    · have e1 : ¬ i = j := fun q => h1 q.symm
      have e2 : ¬ i + 1 = j := fun q => h2 q.symm
      simp [List.getD, List.getElem?_set, h1, h2, e1, e2]
theorem sw_lt {i j n : Nat} (hi : i + 1 < n) (hj : j < n) : sw i j < n := by unfold sw; split <;> (try split) <;> omega
theorem bentOf_mem {l : List Dl} {i : Nat} (hi : i + 1 < l.length) {d : Dl} (hd : d ∈ bentOf l i) : d ∈ l := by
  obtain ⟨j, hj, rfl⟩ := List.mem_iff_getElem.1 hd
  rw [bentOf_len] at hj
  have := bentOf_get l hi j
  have h2 := sw_lt hi hj
  simp only [List.getD, List.getElem?_eq_getElem (show j < (bentOf l i).length by rw [bentOf_len]; exact hj), List.getElem?_eq_getElem h2, Option.getD_some] at this
  rw [this]; exact List.getElem_mem h2
theorem ids_inj {l : List Dl} (h : (ids l).Nodup) {a b : Nat} (ha : a < l.length) (hb : b < l.length) (e : idAt l a = idAt l b) : a = b := by
  have hla : a < (ids l).length := by simpa [ids] using ha
  have hlb : b < (ids l).length := by simpa [ids] using hb
  have e1 : (ids l)[a] = idAt l a := by rw [ids_get l ha]; simp [ids]
  have e2 : (ids l)[b] = idAt l b := by rw [ids_get l hb]; simp [ids]
  rw [List.nodup_iff_pairwise_ne, List.pairwise_iff_getElem] at h
  rcases Nat.lt_trichotomy a b with q | q | q
  · exact absurd (by rw [e1, e2, e]) (h a b hla hlb q)
  · exact q
  · exact absurd (by rw [e1, e2, e]) (h b a hlb hla q)
theorem bentOf_nodup {l : List Dl} (h : (ids l).Nodup) {i : Nat} (hi : i + 1 < l.length) : (ids (bentOf l i)).Nodup := by
  rw [List.nodup_iff_pairwise_ne, List.pairwise_iff_getElem]
  intro a b ha hb hab
  have ha' : a < l.length := by simpa [ids, bentOf_len] using ha
  have hb' : b < l.length := by simpa [ids, bentOf_len] using hb
  intro e
  have g : ∀ c (hc : c < (ids (bentOf l i)).length), (ids (bentOf l i))[c] = idAt l (sw i c) := by
    intro c hc
    have hc' : c < (bentOf l i).length := by simpa [ids] using hc
    have : (ids (bentOf l i))[c] = idAt (bentOf l i) c := by rw [ids_get _ hc']; simp [ids]
    rw [this]; unfold idAt; rw [bentOf_get l hi]
  rw [g a ha, g b hb] at e
  have := sw_inj (ids_inj h (sw_lt hi ha') (sw_lt hi hb') e)
  omega
theorem parts_bent {l : List Dl} (h : (ids l).Nodup) {i : Nat} (hi : i + 1 < l.length) : partsAt l (bentOf l i) = some i := by
  have h1 : ∀ k, k ≤ i → partsK l (bentOf l i) k = none := by
    intro k
    induction k with
    | zero => intro _; rfl
    | succ k ih =>
      intro hk
      rw [partsK_succ, ih (by omega)]
      have : parts l (bentOf l i) k = false := by
        unfold parts
        rw [decide_eq_false_iff_not, bentOf_get l hi]
        have : sw i k = k := by unfold sw; rw [if_neg (by omega), if_neg (by omega)]
        rw [this]; simp
      rw [this]; rfl
  have h2 : parts l (bentOf l i) i = true := by
    unfold parts
    rw [decide_eq_true_iff, bentOf_get l hi]
    intro e
    have : idAt l i = idAt l (sw i i) := by unfold idAt; rw [e]
    have h3 := ids_inj h (by omega) (sw_lt hi (by omega)) this
    unfold sw at h3; rw [if_pos rfl] at h3; omega
  unfold partsAt
  rw [bentOf_len, Nat.min_self]
  exact partsK_some _ _ (by rw [partsK_succ, h1 i (Nat.le_refl _), h2]; rfl) (by omega)

theorem rowP_mem {S : List (List (List Nat))} {p k : Nat} {d : Dl} (h : d ∈ rowP S p k) : ∃ i, i < k ∧ d = msg S p i := by
  simp only [rowP, List.mem_map, List.mem_range] at h
  obtain ⟨i, hi, rfl⟩ := h
  exact ⟨i, hi, rfl⟩
theorem rowK_mem {S : List (List (List Nat))} {d : Dl} : ∀ {p : Nat}, d ∈ rowK S p → ∃ q i, q < p ∧ i < (S.getD q []).length ∧ d = msg S q i
  | 0, h => by simp [rowK] at h
  | p + 1, h => by
    rcases List.mem_append.1 h with h | h
    · obtain ⟨q, i, h1, h2, h3⟩ := rowK_mem h
      exact ⟨q, i, by omega, h2, h3⟩
    · obtain ⟨i, hi, rfl⟩ := rowP_mem h
      exact ⟨p, i, by omega, hi, rfl⟩
theorem row_kn {S : List (List (List Nat))} (hs : small S) : ∀ d ∈ rowOf S, kn S d ∧ d.wf := by
  intro d hd
  obtain ⟨q, i, h1, h2, rfl⟩ := rowK_mem hd
  have h10 := hs.1
  have hq : q % 256 = q := by omega
  have h60 := (hs.2 (S.getD q []) (by simp [List.getD, h1])).1
  refine ⟨⟨?_, ?_, ?_, ?_⟩, ?_, ?_⟩
  · show q % 256 < _; omega
  · show 1 ≤ i + 1; omega
  · show i + 1 ≤ (S.getD (q % 256) []).length; rw [hq]; omega
  · show (S.getD q []).getD i [] = (S.getD (q % 256) []).getD (i + 1 - 1) []; rw [hq]; rfl
  · show q % 256 < 256; omega
  · show i + 1 < _; omega
theorem rowK_nodup {S : List (List (List Nat))} (hs : S.length ≤ 10) : ∀ p, p ≤ S.length → (ids (rowK S p)).Nodup
  | 0, _ => by simp [rowK, ids]
  | p + 1, hp => by
    rw [show rowK S (p + 1) = rowK S p ++ rowP S p (S.getD p []).length from rfl, ids_append, List.nodup_append]
    refine ⟨rowK_nodup hs p (by omega), ?_, ?_⟩
    · have : ids (rowP S p (S.getD p []).length) = (List.range (S.getD p []).length).map (fun i => (p % 256, i + 1)) := by
        simp only [ids, rowP, List.map_map]; rfl
      rw [this]
      rw [List.nodup_iff_pairwise_ne, List.pairwise_map]
      exact List.Pairwise.imp (fun {a b} h e => by simp only [Prod.mk.injEq] at e; omega) List.pairwise_lt_range
    · intro a ha b hb e
      simp only [ids, List.mem_map] at ha hb
      obtain ⟨x, hx, rfl⟩ := ha
      obtain ⟨y, hy, rfl⟩ := hb
      obtain ⟨q, i, h1, h2, rfl⟩ := rowK_mem hx
      obtain ⟨j, hj, rfl⟩ := rowP_mem hy
      simp only [msg, Prod.mk.injEq] at e
      omega
theorem row_nodup {S : List (List (List Nat))} (hs : small S) : (ids (rowOf S)).Nodup := rowK_nodup hs.1 _ (Nat.le_refl _)
theorem row_len {S : List (List (List Nat))} (hs : small S) : (rowOf S).length ≤ 600 := by
  have := rowK_len S hs S.length (Nat.le_refl _)
  have := hs.1
  unfold rowOf; omega
end Go.Proofs.Ytpbadnnolheblaa
