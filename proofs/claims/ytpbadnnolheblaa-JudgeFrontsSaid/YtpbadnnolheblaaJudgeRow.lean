/-
  All messages that were sent, as a log; logs as cells.
-/
import Derived.Test.YtpbadnnolheblaaJudgeGreat
namespace Go.Proofs.Ytpbadnnolheblaa
open Go.RowKit

/-- The message i of p. -/
def msg (S : List (List (List Nat))) (p i : Nat) : Dl := ⟨p % 256, i + 1, (S.getD p []).getD i []⟩
def rowP (S : List (List (List Nat))) (p k : Nat) : List Dl := (List.range k).map (msg S p)
def rowK (S : List (List (List Nat))) : Nat → List Dl
  | 0 => []
  | p + 1 => rowK S p ++ rowP S p (S.getD p []).length
def rowOf (S : List (List (List Nat))) : List Dl := rowK S S.length
theorem rowP_succ (S : List (List (List Nat))) (p k : Nat) : rowP S p (k + 1) = rowP S p k ++ [msg S p k] := by simp [rowP, List.range_succ]

/-- A delivery's payload lies at v. -/
def goodSl (w : World) (d : Dl) (v : Value) : Prop := ∃ a' cap, v = .slice a' d.p.length cap ∧ isBytes w a' d.p ∧ d.p.length ≤ cap ∧ cap ≤ maxLen ∧ (a' = none → cap = 0)
theorem goodSl.keep0 {w w' : World} {d : Dl} {v : Value} (h : goodSl w d v) (hc : Chg [] w w') : goodSl w' d v := by
  obtain ⟨a', cap, h1, h2, h3⟩ := h
  exact ⟨a', cap, h1, h2.keep0 hc, h3⟩
/-- The cells of deliveries. -/
def dcells (ds : List (Dl × Value)) : List Value := ds.flatMap (fun x => [.int .u8 (x.1.f : Int), .int .u64 (x.1.s : Int), x.2])
theorem dcells_len (ds : List (Dl × Value)) : (dcells ds).length = ds.length * 3 := by
  induction ds with
  | nil => rfl
  | cons x ds ih =>
    have e : dcells (x :: ds) = [Value.int .u8 (x.1.f : Int), .int .u64 (x.1.s : Int), x.2] ++ dcells ds := by simp [dcells]
    rw [e, List.length_append, ih]; simp; omega
theorem dcells_append (a b : List (Dl × Value)) : dcells (a ++ b) = dcells a ++ dcells b := by simp [dcells]
theorem dcells_get : ∀ (ds : List (Dl × Value)) (i : Nat) (h : i < ds.length), (dcells ds)[i * 3]? = some (.int .u8 (ds[i].1.f : Int)) ∧ (dcells ds)[i * 3 + 1]? = some (.int .u64 (ds[i].1.s : Int)) ∧ (dcells ds)[i * 3 + 2]? = some ds[i].2
  | x :: ds, 0, _ => ⟨rfl, rfl, rfl⟩
  | x :: ds, i + 1, h => by
    obtain ⟨h1, h2, h3⟩ := dcells_get ds i (by simpa using h)
    have e : dcells (x :: ds) = [Value.int .u8 (x.1.f : Int), .int .u64 (x.1.s : Int), x.2] ++ dcells ds := by simp [dcells]
    refine ⟨?_, ?_, ?_⟩
    · rw [e, List.getElem?_append_right (by simp; omega), show (i + 1) * 3 - [Value.int .u8 (x.1.f : Int), .int .u64 (x.1.s : Int), x.2].length = i * 3 by simp; omega]; exact h1
    · rw [e, List.getElem?_append_right (by simp; omega), show (i + 1) * 3 + 1 - [Value.int .u8 (x.1.f : Int), .int .u64 (x.1.s : Int), x.2].length = i * 3 + 1 by simp; omega]; exact h2
    · rw [e, List.getElem?_append_right (by simp; omega), show (i + 1) * 3 + 2 - [Value.int .u8 (x.1.f : Int), .int .u64 (x.1.s : Int), x.2].length = i * 3 + 2 by simp; omega]; exact h3
theorem dcells_one (w : World) (ds : List (Dl × Value)) (h : ∀ x ∈ ds, goodSl w x.1 x.2) : ∀ u ∈ dcells ds, u.oneCell' = true := by
  intro u hu
  simp only [dcells, List.mem_flatMap] at hu
  obtain ⟨x, hx, hu⟩ := hu
  simp only [List.mem_cons, List.not_mem_nil, or_false] at hu
  rcases hu with rfl | rfl | hu
  · rfl
  · rfl
  · obtain ⟨a', cap, e, _⟩ := h x hx
    rw [hu, e]; rfl
/-- A log as cells. -/
theorem log_cells {w : World} {b off : Nat} {l : List Dl} (h : isLog w (some ⟨b, off, none⟩) l) :
    ∃ ds : List (Dl × Value), ds.map (·.1) = l ∧ (∀ x ∈ ds, goodSl w x.1 x.2) ∧ ∀ j u, (dcells ds)[j]? = some u → w.cell? ((⟨b, off, none⟩ : Addr).add j) = some u := by
  have hx : ∀ i, i < l.length → ∃ x : Dl × Value, x.1 = l.getD i Dl.z ∧ goodSl w x.1 x.2 ∧ w.cell? ⟨b, off + i * 3, none⟩ = some (.int .u8 (x.1.f : Int)) ∧ w.cell? ⟨b, off + i * 3 + 1, none⟩ = some (.int .u64 (x.1.s : Int)) ∧ w.cell? ⟨b, off + i * 3 + 2, none⟩ = some x.2 := by
    intro i hi
    obtain ⟨a', cap, _, h1, h2, h3, h4, h5, h6, h7⟩ := h.at hi
    exact ⟨(l.getD i Dl.z, .slice a' (l.getD i Dl.z).p.length cap), rfl, ⟨a', cap, rfl, h4, h5, h6, h7⟩, h1, h2, h3⟩
  have list_of' : ∀ (p : Nat → Dl × Value → Prop) n, (∀ i, i < n → ∃ x, p i x) → ∃ l : List (Dl × Value), l.length = n ∧ ∀ i (hi : i < l.length), p i l[i] := by
    intro p n
    induction n with
    | zero => intro _; exact ⟨[], rfl, fun i hi => by simp at hi⟩
    | succ n ih =>
      intro h
      obtain ⟨l, h1, h2⟩ := ih (fun i hi => h i (by omega))
      obtain ⟨x, hx⟩ := h n (by omega)
      refine ⟨l ++ [x], by simp [h1], fun i hi => ?_⟩
      by_cases e : i < l.length
      · rw [List.getElem_append_left e]; exact h2 i e
      · have : i = n := by simp at hi; omega
        subst this
        rw [List.getElem_append_right (by omega)]
        simpa using hx
  obtain ⟨ds, h1, h2⟩ := list_of' _ l.length hx
  refine ⟨ds, ?_, ?_, ?_⟩
  · apply List.ext_getElem
    · simpa using h1
    · intro i h3 h4
      rw [List.getElem_map, (h2 i (by simpa using h3)).1]
      simp [List.getD, h4]
  · intro x hx
    obtain ⟨i, hi, rfl⟩ := List.mem_iff_getElem.1 hx
    exact (h2 i hi).2.1
  · intro j u hj
    have hlt : j < ds.length * 3 := by have := (List.getElem?_eq_some_iff.1 hj).1; rwa [dcells_len] at this
    obtain ⟨i, hi | hi | hi⟩ : ∃ i, j = i * 3 ∨ j = i * 3 + 1 ∨ j = i * 3 + 2 := ⟨j / 3, by omega⟩
    all_goals
      have hil : i < ds.length := by omega
      obtain ⟨g1, g2, g3⟩ := dcells_get ds i hil
      obtain ⟨_, _, k1, k2, k3⟩ := h2 i hil
      subst hi
      rw [Addr.add_mid]
    · rw [g1] at hj; cases hj; exact k1
    · rw [g2] at hj; cases hj; rw [← Nat.add_assoc]; exact k2
    · rw [g3] at hj; cases hj; rw [← Nat.add_assoc]; exact k3
/-- A row of the call's own that holds the cells of deliveries is a log. -/
theorem owned_log {w : World} {base e n : Nat} {v : Value} {ds : List (Dl × Value)} (h : w.ownsRow base e 3 v n (dcells ds)) (hg : ∀ x ∈ ds, goodSl w x.1 x.2) :
    ∃ ao cap, v = .slice ao (ds.map (·.1)).length cap ∧ n = ds.length ∧ isLog w ao (ds.map (·.1)) ∧ n ≤ cap ∧ cap ≤ maxLen ∧ (∀ b off, ao = some ⟨b, off, none⟩ → base ≤ b ∧ off = 0 ∧ isRow w b e) := by
  have hn : n = ds.length := by have := h.1; rw [dcells_len] at this; omega
  subst hn
  rcases h.2 with ⟨h1, h2⟩ | ⟨g, cap, cur, h1, h2, h3, h4, h5, h6, h7⟩
  · obtain rfl : ds = [] := by simpa using h2
    exact ⟨none, 0, h1, rfl, isLog_nil _ _, by simp, by simp, by simp⟩
  · refine ⟨some ⟨g, 0, none⟩, cap, by simpa using h1, rfl, ?_, h4, h5, ?_⟩
    · intro i hi
      have hil : i < ds.length := by simpa using hi
      have e : (ds.map (·.1)).getD i Dl.z = ds[i].1 := by simp [List.getD, hil]
      rw [e]
      obtain ⟨a', ca, x1, x2⟩ := hg ds[i] (List.getElem_mem hil)
      obtain ⟨g1, g2, g3⟩ := dcells_get ds i hil
      have hc : ∀ j u, (dcells ds)[j]? = some u → w.cell? ⟨g, j, none⟩ = some u := by
        intro j u hj
        rw [cell_of_block h3, ← Array.getElem?_toList]
        have hjl : j < ds.length * 3 := by have := (List.getElem?_eq_some_iff.1 hj).1; rwa [dcells_len] at this
        have : (cur.toList.take (ds.length * 3))[j]? = (dcells ds)[j]? := by rw [h7]
        rw [List.getElem?_take, if_pos hjl] at this
        rw [this, hj]
      refine ⟨g, 0, a', ca, rfl, lt_of_some h3, ?_, ?_, ?_, x2⟩
      · rw [Nat.zero_add]; exact hc _ _ g1
      · rw [Nat.zero_add]; exact hc _ _ g2
      · rw [Nat.zero_add, hc _ _ g3, x1]
    · intro b off e; simp at e; exact ⟨by omega, by omega, by rw [← e.1]; exact ⟨cur, h3⟩⟩
theorem Try.info_dl : (Try.prog.info? 34).map (fun i => (i.zero, i.size, i.bytes)) = some (some (.agg #[.int .u8 0, .int .u64 0, .slice none 0 0]), 3, 40) := by kernel_rfl
end Go.Proofs.Ytpbadnnolheblaa
