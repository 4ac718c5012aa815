/-
  The keys of a set of ids.
-/
import Derived.Test.YtpbadnnolheblaaJudge2
import Derived.Maps.OwnSet
import Derived.DeepKeys4
import Derived.WideKeyEntry
namespace Go.Proofs.Ytpbadnnolheblaa
open Go.RowKit Go.Maps

theorem laidOutJ : laidOutB Try.prog = true := by kernel_rfl
theorem rowID : (31 : TypeId) < Try.prog.types.size := of_decide_eq_true (by kernel_rfl)
theorem wideID : (match Try.prog.underlying 31 with | some (.array _ _) | some (.struct _) => true | _ => false) = true := by rw [Try.underlying31]
theorem lawID : Keyed Try.prog 31 := Keyed.of_law (deep_law_laid laidOutJ (m := 2) (by omega) rowID (by kernel_rfl) wideID)
theorem cellsID : Try.prog.cellsOf 31 = 2 := by kernel_rfl
theorem cellsU8J : Try.prog.cellsOf 5 = 1 := by kernel_rfl
theorem cellsU64J : Try.prog.cellsOf 29 = 1 := by kernel_rfl
/-- An id's key. -/
def klOf (f s : Nat) : Lit := .string (keyBytes [.int .u8 (f : Int), .int .u64 (s : Int)])
theorem keyOf_id (f s : Nat) (hf : f < 256) (hs : s < 18446744073709551616) : keyOf Try.prog 31 (.agg #[.int .u8 (f : Int), .int .u64 (s : Int)]) = some (klOf f s) := by
  have w1 : (Lit.int .u8 (f : Int)).wf = true := by simp [Lit.wf, IntKind.bits, IntKind.signed, IntKind.min, IntKind.max]; omega
  have w2 : (Lit.int .u64 (s : Int)).wf = true := by simp [Lit.wf, IntKind.bits, IntKind.signed, IntKind.min, IntKind.max]; omega
  obtain ⟨n, hn⟩ : ∃ n, Try.prog.types.size + 1 = n + 2 := ⟨Try.prog.types.size - 1, by have : 1 ≤ Try.prog.types.size := Nat.le_trans (by omega) (Nat.le_of_lt rowID); omega⟩
  unfold keyOf
  simp only [Try.underlying31]
  rw [if_pos (by
    rw [show Try.prog.keyType 31 = true by kernel_rfl]
    simp [Value.formed, Try.underlying31, cellsID])]
  rw [hn]
  simp only [Value.cells, Program.keyLits, Try.underlying31, cellsID]
  rw [if_pos ⟨rfl, by kernel_rfl⟩]
  simp [List.mapM_cons, Try.underlying5, Try.underlying29, cellsU8J, cellsU64J, w1, w2, klOf]
theorem klOf_inj {f s f' s' : Nat} (hf : f < 256) (hs : s < 18446744073709551616) (hf' : f' < 256) (hs' : s' < 18446744073709551616) (h : klOf f s = klOf f' s') : f = f' ∧ s = s' := by
  have h1 := keyOf_id f s hf hs
  have h2 := keyOf_id f' s' hf' hs'
  rw [h] at h1
  have := lawID.inj h1 h2
  simp only [Value.agg.injEq, Array.mk.injEq, List.cons.injEq, Value.int.injEq, true_and, and_true] at this
  omega
/-- The ids of deliveries. -/
def Dl.wf (d : Dl) : Prop := d.f < 256 ∧ d.s < 18446744073709551616
def ids (l : List Dl) : List (Nat × Nat) := l.map (fun d => (d.f, d.s))
def keys (l : List Dl) : List Lit := l.map (fun d => klOf d.f d.s)
theorem keys_isKey (l : List Dl) : ∀ x ∈ keys l, WideAt.IsKeyLit x := by
  intro x hx
  simp only [keys, List.mem_map] at hx
  obtain ⟨d, _, rfl⟩ := hx
  exact trivial
theorem has_ids (l : List Dl) (hl : ∀ d ∈ l, d.wf) (d : Dl) (hd : d.wf) : Maps.has (setOf (H := Unit) (.agg []) (keys l)) (klOf d.f d.s) = decide ((d.f, d.s) ∈ ids l) := by
  rw [has_setOf _ _ _ (keys_isKey l)]
  by_cases h : (d.f, d.s) ∈ ids l
  · rw [decide_eq_true h, List.any_eq_true]
    simp only [ids, List.mem_map] at h
    obtain ⟨e, he, h2⟩ := h
    simp only [Prod.mk.injEq] at h2
    refine ⟨klOf d.f d.s, ?_, WideAt.sameKey_self trivial⟩
    simp only [keys, List.mem_map]
    exact ⟨e, he, by rw [h2.1, h2.2]⟩
  · rw [decide_eq_false h, List.any_eq_false]
    intro x hx hs
    have := WideAt.sameKey_eq hs
    subst this
    simp only [keys, List.mem_map] at hx
    obtain ⟨e, he, h2⟩ := hx
    have := klOf_inj (hl e he).1 (hl e he).2 hd.1 hd.2 h2
    exact h (by simp only [ids, List.mem_map]; exact ⟨e, he, by rw [this.1, this.2]⟩)
end Go.Proofs.Ytpbadnnolheblaa
