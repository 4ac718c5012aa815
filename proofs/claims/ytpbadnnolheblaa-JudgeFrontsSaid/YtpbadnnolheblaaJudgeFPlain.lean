/-
  Rows of fronts, and of numbers, of the call's own.
-/
import Derived.Test.YtpbadnnolheblaaJudgeLacks
import Derived.Test.YtpbadnnolheblaaInts
import Derived.Maps.AppendAt
namespace Go.Proofs.Ytpbadnnolheblaa
open Go.RowKit Go.Maps

theorem Try.info_log : (Try.prog.info? 27).map (fun i => (i.zero, i.size, i.bytes)) = some (some (.slice none 0 0), 1, 24) := by kernel_rfl
theorem Try.info_int : (Try.prog.info? 3).map (fun i => (i.zero, i.size, i.bytes)) = some (some (.int .i64 0), 1, 8) := by kernel_rfl

theorem owned_logs {w : World} {base e rc : Nat} {v : Value} {ra : Option Addr} {R : List Dl} {ks : List Nat} (h : w.ownsRow base e 1 v ks.length (ks.map fun k => Value.slice ra k rc)) (hR : isLog w ra R) (hk : ∀ k ∈ ks, k ≤ R.length) :
    ∃ ao cap, v = .slice ao ks.length cap ∧ isLogs w ao (fronts R ks) := by
  rcases h.2 with ⟨h1, h2⟩ | ⟨g, cap, cur, h1, h2, h3, h4, h5, h6, h7⟩
  · obtain rfl : ks = [] := by simpa using h2
    exact ⟨none, 0, h1, fun i hi => by simp [fronts] at hi⟩
  · refine ⟨some ⟨g, 0, none⟩, cap, h1, fun i hi => ?_⟩
    rw [fronts_len] at hi
    have hki : ks.getD i 0 ≤ R.length := hk _ (by simp [List.getD, hi])
    refine ⟨g, 0, ra, rc, rfl, lt_of_some h3, ?_, by rw [fronts_get R ks hi]; exact hR.take _⟩
    rw [fronts_get R ks hi, Nat.zero_add, cell_of_block h3, List.length_take, Nat.min_eq_left hki]
    have : (cur.toList.take (ks.length * 1))[i]? = (ks.map fun k => Value.slice ra k rc)[i]? := by rw [h7]
    rw [List.getElem?_take, if_pos (by omega)] at this
    rw [← Array.getElem?_toList, this]
    simp [List.getD, hi]
theorem owned_range {w : World} {base e n : Nat} {v : Value} (h : w.ownsRow base e 1 v n ((List.range n).map fun i : Nat => Value.int .i64 (i : Int))) :
    ∃ ao cap, v = .slice ao n cap ∧ isRange w ao n := by
  rcases h.2 with ⟨h1, h2⟩ | ⟨g, cap, cur, h1, h2, h3, h4, h5, h6, h7⟩
  · subst h2
    exact ⟨none, 0, h1, fun i hi => by omega⟩
  · refine ⟨some ⟨g, 0, none⟩, cap, h1, fun i hi => ⟨g, 0, rfl, lt_of_some h3, ?_⟩⟩
    rw [Nat.zero_add, cell_of_block h3]
    have : (cur.toList.take (n * 1))[i]? = ((List.range n).map fun i : Nat => Value.int .i64 (i : Int))[i]? := by rw [h7]
    rw [List.getElem?_take, if_pos (by omega)] at this
    rw [← Array.getElem?_toList, this]
    simp [hi]
theorem range_map_snoc (n : Nat) : ((List.range (n + 1)).map fun i : Nat => Value.int .i64 (i : Int)) = ((List.range n).map fun i : Nat => Value.int .i64 (i : Int)) ++ [.int .i64 (n : Int)] := by rw [List.range_succ]; simp
theorem fronts_flat_wf {R : List Dl} {ks : List Nat} (hw : ∀ d ∈ R, d.wf) : ∀ l ∈ fronts R ks, ∀ d ∈ l, d.wf := by
  intro l hl d hd
  obtain ⟨k, rfl⟩ := fronts_mem hl
  exact hw d (List.mem_of_mem_take hd)
end Go.Proofs.Ytpbadnnolheblaa
