/-
  Rows joined; what is too great.
-/
import Derived.Test.YtoidbcmhlnelgaaCrcRef
namespace Go.Proofs.Ytoidbcmhlnelgaa
open Go.RowKit Crc

def great (ls : List (List Nat)) : Bool := decide (30 < ls.length) || ls.any (fun l => decide (300 < l.length))
theorem great_len {ls : List (List Nat)} (h : great ls = false) : ls.length ≤ 30 := by
  simp [great] at h; exact h.1
theorem great_all {ls : List (List Nat)} (h : great ls = false) : ∀ k, ((ls.take k).flatten).length ≤ 300 * k := by
  intro k
  have h2 : ∀ l ∈ ls, l.length ≤ 300 := by simp [great] at h; exact h.2
  clear h
  induction k generalizing ls with
  | zero => simp
  | succ k ih =>
    cases ls with
    | nil => simp
    | cons x ls =>
      have h1 := h2 x (by simp)
      have h3 := ih (ls := ls) (fun l hl => h2 l (by simp [hl]))
      simp only [List.take_succ_cons, List.flatten_cons, List.length_append]
      omega
theorem isLists.all {w : World} {ao : Option Addr} {ls : List (List Nat)} (h : isLists w ao ls) : ∀ x ∈ ls.flatten, x < 256 := by
  intro x hx
  obtain ⟨l, hl, hxl⟩ := List.mem_flatten.1 hx
  obtain ⟨i, hi, rfl⟩ := List.mem_iff_getElem.1 hl
  obtain ⟨_, _, _, _, _, _, _, hb, _⟩ := h i hi
  exact hb.all x (by simpa [List.getD, hi] using hxl)

set_option maxHeartbeats 1000000 in
theorem great_any (w : World) (ao : Option Addr) (ls : List (List Nat)) (cap : Nat) (h : isLists w ao ls) (hl : ls.length ≤ maxLen) :
    Calls Try.prog 7 #[.slice ao ls.length cap] w fun e w' => e = .returned (.bool (great ls)) ∧ w' = w := by
  unfold maxLen at hl
  by_cases h30 : 30 < ls.length
  · have HG := Lib.hid (show great ls = true by simp [great, h30])
    go_enter Try.func7, Try.ntmps7
    go_wp2_with fail
    go_ret
    rw [HG.out]; exact ⟨rfl, rfl⟩
  · have HG := Lib.hid (show great ls = ls.any (fun l => decide (300 < l.length)) by simp [great, h30])
    go_enter Try.func7, Try.ntmps7
    go_wp2_with fail
    go_loop [3] (fun i => ∃ k : Nat, k ≤ ls.length ∧ i = .int .i64 k ∧ ∀ j, j < k → (ls.getD j []).length ≤ 300) (fun i => ls.length - (intOf i).toNat)
    case atStart => exact ⟨0, by omega, rfl, fun j hj => by omega⟩
    case round =>
      obtain ⟨k, hk, rfl, hall⟩ := hrel
      by_cases hlt : k < ls.length
      · obtain ⟨b, off, rfl⟩ := h.addr hlt
        obtain ⟨a', cap', hbl, hcell, hby, hcap, hmax, _⟩ := h.at hlt
        unfold maxLen at hmax
        by_cases hg : 300 < (ls.getD k []).length
        · have HT := Lib.hid (show ls.any (fun l => decide (300 < l.length)) = true by
            rw [List.any_eq_true]; exact ⟨ls[k], List.getElem_mem hlt, by simpa [List.getD, hlt] using hg⟩)
          generalize ls.getD k [] = L at *
          go_wp2_with fail
          go_ret
          rw [HG.out, HT.out]; exact ⟨rfl, rfl⟩
        · have HK := Lib.hid hg
          generalize hL : ls.getD k [] = L at *
          have HL := Lib.hid hL
          clear hL
          go_wp2_with fail
          go_round
          case rel =>
            refine ⟨k + 1, by omega, by go_num, fun j hj => ?_⟩
            by_cases e : j = k
            · subst e; rw [HL.out]; omega
            · exact hall j (by omega)
          case measure => simp [intOf]; omega
      · obtain rfl : k = ls.length := by omega
        have HT := Lib.hid (show ls.any (fun l => decide (300 < l.length)) = false by
          rw [List.any_eq_false]
          intro x hx
          obtain ⟨i, hi, rfl⟩ := List.mem_iff_getElem.1 hx
          have := hall i hi
          simp [List.getD, hi] at this
          simpa using this)
        go_wp2_with fail
        go_ret
        rw [HG.out, HT.out]; exact ⟨rfl, rfl⟩

theorem Try.info_u8 : (Try.prog.info? 5).map (fun i => (i.zero, i.size, i.bytes)) = some (some (.int .u8 0), 1, 1) := by kernel_rfl

/-- New bytes of the call's own. -/
def newBytes (w : World) (l : List Nat) (e : Ending) (w' : World) : Prop :=
  ∃ ao cap, e = .returned (.slice ao l.length cap) ∧ isBytes w' ao l ∧ l.length ≤ cap ∧ cap ≤ maxLen ∧ (ao = none → cap = 0) ∧ (∀ b off, ao = some ⟨b, off, none⟩ → w.heap.size ≤ b) ∧ Chg [] w w' ∧ (∀ b off, ao = some ⟨b, off, none⟩ → isRow w' b 5)

set_option maxHeartbeats 1000000 in
theorem join_any (w : World) (ao : Option Addr) (ls : List (List Nat)) (cap : Nat) (h : isLists w ao ls) (hg : great ls = false) :
    Calls Try.prog 11 #[.slice ao ls.length cap] w (newBytes w ls.flatten) := by
  have h30 := great_len hg
  have hsm := great_all hg
  obtain ⟨i0, hi, hz0, hz1, hz2⟩ := info_parts Try.info_u8
  go_enter Try.func11, Try.ntmps11
  go_wp2_with fail
  have hown : (w.alloc (.cells #[] 5)).ownsRow w.heap.size 5 1 (.slice (some ⟨w.heap.size, 0, none⟩) 0 0) 0 (List.map byteV []) :=
    ⟨by simp, .inr ⟨w.heap.size, 0, #[], rfl, Nat.le_refl _, block_new _ _, Nat.le_refl _, by unfold maxLen; omega, rfl, rfl⟩⟩
  have hc0 := (Chg.refl [] w).alloc (.cells #[] 5)
  generalize w.alloc (.cells #[] 5) = W1 at *
  obtain ⟨B, hB⟩ : ∃ b, w.heap.size = b := ⟨_, rfl⟩
  have HB := Lib.hid hB
  rw [hB] at hown ⊢
  clear hB
  go_loopw [3, 8] (fun v i wr => ∃ (k : Nat) (v0 : Value), v0 = v ∧ k ≤ ls.length ∧ i = .int .i64 k ∧ wr.ownsRow B 5 1 v0 ((ls.take k).flatten).length ((ls.take k).flatten.map byteV) ∧ Chg [] w wr) (fun _ i _ => ls.length - (intOf i).toNat)
  case atStart => exact ⟨0, _, rfl, by omega, rfl, hown, hc0⟩
  case round =>
    obtain ⟨k, v, rfl, hk, rfl, hwn, hcr⟩ := hrel
    by_cases hlt : k < ls.length
    · obtain ⟨b, off, rfl⟩ := h.addr hlt
      obtain ⟨a', cap', hbl, hcell, hby, hcap, hmax, hnil⟩ := (h.keep0 hcr).at hlt
      have hs1 := hsm k
      have hs2 := hsm (k + 1)
      have hft := flat_take ls hlt
      have HF := Lib.hid hft
      rw [hft, List.length_append] at hs2
      clear hft
      generalize ls.getD k [] = L at *
      generalize (ls.take k).flatten = F at *
      go_wp2_with (at_builtin; refine wpList_append_bytes rfl (.tmp 11) (.tmp 15) 28 rfl B 5 i0 _ Try.underlying28 hi hz0 hz1 hz2 rfl v _ _ rfl hwn a' cap' L rfl hby hnil ?c1 ?c2 ?_)
      case c1 => omega
      case c2 => rw [← HB.out]; exact hcr.size
      intro v' w1 hown' hch hown2
      have hc1 : Chg [] w w1 := hcr.then hch (by
        intro q hq; right
        have : v.ownBlock = some q := by simpa using hq
        rw [HB.out]; exact (hwn.lt q this).1)
      go_wp2_with fail
      go_roundw
      case rel =>
        refine ⟨k + 1, _, rfl, by omega, by go_num, ?_, hc1⟩
        rw [HF.out, List.length_append, List.map_append]; exact hown'
      case measure => simp [intOf]; omega
    · obtain rfl : k = ls.length := by omega
      rw [List.take_length] at hwn
      obtain ⟨ao', cap', rfl, q1, q2, q3, q4, q5⟩ := owned_bytes hwn h.all
      go_wp2_with fail
      go_ret
      exact ⟨ao', cap', rfl, q1, q2, q3, q4, by rw [HB.out]; exact q5, hcr, owned_row hwn⟩
end Go.Proofs.Ytoidbcmhlnelgaa
