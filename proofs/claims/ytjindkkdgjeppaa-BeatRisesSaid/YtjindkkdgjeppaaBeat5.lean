/-
  Package beat: Suspects; whether a row has a number.
-/
import Derived.Test.YtjindkkdgjeppaaBeat4
namespace Go.Proofs.Ytjindkkdgjeppaa
open Go.RowKit

def BD.suspP (d : BD) (p : Int) : Bool := d.there p && d.susp (d.at p.toNat)
def BD.suspK (d : BD) : Nat → List Int
  | 0 => []
  | k + 1 => if d.suspP (k : Int) then d.suspK k ++ [(k : Int)] else d.suspK k
def BD.suspL (d : BD) : List Int := d.suspK d.len
theorem BD.suspK_mem (d : BD) (x : Int) : ∀ k, x ∈ d.suspK k ↔ (0 ≤ x ∧ x < k ∧ d.suspP x = true)
  | 0 => by simp [BD.suspK]; omega
  | k + 1 => by
    have ih := BD.suspK_mem d x k
    unfold BD.suspK
    by_cases e : x = k
    · subst e
      cases hs : d.suspP (k : Int) with
      | true => simp; omega
      | false => simp [ih]
    · have hm : (0 ≤ x ∧ x < k ∧ d.suspP x = true) ↔ (0 ≤ x ∧ x < ((k + 1 : Nat) : Int) ∧ d.suspP x = true) := by
        constructor <;> rintro ⟨h1, h2, h3⟩ <;> exact ⟨h1, by omega, h3⟩
      split
      · rw [List.mem_append, ih, ← hm]; simp [e]
      · rw [ih, hm]
theorem BD.suspL_mem (d : BD) (x : Int) : x ∈ d.suspL ↔ d.suspP x = true := by
  rw [BD.suspL, BD.suspK_mem]
  constructor
  · exact fun h => h.2.2
  · intro h
    have : d.there x = true := by simp [BD.suspP] at h; exact h.1
    simp [BD.there] at this
    exact ⟨this.1, this.2.1, h⟩
theorem BD.suspK_len (d : BD) : ∀ k, (d.suspK k).length ≤ k
  | 0 => by simp [BD.suspK]
  | k + 1 => by
    have ih := BD.suspK_len d k
    unfold BD.suspK
    split
    · simp; omega
    · omega
theorem Try.info_int : (Try.prog.info? 3).map (fun i => (i.zero, i.size, i.bytes)) = some (some (.int .i64 0), 1, 8) := by kernel_rfl

set_option maxRecDepth 100000 in
set_option maxHeartbeats 2000000 in
theorem suspects_any {b bt : Nat} {d : BD} (now : Int) (w : World) (H : isB w b bt d) :
    Calls Try.prog 13 #[.pointer (some ⟨b,0,none⟩), .int .i64 now] w fun e w' => ∃ ao cap, e = .returned (.slice ao (d.tell now).suspL.length cap) ∧ isInts .i64 w' ao (d.tell now).suspL ∧
      isB w' b bt (d.tell now) ∧ Chg [b] w w' ∧ (∀ x off, ao = some ⟨x, off, none⟩ → w.heap.size ≤ x) := by
  obtain ⟨i0, hi, hz0, hz1, hz2⟩ := info_parts Try.info_int
  go_enter Try.func13, Try.ntmps13
  go_wp2_with fail
  refine (tell_any now w H).mono ?_
  rintro e w1 ⟨rfl, H1, hc1⟩
  obtain ⟨d1, hd1⟩ : ∃ d1, d.tell now = d1 := ⟨_, rfl⟩
  have HD := Lib.hid hd1
  rw [hd1] at H1
  clear hd1
  have h0 := H1.c0
  have hl := H1.wf.h2
  have hbw : b < w.heap.size := lt_of_some H.hb
  have hbt : bt < w.heap.size := H.ty.lt
  have hHB := hc1.size
  go_wp2_with fail
  have hown : w1.ownsRow w1.heap.size 3 1 (.slice none 0 0) 0 ((d1.suspK 0).map (Value.int .i64)) := World.ownsRow_nil _ _ _ _
  obtain ⟨B, hB⟩ : ∃ B, w1.heap.size = B := ⟨_, rfl⟩
  rw [hB] at hown hHB
  have HB := Lib.hid hB
  clear hB
  go_loopw [5, 19] (fun v i wr => ∃ (k : Nat) (v0 : Value), v0 = v ∧ k ≤ d1.len ∧ i = .int .i64 k ∧ wr.ownsRow B 3 1 v0 (d1.suspK k).length ((d1.suspK k).map (Value.int .i64)) ∧ isB wr b bt d1 ∧ Chg [] w1 wr) (fun _ i _ => d1.len - (intOf i).toNat)
  case atStart => exact ⟨0, _, rfl, by omega, rfl, hown, H1, Chg.refl _ _⟩
  case round =>
    obtain ⟨k, v, rfl, hk, rfl, hwn, HH, hcr⟩ := hrel
    have hsl := d1.suspK_len k
    by_cases hlt : k < d1.len
    · cases hth : d1.there (k : Int) with
      | false =>
        have hst := Lib.hid (show d1.suspK (k + 1) = d1.suspK k by simp [BD.suspK, BD.suspP, hth])
        generalize d1.suspK k = F at *
        go_wp2_with fail
        refine (of_no k wr HH hth).mono ?_
        rintro e w' ⟨rfl, rfl⟩
        go_wp2_with fail
        go_roundw
        case rel => exact ⟨k + 1, _, rfl, by omega, by go_num, by rw [hst.out]; exact hwn, HH, hcr⟩
        case measure => simp [intOf]; omega
      | true =>
        have hm : (k : Int) ≠ d1.me := by simp [BD.there] at hth; exact hth.2
        cases hsu : d1.susp (d1.at k) with
        | false =>
          have hst := Lib.hid (show d1.suspK (k + 1) = d1.suspK k by simp [BD.suspK, BD.suspP, hth, hsu])
          generalize d1.suspK k = F at *
          go_wp2_with fail
          refine (of_yes wr HH hlt hm).mono ?_
          rintro e w' ⟨rfl, rfl⟩
          go_wp2_with fail
          refine (susp_any wr HH hlt).mono ?_
          rintro e w' ⟨rfl, hcs⟩
          rw [hsu]
          go_wp2_with fail
          go_roundw
          case rel => exact ⟨k + 1, _, rfl, by omega, by go_num, by rw [hst.out]; exact owned_chg hwn hcs (by simp), HH.keep0 hcs, hcr.trans hcs⟩
          case measure => simp [intOf]; omega
        | true =>
          have hst := Lib.hid (show d1.suspK (k + 1) = d1.suspK k ++ [(k : Int)] by simp [BD.suspK, BD.suspP, hth, hsu])
          generalize d1.suspK k = F at *
          go_wp2_with fail
          refine (of_yes wr HH hlt hm).mono ?_
          rintro e w' ⟨rfl, rfl⟩
          go_wp2_with fail
          refine (susp_any wr HH hlt).mono ?_
          rintro e w' ⟨rfl, hcs⟩
          rw [hsu]
          have hk2 := block_new w' (.cells #[.int .i64 (k : Int)] 3)
          have hce := (Chg.refl [] w').alloc (.cells #[.int .i64 (k : Int)] 3)
          have hone := block_ints (k := .i64) (l := [(k : Int)]) hk2
          have hwn2 := owned_chg (owned_chg hwn hcs (by simp)) hce (by simp)
          have hcall := (hcr.trans hcs).trans hce
          go_wp2_with (at_builtin; refine wpList_append_ints (k := .i64) rfl (.tmp 32) (.tmp 34) 36 rfl B 3 i0 _ 8 Try.underlying36 hi hz0 hz1 hz2 (by omega) rfl _ _ _ rfl hwn2 _ _ [(k : Int)] rfl hone ?c1 ?c2 ?_)
          case c1 => simp; omega
          case c2 => rw [← HB.out]; exact hcall.size
          intro v' w4 hown' hch _
          have hsub : ∀ q, q ∈ v.ownBlock.toList → B ≤ q := by
            intro q hq
            have : v.ownBlock = some q := by simpa using hq
            exact (hwn.lt q this).1
          have hc4 : Chg [] w1 w4 := hcall.then hch (fun q hq => .inr (by rw [HB.out]; exact hsub q hq))
          have HH4 := ((HH.keep0 hcs).keep0 hce).keep hch (fun hq => by have := hsub b hq; omega) (fun hq => by have := hsub bt hq; omega)
          go_wp2_with fail
          go_roundw
          case rel => exact ⟨k + 1, _, rfl, by omega, by go_num, by rw [hst.out, List.length_append, List.map_append]; exact hown', HH4, hc4⟩
          case measure => simp [intOf]; omega
    · obtain rfl : k = d1.len := by omega
      have he := Lib.hid (show d1.suspL = d1.suspK d1.len from rfl)
      generalize d1.suspK d1.len = F at *
      obtain ⟨ao5, cap5, rfl, r1, r2, r3, r4, r5⟩ := owned_ints hwn
      go_wp2_with fail
      go_ret
      rw [HD.out, he.out]
      exact ⟨ao5, cap5, rfl, r1, HH, hc1.trans (hcr.mono (by simp)), fun x off e => Nat.le_trans hHB (r5 x off e)⟩
theorem suspects_nil (now : Int) (w : World) :
    Calls Try.prog 13 #[.pointer none, .int .i64 now] w fun e w' => e = .returned (.slice none 0 0) ∧ w' = w := by
  go_enter Try.func13, Try.ntmps13
  go_wp2_with fail
  go_ret
  exact ⟨rfl, rfl⟩
theorem heard_nil (now : Int) (v : Value) (w : World) :
    Calls Try.prog 14 #[.pointer none, .int .i64 now, v] w fun e w' => e = .returned (.int .i64 0) ∧ w' = w := by
  go_enter Try.func14, Try.ntmps14
  go_wp2_with fail
  go_ret
  exact ⟨rfl, rfl⟩
set_option maxHeartbeats 1000000 in
theorem in_any (w : World) (ao : Option Addr) (l : List Int) (cap : Nat) (x : Int) (h : isInts .i64 w ao l) (hl : l.length ≤ 1000000) :
    Calls Try.prog 12 #[.slice ao l.length cap, .int .i64 x] w fun e w' => e = .returned (.bool (decide (x ∈ l))) ∧ w' = w := by
  go_enter Try.func12, Try.ntmps12
  go_wp2_with fail
  go_loop [5] (fun i => ∃ k : Nat, k ≤ l.length ∧ i = .int .i64 k ∧ ∀ j, j < k → l.getD j 0 ≠ x) (fun i => l.length - (intOf i).toNat)
  case atStart => exact ⟨0, by omega, rfl, fun j hj => by omega⟩
  case round =>
    obtain ⟨k, hk, rfl, hall⟩ := hrel
    by_cases hlt : k < l.length
    · obtain ⟨b, off, rfl⟩ := h.addr hlt
      obtain ⟨hb, hcell⟩ := h.at hlt
      by_cases e : l.getD k 0 = x
      · have hmem : x ∈ l := by rw [← e]; simp [List.getD, hlt]
        have HM := Lib.hid (show decide (x ∈ l) = true by simp [hmem])
        rw [e] at hcell
        clear e hall hmem
        go_wp2_with fail
        go_ret
        rw [HM.out]; exact ⟨rfl, rfl⟩
      · have HE := Lib.hid e
        generalize hy : l.getD k 0 = y at *
        have HY := Lib.hid hy
        clear hy
        have he : (y == x) = false := by simpa using e
        go_wp2_with fail
        go_round
        case rel =>
          refine ⟨k + 1, by omega, by go_num, fun j hj => ?_⟩
          by_cases q : j = k
          · subst q; rw [HY.out]; exact HE.out
          · exact hall j (by omega)
        case measure => simp [intOf]; omega
    · obtain rfl : k = l.length := by omega
      have HM := Lib.hid (show decide (x ∈ l) = false by
        simp only [decide_eq_false_iff_not]
        intro hx
        obtain ⟨i, hi, rfl⟩ := List.mem_iff_getElem.1 hx
        exact hall i hi (by simp [List.getD, hi]))
      go_wp2_with fail
      go_ret
      rw [HM.out]; exact ⟨rfl, rfl⟩
end Go.Proofs.Ytjindkkdgjeppaa
