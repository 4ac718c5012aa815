/-
  A sum's bytes; rows with their sum behind them.
-/
import Derived.Test.YtoidbcmhlnelgaaCrcAwake
namespace Go.Proofs.Ytoidbcmhlnelgaa
open Go.RowKit Crc

theorem foot_lt (s : R) : ∀ x ∈ foot s, x < 256 := by
  intro x hx
  simp only [foot, List.mem_cons, List.not_mem_nil, or_false] at hx
  rcases hx with rfl | rfl | rfl | rfl <;> exact Nat.mod_lt _ (by omega)
theorem foot_any (s : R) (w : World) : Calls Try.prog 17 #[.int .u32 (s.toNat : Int)] w (newBytes w (foot s)) := by
  have hs := s.isLt
  go_enter Try.func17, Try.ntmps17
  go_wp2_with fail
  have e : #[Value.int IntKind.u8 ((s.toNat : Int) % 256), Value.int IntKind.u8 ((s.toNat : Int) / 256 % 256), Value.int IntKind.u8 ((s.toNat : Int) / 65536 % 256), Value.int IntKind.u8 ((s.toNat : Int) / 16777216)] = ((foot s).map byteV).toArray := by
    have : (s.toNat : Int) / 16777216 = ((s.toNat / 16777216 % 256 : Nat) : Int) := by omega
    rw [this]; rfl
  rw [e]
  have k := block_new w (.cells ((foot s).map byteV).toArray 5)
  have hc := (Chg.refl [] w).alloc (.cells ((foot s).map byteV).toArray 5)
  generalize w.alloc (.cells ((foot s).map byteV).toArray 5) = W at *
  go_ret
  exact ⟨some ⟨w.heap.size, 0, none⟩, 4, rfl, block_bytes k (foot_lt s), by simp [foot], by decide, by simp, by simp, hc, by intro b off e; simp at e; obtain ⟨rfl, _⟩ := e; exact ⟨_, k⟩⟩

set_option maxHeartbeats 1000000 in
theorem mark_any (w : World) (ao : Option Addr) (ls : List (List Nat)) (cap : Nat) (h : isLists w ao ls) (hl : ls.length ≤ maxLen) (hsm : ∀ k, ((ls.take k).flatten).length ≤ 100000) :
    Calls Try.prog 12 #[.slice ao ls.length cap] w (newBytes w (ls.flatten ++ foot (sum ls.flatten))) := by
  obtain ⟨i0, hi, hz0, hz1, hz2⟩ := info_parts Try.info_u8
  have HM := Lib.hid hl
  unfold maxLen at hl
  go_enter Try.func12, Try.ntmps12
  go_wp2_with fail
  go_loop [3, 11] (fun v i => ∃ k : Nat, k ≤ ls.length ∧ i = .int .i64 k ∧ v = .int .i64 ((4 + ((ls.take k).flatten).length : Nat) : Int)) (fun _ i => ls.length - (intOf i).toNat)
  case atStart => exact ⟨0, by omega, rfl, rfl⟩
  case round =>
    obtain ⟨k, hk, rfl, rfl⟩ := hrel
    have hs1 := hsm k
    by_cases hlt : k < ls.length
    · obtain ⟨b, off, rfl⟩ := h.addr hlt
      obtain ⟨a', cap', hbl, hcell, hby, hcap, hmax, hnil⟩ := h.at hlt
      have hs2 := hsm (k + 1)
      have hft := flat_take ls hlt
      have HF := Lib.hid hft
      rw [hft, List.length_append] at hs2
      clear hft
      generalize ls.getD k [] = L at *
      generalize (ls.take k).flatten = F at *
      go_wp2_with fail
      go_round
      case rel =>
        refine ⟨k + 1, by omega, by go_num, ?_⟩
        rw [HF.out, List.length_append]; congr 1; omega
      case measure => simp [intOf]; omega
    · obtain rfl : k = ls.length := by omega
      rw [List.take_length] at hs1
      rw [List.take_length]
      obtain ⟨N, hN⟩ : ∃ N, 4 + ls.flatten.length = N := ⟨_, rfl⟩
      rw [hN]
      have r1 := fun wx => run_make (P := Try.prog) wx 28 5 i0 _ Try.underlying28 hi hz0 .i64 .i64 0 N (by omega) (by omega) (by rw [hz2]; omega) (by omega)
      rw [hz1] at r1
      have hNs : N ≤ 200000 := by omega
      clear hN hs1
      go_wp2_with fail
      have hown := World.ownsRow_made (base := w.heap.size) (e := 5) (size := 1) w (madeCells #[Value.int IntKind.u8 0] N) N (Nat.le_refl _) (by unfold maxLen; omega) (by rw [madeCells_one]; simp)
      have hc0 := (Chg.refl [] w).alloc (.cells (madeCells #[Value.int IntKind.u8 0] N) 5)
      generalize w.alloc (.cells (madeCells #[Value.int IntKind.u8 0] N) 5) = W1 at *
      obtain ⟨B, hB⟩ : ∃ b, w.heap.size = b := ⟨_, rfl⟩
      have HB := Lib.hid hB
      rw [hB] at hown ⊢
      clear hB
      go_loopw [6, 24] (fun v i wr => ∃ (k : Nat) (v0 : Value), v0 = v ∧ k ≤ ls.length ∧ i = .int .i64 k ∧ wr.ownsRow B 5 1 v0 ((ls.take k).flatten).length ((ls.take k).flatten.map byteV) ∧ Chg [] w wr) (fun _ i _ => ls.length - (intOf i).toNat)
      case atStart => exact ⟨0, _, rfl, by omega, rfl, hown, hc0⟩
      case round =>
        obtain ⟨k, v, rfl, hk, rfl, hwn, hcr⟩ := hrel
        by_cases hlt : k < ls.length
        · obtain ⟨b, off, rfl⟩ := h.addr hlt
          obtain ⟨a', cap', hbl, hcell, hby, hcap, hmax, hnil⟩ := (h.keep0 hcr).at hlt
          have hs1 := hsm k
          have hs2 := hsm (k + 1)
          have hft := flat_take ls hlt
          have HF := Lib.hid hft
          rw [hft, List.length_append] at hs2
          clear hft
          generalize ls.getD k [] = L at *
          generalize (ls.take k).flatten = F at *
          go_wp2_with (at_builtin; refine wpList_append_bytes rfl (.tmp 28) (.tmp 29) 28 rfl B 5 i0 _ Try.underlying28 hi hz0 hz1 hz2 rfl v _ _ rfl hwn a' cap' L rfl hby hnil ?c1 ?c2 ?_)
          case c1 => omega
          case c2 => rw [← HB.out]; exact hcr.size
          intro v' w1 hown' hch hown2
          have hc1 : Chg [] w w1 := hcr.then hch (by
            intro q hq; right
            have : v.ownBlock = some q := by simpa using hq
            rw [HB.out]; exact (hwn.lt q this).1)
          go_wp2_with fail
          go_roundw
          case rel =>
            refine ⟨k + 1, _, rfl, by omega, by go_num, ?_, hc1⟩
            rw [HF.out, List.length_append, List.map_append]; exact hown'
          case measure => simp [intOf]; omega
        · obtain rfl : k = ls.length := by omega
          rw [List.take_length] at hwn
          have hall := h.all
          have hs9 := hsm ls.length
          rw [List.take_length] at hs9
          have hsum := sum_any wr ao ls cap (h.keep0 hcr) HM.out
          generalize ls.flatten = F at *
          go_wp2_with fail
          refine hsum.mono ?_
          rintro e w2 ⟨rfl, hc2⟩
          go_wp2_with fail
          refine (foot_any (sum F) w2).mono ?_
          rintro e w3 ⟨ao3, cap3, rfl, q1, q2, q3, q4, q5, hc3, _⟩
          have hwn3 : w3.ownsRow B 5 1 v F.length (F.map byteV) := owned_chg hwn (hc2.trans hc3) (by simp)
          have hc9 := (hcr.trans hc2).trans hc3
          go_wp2_with (at_builtin; refine wpList_append_bytes rfl (.tmp 32) (.tmp 35) 28 rfl B 5 i0 _ Try.underlying28 hi hz0 hz1 hz2 rfl v _ _ rfl hwn3 ao3 cap3 (foot (sum F)) rfl q1 q4 ?c1 ?c2 ?_)
          case c1 => simp [foot]; omega
          case c2 => rw [← HB.out]; exact hc9.size
          intro v' w4 hown' hch _
          have hc4 : Chg [] w w4 := hc9.then hch (by
            intro q hq; right
            have : v.ownBlock = some q := by simpa using hq
            rw [HB.out]; exact (hwn.lt q this).1)
          rw [← List.map_append] at hown'
          obtain ⟨ao5, cap5, rfl, r1, r2, r3, r4, r5⟩ := owned_bytes hown' (by
            intro x hx
            rcases List.mem_append.1 hx with hx | hx
            · exact hall x hx
            · exact foot_lt _ x hx)
          go_wp2_with fail
          go_ret
          exact ⟨ao5, cap5, rfl, r1, r2, r3, r4, by rw [HB.out]; exact r5, hc4, owned_row hown'⟩
end Go.Proofs.Ytoidbcmhlnelgaa
