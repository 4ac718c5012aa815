/-
  The reference of crc: marked bytes.
-/
import Derived.Test.YtoidbcmhlnelgaaCrcFits
namespace Go.Proofs.Ytoidbcmhlnelgaa
open Go.RowKit Crc

theorem foot_step (s : R) {j : Nat} (h : j < 4) : (foot s).take (j + 1) = (foot s).take j ++ [s.toNat / 256 ^ j % 256] := by
  match j, h with
  | 0, _ => simp [foot]
  | 1, _ => rfl
  | 2, _ => rfl
  | 3, _ => rfl
theorem div_step (a j : Nat) : a / 256 ^ (j + 1) = a / 256 ^ j / 256 := by rw [Nat.pow_succ, Nat.div_div_eq_div_mul]

/-- A byte behind a row of the call's own. -/
theorem block_one {w : World} {b t : Nat} {f : Nat × Nat} {x : Nat} (h : w.heap[b]? = some (.cells #[.int .u8 (x : Int)] t f)) (hx : x < 256) : isBytes w (some ⟨b, 0, none⟩) [x] :=
  block_bytes (l := [x]) h (by simpa using hx)

set_option maxRecDepth 100000 in
set_option maxHeartbeats 1000000 in
theorem rmark_any (w : World) (ao : Option Addr) (L : List Nat) (cap : Nat) (h : isBytes w ao L) (hnil : ao = none → cap = 0) (hsm : L.length ≤ 100000) :
    Calls Try.prog 15 #[.slice ao L.length cap] w (newBytes w (L ++ foot (sum L))) := by
  obtain ⟨i0, hi, hz0, hz1, hz2⟩ := info_parts Try.info_u8
  have hown : (w.alloc (.cells #[] 5)).ownsRow w.heap.size 5 1 (.slice (some ⟨w.heap.size, 0, none⟩) 0 0) 0 (List.map byteV []) :=
    ⟨by simp, .inr ⟨w.heap.size, 0, #[], rfl, Nat.le_refl _, block_new _ _, Nat.le_refl _, by unfold maxLen; omega, rfl, rfl⟩⟩
  have hc9 := (Chg.refl [] w).alloc (.cells #[] 5)
  have hb9 := h.keep0 hc9
  have hall := h.all
  go_enter Try.func15, Try.ntmps15
  go_wp2_with (at_builtin; refine wpList_append_bytes rfl (.tmp 6) (.tmp 7) 28 rfl w.heap.size 5 i0 _ Try.underlying28 hi hz0 hz1 hz2 rfl _ _ _ rfl hown ao cap L rfl hb9 hnil ?c1 ?c2 ?_)
  case c1 => omega
  case c2 => simp
  intro v1 w1 hown1 hch1 _
  obtain ⟨B, hB⟩ : ∃ b, w.heap.size = b := ⟨_, rfl⟩
  have HB := Lib.hid hB
  have hc1 : Chg [] w w1 := hc9.then hch1 (by
    intro q hq; right
    have : q = w.heap.size := by simpa [Value.ownBlock] using hq
    omega)
  rw [hB] at hown1
  clear hB hch1 hown hb9 hc9
  go_wp2_with fail
  refine (rsum_any w1 ao L cap (h.keep0 hc1) (by unfold maxLen; omega)).mono ?_
  rintro e w2 ⟨rfl, rfl⟩
  have slt := (sum L).isLt
  have hfs := fun j => @foot_step (sum L) j
  have HF := Lib.hid hfs
  have HA := Lib.hid (foot_lt (sum L))
  have HT := Lib.hid (show (foot (sum L)).take 4 = foot (sum L) from rfl)
  clear hfs
  generalize hs : (sum L).toNat = s at *
  have HS := Lib.hid hs
  clear hs
  try simp only [List.map_nil, List.nil_append, Nat.zero_add] at hown1
  go_wp2_with fail
  go_loopw [3, 4, 5] (fun v d i wr => ∃ (k : Nat) (v0 : Value), v0 = v ∧ k ≤ 4 ∧ i = .int .i64 k ∧ d = .int .u32 ((s / 256 ^ k : Nat) : Int) ∧ wr.ownsRow B 5 1 v0 (L ++ (foot (sum L)).take k).length ((L ++ (foot (sum L)).take k).map byteV) ∧ Chg [] w wr) (fun _ _ i _ => 4 - (intOf i).toNat)
  case atStart => exact ⟨0, _, rfl, by omega, rfl, by simp, by simpa using hown1, hc1⟩
  case round =>
    obtain ⟨k, v, rfl, hk, rfl, rfl, hwn, hcr⟩ := hrel
    have hle : (L ++ (foot (sum L)).take k).length ≤ 100100 := by simp [foot]; omega
    by_cases hlt : k < 4
    · have hdl : s / 256 ^ k ≤ s := Nat.div_le_self _ _
      have hds := div_step s k
      have hft := HF.out k hlt
      have hk2 := block_new wr (.cells #[.int .u8 ((s / 256 ^ k % 256 : Nat) : Int)] 5)
      have hce := (Chg.refl [] wr).alloc (.cells #[.int .u8 ((s / 256 ^ k % 256 : Nat) : Int)] 5)
      have hone := block_one hk2 (Nat.mod_lt _ (by omega))
      have hwn2 := owned_chg hwn hce (by simp)
      have hcs := hcr.size
      generalize hF : L ++ (foot (sum L)).take k = F at *
      have HF2 := Lib.hid (show L ++ (foot (sum L)).take (k + 1) = F ++ [s / 256 ^ k % 256] by rw [hft, ← List.append_assoc, hF])
      have HD := Lib.hid hds
      clear hF hft hds
      generalize s / 256 ^ k = d at *
      have hce2 := hcr.trans hce
      go_wp2_with (at_builtin; refine wpList_append_bytes rfl (.tmp 15) (.tmp 19) 28 rfl B 5 i0 _ Try.underlying28 hi hz0 hz1 hz2 rfl _ _ _ rfl hwn2 _ _ [d % 256] rfl hone (by simp) ?c1 ?c2 ?_)
      case c1 => simp; omega
      case c2 => rw [← HB.out]; exact hce2.size
      intro v' w4 hown' hch _
      have hc4 : Chg [] w w4 := hce2.then hch (by
        intro q hq; right
        have : v.ownBlock = some q := by simpa using hq
        rw [HB.out]; exact (hwn.lt q this).1)
      go_wp2_with fail
      go_roundw
      case rel =>
        refine ⟨k + 1, _, rfl, by omega, by go_num, ?_, ?_, hc4⟩
        · rw [HD.out]; rfl
        · rw [HF2.out, List.length_append, List.map_append]; exact hown'
      case measure => simp [intOf]; omega
    · obtain rfl : k = 4 := by omega
      rw [HT.out] at hwn
      obtain ⟨ao5, cap5, rfl, r1, r2, r3, r4, r5⟩ := owned_bytes hwn (by
            intro x hx
            rcases List.mem_append.1 hx with hx | hx
            · exact hall x hx
            · exact HA.out x hx)
      have hrow := owned_row hwn
      generalize L ++ foot (sum L) = M at *
      go_wp2_with fail
      go_ret
      exact ⟨ao5, cap5, rfl, r1, r2, r3, r4, by rw [HB.out]; exact r5, hcr, hrow⟩
end Go.Proofs.Ytoidbcmhlnelgaa
