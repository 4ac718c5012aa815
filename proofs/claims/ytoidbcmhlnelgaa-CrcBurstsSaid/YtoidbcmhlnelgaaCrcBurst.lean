/-
  Plain: a burst of bits that are turned within 32 in a row is always felt.
-/
import Derived.Test.YtoidbcmhlnelgaaCrcFits
namespace Go.Proofs.Ytoidbcmhlnelgaa.Crc

/-- Bytes with the bits of D turned from bit A on: the first k of them. -/
def burst (M : List Nat) (A : Nat) (D : R) : Nat → List Nat
  | 0 => M
  | k + 1 => if D.getLsbD k then (burst M A D k).set ((A + k) / 8) ((burst M A D k).getD ((A + k) / 8) 0 ^^^ 2 ^ ((A + k) % 8)) else burst M A D k
theorem burst_len (M : List Nat) (A : Nat) (D : R) : ∀ k, (burst M A D k).length = M.length
  | 0 => rfl
  | k + 1 => by unfold burst; split <;> simp [burst_len M A D k]
theorem burst_lt (M : List Nat) (A : Nat) (D : R) (h : ∀ x ∈ M, x < 256) : ∀ k, ∀ x ∈ burst M A D k, x < 256
  | 0 => h
  | k + 1 => by
    unfold burst
    split
    · intro x hx
      rcases List.mem_or_eq_of_mem_set hx with hx | rfl
      · exact burst_lt M A D h k x hx
      · have h1 : (burst M A D k).getD ((A + k) / 8) 0 < 2 ^ 8 := by
          rw [List.getD]
          cases hq : (burst M A D k)[(A + k) / 8]? with
          | none => simp
          | some y => exact burst_lt M A D h k y (List.mem_of_getElem? hq)
        have h2 : 2 ^ ((A + k) % 8) < 2 ^ 8 := Nat.pow_lt_pow_right (by omega) (Nat.mod_lt _ (by omega))
        exact Nat.xor_lt_two_pow h1 h2
    · exact burst_lt M A D h k
def bitAt (l : List Nat) (i : Nat) : Bool := (l.getD (i / 8) 0).testBit (i % 8)
theorem burst_bit (M : List Nat) (A : Nat) (D : R) : ∀ k, A + k ≤ 8 * M.length → ∀ i, bitAt (burst M A D k) i = (bitAt M i ^^ (decide (A ≤ i ∧ i < A + k) && D.getLsbD (i - A)))
  | 0, _, i => by
    have : decide (A ≤ i ∧ i < A + 0) = false := by simp
    rw [this]; simp [burst]
  | k + 1, h, i => by
    have ih := burst_bit M A D k (by omega) i
    by_cases hd : D.getLsbD k = true
    · have e : burst M A D (k + 1) = (burst M A D k).set ((A + k) / 8) ((burst M A D k).getD ((A + k) / 8) 0 ^^^ 2 ^ ((A + k) % 8)) := by rw [burst, if_pos hd]
      rw [e]
      have hl := burst_len M A D k
      generalize burst M A D k = l at *
      unfold bitAt at *
      by_cases h8 : i / 8 = (A + k) / 8
      · have hg : (l.set ((A + k) / 8) (l.getD ((A + k) / 8) 0 ^^^ 2 ^ ((A + k) % 8))).getD (i / 8) 0 = l.getD (i / 8) 0 ^^^ 2 ^ ((A + k) % 8) := by
          rw [h8]; simp [List.getD, show (A + k) / 8 < l.length by omega]
        rw [hg, Nat.testBit_xor, ih, Nat.testBit_two_pow]
        by_cases hm : (A + k) % 8 = i % 8
        · have hi : i = A + k := by omega
          subst hi
          have h1 : decide (A ≤ A + k ∧ A + k < A + k) = false := by simp
          have h2 : decide (A ≤ A + k ∧ A + k < A + (k + 1)) = true := by simp
          rw [h1, h2, show A + k - A = k by omega, hd]; simp
        · have h1 : decide (A ≤ i ∧ i < A + (k + 1)) = decide (A ≤ i ∧ i < A + k) := by
            congr 1; apply propext; constructor <;> intro h <;> omega
          rw [h1]; simp [hm]
      · have hg : (l.set ((A + k) / 8) (l.getD ((A + k) / 8) 0 ^^^ 2 ^ ((A + k) % 8))).getD (i / 8) 0 = l.getD (i / 8) 0 := by
          have : ¬ (A + k) / 8 = i / 8 := fun q => h8 q.symm
          simp [List.getD, List.getElem?_set, this]
        rw [hg, ih]
        have h1 : decide (A ≤ i ∧ i < A + (k + 1)) = decide (A ≤ i ∧ i < A + k) := by
          congr 1; apply propext; constructor <;> intro h <;> omega
        rw [h1]
    · have e : burst M A D (k + 1) = burst M A D k := by rw [burst, if_neg hd]
      rw [e, ih]
      by_cases hi : i = A + k
      · subst hi
        rw [show A + k - A = k by omega]
        simp [hd]
      · have h1 : decide (A ≤ i ∧ i < A + (k + 1)) = decide (A ≤ i ∧ i < A + k) := by
          congr 1; apply propext; constructor <;> intro h <;> omega
        rw [h1]

theorem bitsOf_get : ∀ (k : Nat) (c : R) (i : Nat), i < k → (bitsOf k c)[i]? = some (c.getLsbD i)
  | k + 1, c, 0, _ => by simp [bitsOf]
  | k + 1, c, i + 1, h => by
    simp only [bitsOf, List.getElem?_cons_succ]
    rw [bitsOf_get k _ i (by omega), BitVec.getLsbD_ushiftRight, Nat.add_comm]
def bitsL (l : List Nat) : List Bool := l.flatMap (fun c => bitsOf 8 (BitVec.ofNat 32 c))
theorem run_bits : ∀ (l : List Nat), (∀ x ∈ l, x < 256) → ∀ r, run r l = feeds r (bitsL l)
  | [], _, r => rfl
  | c :: l, h, r => by
    have e : bitsL (c :: l) = bitsOf 8 (BitVec.ofNat 32 c) ++ bitsL l := by simp [bitsL]
    rw [e, feeds_append, ← byteStep_bits r (h c (by simp)), ← run_bits l (fun x hx => h x (by simp [hx]))]
    rfl
theorem bitsL_len (l : List Nat) : (bitsL l).length = 8 * l.length := by
  induction l with
  | nil => rfl
  | cons c l ih =>
    have e : bitsL (c :: l) = bitsOf 8 (BitVec.ofNat 32 c) ++ bitsL l := by simp [bitsL]
    rw [e, List.length_append, bitsOf_len, ih, List.length_cons]; omega
theorem bitsL_get : ∀ (l : List Nat) (i : Nat), i < 8 * l.length → (bitsL l)[i]? = some (bitAt l i)
  | [], i, h => by simp at h
  | c :: l, i, h => by
    have e : bitsL (c :: l) = bitsOf 8 (BitVec.ofNat 32 c) ++ bitsL l := by simp [bitsL]
    rw [e]
    rcases Nat.lt_or_ge i 8 with hi | hi
    · rw [List.getElem?_append_left (by rw [bitsOf_len]; exact hi), bitsOf_get 8 _ i hi]
      unfold bitAt
      rw [show i / 8 = 0 by omega, show i % 8 = i by omega, BitVec.getLsbD_ofNat]
      have : decide (i < 32) = true := by simp; omega
      rw [this]; simp
    · rw [List.getElem?_append_right (by rw [bitsOf_len]; exact hi), bitsOf_len, bitsL_get l (i - 8) (by simp at h; omega)]
      unfold bitAt
      rw [show (i - 8) % 8 = i % 8 by omega, show i / 8 = (i - 8) / 8 + 1 by omega]
      simp
theorem burst_xor (M : List Nat) (A : Nat) (D : R) (h : A + 32 ≤ 8 * M.length) :
    (bitsL (burst M A D 32)).zipWith (· ^^ ·) (bitsL M) = List.replicate A false ++ (bitsOf 32 D ++ List.replicate (8 * M.length - A - 32) false) := by
  apply List.ext_getElem?
  intro i
  have hl := burst_len M A D 32
  by_cases hi : i < 8 * M.length
  · rw [List.getElem?_zipWith, bitsL_get _ i (by omega), bitsL_get _ i hi, burst_bit M A D 32 h i]
    have hx : ((bitAt M i ^^ (decide (A ≤ i ∧ i < A + 32) && D.getLsbD (i - A))) ^^ bitAt M i) = (decide (A ≤ i ∧ i < A + 32) && D.getLsbD (i - A)) := by
      cases bitAt M i <;> simp
    show some ((bitAt M i ^^ (decide (A ≤ i ∧ i < A + 32) && D.getLsbD (i - A))) ^^ bitAt M i) = _
    rw [hx]
    rcases Nat.lt_or_ge i A with h1 | h1
    · rw [List.getElem?_append_left (by simpa using h1)]
      have : decide (A ≤ i ∧ i < A + 32) = false := by simp; omega
      rw [this]; simp [List.getElem?_replicate, h1]
    · rw [List.getElem?_append_right (by simpa using h1), List.length_replicate]
      rcases Nat.lt_or_ge (i - A) 32 with h2 | h2
      · rw [List.getElem?_append_left (by rw [bitsOf_len]; exact h2), bitsOf_get 32 D _ h2]
        have : decide (A ≤ i ∧ i < A + 32) = true := by simp; omega
        rw [this]; simp
      · rw [List.getElem?_append_right (by rw [bitsOf_len]; exact h2), bitsOf_len]
        have : decide (A ≤ i ∧ i < A + 32) = false := by simp; omega
        rw [this, List.getElem?_replicate, if_pos (by omega)]; simp
  · rw [List.getElem?_eq_none (by simp [bitsL_len, hl]; omega), List.getElem?_eq_none (by simp [bitsOf_len]; omega)]
theorem feeds_zero_false (n : Nat) : feeds 0 (List.replicate n false) = 0 := by rw [feeds_false, steps_zero]
/-- The register behind turned bits is another one. -/
theorem burst_felt (r : R) (M : List Nat) (A : Nat) (D : R) (hM : ∀ x ∈ M, x < 256) (h : A + 32 ≤ 8 * M.length) (e : run r (burst M A D 32) = run r M) : D = 0 := by
  rw [run_bits _ (burst_lt M A D hM 32), run_bits _ hM] at e
  have h1 := feeds_xor (bitsL (burst M A D 32)) (bitsL M) r r (by rw [bitsL_len, bitsL_len, burst_len])
  rw [e, BitVec.xor_self, BitVec.xor_self, burst_xor M A D h, feeds_append, feeds_append] at h1
  have h2 : feeds (0 : R) (List.replicate A false) = 0 := feeds_zero_false A
  have h3 : (0#32 : R) = 0 := rfl
  rw [h3, h2, feeds_false, feeds_bits] at h1
  have h4 := bitSteps_eq 32 0 D
  rw [shift32] at h4
  have h5 : bitSteps 32 0 D = steps 32 D := by
    have : (0 : R) ^^^ D = D := by simp
    rw [this] at h4
    rw [h4]; simp
  rw [h5] at h1
  have h6 : steps (8 * M.length - A - 32) (steps 32 D) = steps (8 * M.length - A - 32) (steps 32 0) := by rw [h1, steps_zero, steps_zero]
  exact steps_inj 32 (steps_inj _ h6)
end Go.Proofs.Ytoidbcmhlnelgaa.Crc
namespace Go.Proofs.Ytoidbcmhlnelgaa
open Crc
/-- Bytes that fit leave the one register. -/
theorem fits_run {B : List Nat} (h4 : 4 ≤ B.length) (h : foot (sum (B.take (B.length - 4))) = B.drop (B.length - 4)) (r : R) (hr : r = ~~~0) : run r B = 0xdebb20e3 := by
  subst hr
  conv => lhs; rw [← List.take_append_drop (B.length - 4) B]
  rw [run_append, ← h]
  exact run_marked _
theorem burst_fits (L : List Nat) (A : Nat) (D : R) (hL : ∀ x ∈ L, x < 256) (hA : A + 32 ≤ 8 * (L.length + 4)) (hD : D ≠ 0) : fitsE (burst (L ++ foot (sum L)) A D 32) = 5 := by
  have hM : (L ++ foot (sum L)).length = L.length + 4 := by simp [foot]
  have hb := burst_len (L ++ foot (sum L)) A D 32
  rw [hM] at hb
  unfold fitsE
  rw [if_neg (by omega), if_neg]
  intro h
  have h1 := fits_run (by omega) h _ rfl
  have h2 : run (~~~0) (L ++ foot (sum L)) = 0xdebb20e3 := by
    rw [run_append]; exact run_marked _
  exact hD (burst_felt (~~~0) (L ++ foot (sum L)) A D (fun x hx => (List.mem_append.1 hx).elim (hL x) (foot_lt _ x)) (by rw [hM]; omega) (h1.trans h2.symm))
end Go.Proofs.Ytoidbcmhlnelgaa
