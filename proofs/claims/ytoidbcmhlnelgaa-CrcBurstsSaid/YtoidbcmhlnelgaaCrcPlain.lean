/-
  Plain: the register of the sum, as 32 bits: one bit's step, nibbles, bytes; what a burst does.
-/
import Derived.Test.YtoidbcmhlnelgaaKit
namespace Go.Proofs.Ytoidbcmhlnelgaa.Crc

abbrev R := BitVec 32
def poly : R := 0xedb88320
/-- What one bit does. -/
def step (r : R) : R := if r.getLsbD 0 then (r >>> 1) ^^^ poly else r >>> 1

theorem xor_cancel (a b : R) : b ^^^ (a ^^^ b) = a := by rw [BitVec.xor_comm a b, ← BitVec.xor_assoc, BitVec.xor_self, BitVec.zero_xor]
theorem step_xor (a b : R) : step (a ^^^ b) = step a ^^^ step b := by
  unfold step
  rw [BitVec.ushiftRight_xor_distrib, BitVec.getLsbD_xor]
  cases a.getLsbD 0 <;> cases b.getLsbD 0 <;> simp
  · ac_rfl
  · ac_rfl
  · rw [show a >>> 1 ^^^ poly ^^^ (b >>> 1 ^^^ poly) = (a >>> 1 ^^^ b >>> 1) ^^^ (poly ^^^ poly) by ac_rfl, BitVec.xor_self, BitVec.xor_zero]
theorem step_zero : step 0 = 0 := by decide
/-- No register but zero comes to zero. -/
theorem step_inj0 (r : R) (h : step r = 0) : r = 0 := by
  unfold step at h
  cases hb : r.getLsbD 0 with
  | true =>
    rw [hb] at h
    simp only [if_true] at h
    have h31 : ((r >>> 1) ^^^ poly).getLsbD 31 = false := by rw [h]; rfl
    rw [BitVec.getLsbD_xor, BitVec.getLsbD_ushiftRight] at h31
    have : r.getLsbD (1 + 31) = false := BitVec.getLsbD_of_ge r _ (by omega)
    rw [this] at h31
    exact absurd h31 (by decide)
  | false =>
    rw [hb] at h
    simp only [Bool.false_eq_true, if_false] at h
    apply BitVec.eq_of_getLsbD_eq
    intro i hi
    cases i with
    | zero => rw [hb]; rfl
    | succ i =>
      have h1 : (r >>> 1).getLsbD i = false := by rw [h]; simp
      rw [BitVec.getLsbD_ushiftRight, Nat.add_comm] at h1
      rw [h1]; simp
theorem step_inj {a b : R} (h : step a = step b) : a = b := by
  have h1 : step (a ^^^ b) = 0 := by rw [step_xor, h, BitVec.xor_self]; rfl
  have h2 := step_inj0 _ h1
  have h3 : b ^^^ (a ^^^ b) = b ^^^ 0 := by rw [h2]
  rw [xor_cancel] at h3
  rw [h3]; simp

/-- n steps. -/
def steps : Nat → R → R
  | 0, r => r
  | n + 1, r => steps n (step r)
theorem steps_xor (n : Nat) : ∀ a b, steps n (a ^^^ b) = steps n a ^^^ steps n b := by
  induction n with
  | zero => intro a b; rfl
  | succ n ih => intro a b; simp only [steps]; rw [step_xor, ih]
theorem steps_zero (n : Nat) : steps n 0 = 0 := by
  induction n with
  | zero => rfl
  | succ n ih => simp only [steps]; rw [step_zero, ih]
theorem steps_inj (n : Nat) : ∀ {a b}, steps n a = steps n b → a = b := by
  induction n with
  | zero => intro a b h; exact h
  | succ n ih => intro a b h; exact step_inj (ih h)
theorem steps_add (m n : Nat) (r : R) : steps (m + n) r = steps n (steps m r) := by
  induction m generalizing r with
  | zero => simp [steps]
  | succ m ih => rw [show m + 1 + n = (m + n) + 1 by omega]; simp only [steps]; exact ih _

/-- A register whose low bit is not set is moved alone. -/
theorem step_even {r : R} (h : r.getLsbD 0 = false) : step r = r >>> 1 := by unfold step; rw [h]; rfl
theorem steps_even (n : Nat) : ∀ (r : R), (∀ i, i < n → r.getLsbD i = false) → steps n r = r >>> n := by
  induction n with
  | zero => intro r _; simp [steps]
  | succ n ih =>
    intro r h
    simp only [steps]
    rw [step_even (h 0 (by omega)), ih _ (fun i hi => by rw [BitVec.getLsbD_ushiftRight]; exact h (1 + i) (by omega)), ← BitVec.shiftRight_add, Nat.add_comm]
/-- What a table of nibbles does. -/
theorem nibble (r : R) : steps 4 r = (r >>> 4) ^^^ steps 4 (r &&& 15) := by
  have h1 : r = (r &&& 15) ^^^ (r ^^^ (r &&& 15)) := by rw [BitVec.xor_comm r, ← BitVec.xor_assoc, BitVec.xor_self, BitVec.zero_xor]
  have h2 : steps 4 (r ^^^ (r &&& 15)) = (r ^^^ (r &&& 15)) >>> 4 := by
    apply steps_even
    intro i hi
    rw [BitVec.getLsbD_xor, BitVec.getLsbD_and]
    have : (15 : R).getLsbD i = true := by
      match i, hi with
      | 0, _ => rfl
      | 1, _ => rfl
      | 2, _ => rfl
      | 3, _ => rfl
    rw [this]; simp
  have h3 : (r ^^^ (r &&& 15)) >>> 4 = r >>> 4 := by
    rw [BitVec.ushiftRight_xor_distrib]
    have : (r &&& 15) >>> 4 = 0 := by
      apply BitVec.eq_of_toNat_eq
      rw [BitVec.toNat_ushiftRight, BitVec.toNat_and, Nat.shiftRight_eq_div_pow]
      have : r.toNat &&& (15 : R).toNat ≤ 15 := Nat.and_le_right
      show _ = 0
      exact Nat.div_eq_of_lt (by omega)
    rw [this]; simp
  conv => lhs; rw [h1, steps_xor, h2, h3]
  rw [BitVec.xor_comm]

/-- One bit of c goes through the register, the lowest one. -/
def bitStep (r c : R) : R := if r.getLsbD 0 != c.getLsbD 0 then (r >>> 1) ^^^ poly else r >>> 1
theorem bitStep_eq (r c : R) : step (r ^^^ c) = bitStep r c ^^^ (c >>> 1) := by
  unfold step bitStep
  rw [BitVec.ushiftRight_xor_distrib, BitVec.getLsbD_xor]
  cases r.getLsbD 0 <;> cases c.getLsbD 0 <;> simp <;> ac_rfl
/-- k bits of c. -/
def bitSteps : Nat → R → R → R
  | 0, r, _ => r
  | k + 1, r, c => bitSteps k (bitStep r c) (c >>> 1)
theorem bitSteps_eq : ∀ (k : Nat) (r c : R), steps k (r ^^^ c) = bitSteps k r c ^^^ (c >>> k)
  | 0, r, c => by simp [steps, bitSteps]
  | k + 1, r, c => by
    simp only [steps, bitSteps]
    rw [bitStep_eq, bitSteps_eq k, ← BitVec.shiftRight_add, Nat.add_comm]

/-- A byte. -/
def byteStep (r : R) (c : Nat) : R := steps 8 (r ^^^ BitVec.ofNat 32 c)
def run (r : R) (l : List Nat) : R := l.foldl byteStep r
def sum (l : List Nat) : R := ~~~(run (~~~0) l)
theorem run_append (r : R) (a b : List Nat) : run r (a ++ b) = run (run r a) b := by simp [run]

/-! ### Bit by bit; a burst -/
def bit (b : Bool) : R := if b then 1 else 0
def feed (r : R) (b : Bool) : R := step (r ^^^ bit b)
def feeds (r : R) (l : List Bool) : R := l.foldl feed r
theorem bit_xor (a b : Bool) : bit (a ^^ b) = bit a ^^^ bit b := by cases a <;> cases b <;> decide
theorem feed_xor (r s : R) (a b : Bool) : feed (r ^^^ s) (a ^^ b) = feed r a ^^^ feed s b := by
  unfold feed
  rw [bit_xor, ← step_xor]
  congr 1; ac_rfl
theorem feeds_xor : ∀ (a b : List Bool) (r s : R), a.length = b.length → feeds (r ^^^ s) (a.zipWith (· ^^ ·) b) = feeds r a ^^^ feeds s b
  | [], [], r, s, _ => rfl
  | x :: a, y :: b, r, s, h => by
    simp only [List.zipWith_cons_cons, feeds, List.foldl_cons]
    rw [feed_xor]
    exact feeds_xor a b _ _ (by simpa using h)
theorem feeds_append (r : R) (a b : List Bool) : feeds r (a ++ b) = feeds (feeds r a) b := by simp [feeds]
theorem feeds_false (n : Nat) : ∀ r, feeds r (List.replicate n false) = steps n r := by
  induction n with
  | zero => intro r; rfl
  | succ n ih =>
    intro r
    rw [List.replicate_succ]
    simp only [feeds, List.foldl_cons, steps]
    have : feed r false = step r := by simp [feed, bit]
    rw [this]; exact ih _
/-- The k lowest bits of c. -/
def bitsOf : Nat → R → List Bool
  | 0, _ => []
  | k + 1, c => c.getLsbD 0 :: bitsOf k (c >>> 1)
theorem feed_bit (r c : R) : feed r (c.getLsbD 0) = bitStep r c := by
  unfold feed step bitStep bit
  rw [BitVec.ushiftRight_xor_distrib, BitVec.getLsbD_xor]
  cases r.getLsbD 0 <;> cases c.getLsbD 0 <;> simp
theorem feeds_bits : ∀ (k : Nat) (r c : R), feeds r (bitsOf k c) = bitSteps k r c
  | 0, r, c => rfl
  | k + 1, r, c => by
    simp only [bitsOf, feeds, List.foldl_cons, bitSteps]
    rw [feed_bit]
    exact feeds_bits k _ _

theorem bitsOf_add : ∀ (m n : Nat) (c : R), bitsOf (m + n) c = bitsOf m c ++ bitsOf n (c >>> m)
  | 0, n, c => by simp [bitsOf]
  | m + 1, n, c => by
    rw [show m + 1 + n = (m + n) + 1 by omega]
    simp only [bitsOf, List.cons_append]
    rw [bitsOf_add m n, ← BitVec.shiftRight_add, Nat.add_comm 1 m]
theorem bitsOf_congr : ∀ (k : Nat) (c d : R), (∀ i, i < k → c.getLsbD i = d.getLsbD i) → bitsOf k c = bitsOf k d
  | 0, _, _, _ => rfl
  | k + 1, c, d, h => by
    simp only [bitsOf]
    rw [h 0 (by omega), bitsOf_congr k (c >>> 1) (d >>> 1) (fun i hi => by simp only [BitVec.getLsbD_ushiftRight]; exact h (1 + i) (by omega))]
theorem bitsOf_len : ∀ (k : Nat) (c : R), (bitsOf k c).length = k
  | 0, _ => rfl
  | k + 1, c => by simp [bitsOf, bitsOf_len k]
theorem byteStep_bits (r : R) {c : Nat} (h : c < 256) : byteStep r c = feeds r (bitsOf 8 (BitVec.ofNat 32 c)) := by
  rw [feeds_bits, byteStep, bitSteps_eq]
  have : (BitVec.ofNat 32 c) >>> 8 = 0 := by
    apply BitVec.eq_of_toNat_eq
    rw [BitVec.toNat_ushiftRight, BitVec.toNat_ofNat, Nat.shiftRight_eq_div_pow, Nat.mod_eq_of_lt (by omega)]
    exact Nat.div_eq_of_lt (by omega)
  rw [this]; simp
/-- The sum's bytes. -/
def foot (s : R) : List Nat := [s.toNat % 256, s.toNat / 256 % 256, s.toNat / 65536 % 256, s.toNat / 16777216 % 256]
theorem byte_bits (s : R) (k : Nat) : bitsOf 8 (BitVec.ofNat 32 (s.toNat / 2 ^ k % 256)) = bitsOf 8 (s >>> k) := by
  apply bitsOf_congr
  intro i hi
  rw [BitVec.getLsbD_ofNat, BitVec.getLsbD_ushiftRight, show (256 : Nat) = 2 ^ 8 from rfl, Nat.testBit_mod_two_pow, Nat.testBit_div_two_pow]
  have h1 : decide (i < 32) = true := by simp; omega
  have h2 : decide (i < 8) = true := by simpa using hi
  rw [h1, h2, Bool.true_and, Bool.true_and, Nat.add_comm]; rfl
theorem shift32 (s : R) : s >>> 32 = 0 := by
  apply BitVec.eq_of_toNat_eq
  rw [BitVec.toNat_ushiftRight, Nat.shiftRight_eq_div_pow]
  exact Nat.div_eq_of_lt s.isLt
theorem run_foot (r s : R) : run r (foot s) = steps 32 (r ^^^ s) := by
  have e : run r (foot s) = feeds r (bitsOf 32 s) := by
    have h := bitsOf_add 8 24 s
    have h2 := bitsOf_add 8 16 (s >>> 8)
    have h3 := bitsOf_add 8 8 (s >>> 8 >>> 8)
    rw [h, h2, h3, feeds_append, feeds_append, feeds_append]
    rw [← BitVec.shiftRight_add, ← BitVec.shiftRight_add]
    simp only [run, foot, List.foldl_cons, List.foldl_nil]
    rw [byteStep_bits _ (Nat.mod_lt _ (by omega)), byteStep_bits _ (Nat.mod_lt _ (by omega)), byteStep_bits _ (Nat.mod_lt _ (by omega)), byteStep_bits _ (Nat.mod_lt _ (by omega))]
    have b0 := byte_bits s 0
    have b1 := byte_bits s 8
    have b2 := byte_bits s 16
    have b3 := byte_bits s 24
    simp only [Nat.pow_zero, Nat.div_one, BitVec.ushiftRight_zero] at b0
    rw [b0]
    rw [show s.toNat / 256 = s.toNat / 2 ^ 8 from rfl, show s.toNat / 65536 = s.toNat / 2 ^ 16 from rfl, show s.toNat / 16777216 = s.toNat / 2 ^ 24 from rfl, b1, b2, b3]
  rw [e, feeds_bits, bitSteps_eq, shift32]; simp
/-- Behind marked bytes the register is always the same. -/
theorem run_marked (r : R) : run r (foot (~~~r)) = 0xdebb20e3 := by
  rw [run_foot]
  have : r ^^^ ~~~r = ~~~0 := by
    apply BitVec.eq_of_getLsbD_eq
    intro i hi
    rw [BitVec.getLsbD_xor, BitVec.getLsbD_not, BitVec.getLsbD_not]
    cases r.getLsbD i <;> simp [hi]
  rw [this]; decide +kernel
theorem bitSteps_snoc : ∀ (k : Nat) (r c : R), bitSteps (k + 1) r c = bitStep (bitSteps k r c) (c >>> k)
  | 0, r, c => by simp [bitSteps]
  | k + 1, r, c => by
    rw [bitSteps, bitSteps_snoc k, bitSteps, ← BitVec.shiftRight_add, Nat.add_comm 1 k]
theorem byteStep_ref (r : R) {c : Nat} (h : c < 256) : byteStep r c = bitSteps 8 r (BitVec.ofNat 32 c) := by rw [byteStep_bits r h, feeds_bits]
theorem low_mod (x : R) : x.getLsbD 0 = decide (x.toNat % 2 = 1) := by
  rw [BitVec.getLsbD, Nat.testBit_zero]
theorem bitStep_same {x d : R} (h : x.toNat % 2 = d.toNat % 2) : bitStep x d = x >>> 1 := by
  unfold bitStep; rw [low_mod, low_mod, h]; simp
theorem bitStep_ne {x d : R} (h : x.toNat % 2 ≠ d.toNat % 2) : bitStep x d = (x >>> 1) ^^^ poly := by
  unfold bitStep; rw [low_mod, low_mod]
  have : (decide (x.toNat % 2 = 1) != decide (d.toNat % 2 = 1)) = true := by
    rcases Nat.mod_two_eq_zero_or_one x.toNat with h1 | h1 <;> rcases Nat.mod_two_eq_zero_or_one d.toNat with h2 | h2 <;> simp_all
  rw [this]; rfl
end Go.Proofs.Ytoidbcmhlnelgaa.Crc
