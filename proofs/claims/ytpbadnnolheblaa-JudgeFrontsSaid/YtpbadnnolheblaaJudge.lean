/-
  Package judge: deliveries and logs in memory; whether two are the same.
-/
import Derived.Test.YtpbadnnolheblaaStr
import Derived.BigQuiet
namespace Go.Proofs.Ytpbadnnolheblaa
open Go.RowKit

/-- A delivery. -/
structure Dl where
  f : Nat
  s : Nat
  p : List Nat
deriving DecidableEq
def Dl.z : Dl := ⟨0, 0, []⟩
/-- Its value. -/
def dlV (f s : Nat) (ao : Option Addr) (n cap : Nat) : Value := .agg #[.int .u8 (f : Int), .int .u64 (s : Int), .slice ao n cap]

/-- The deliveries of l lie at ao. -/
def isLog (w : World) (ao : Option Addr) (l : List Dl) : Prop :=
  ∀ i, i < l.length → ∃ b off a' cap, ao = some ⟨b, off, none⟩ ∧ b < w.heap.size ∧ w.cell? ⟨b, off + i * 3, none⟩ = some (.int .u8 ((l.getD i Dl.z).f : Int)) ∧ w.cell? ⟨b, off + i * 3 + 1, none⟩ = some (.int .u64 ((l.getD i Dl.z).s : Int)) ∧
    w.cell? ⟨b, off + i * 3 + 2, none⟩ = some (.slice a' (l.getD i Dl.z).p.length cap) ∧ isBytes w a' (l.getD i Dl.z).p ∧ (l.getD i Dl.z).p.length ≤ cap ∧ cap ≤ maxLen ∧ (a' = none → cap = 0)
theorem isLog.keep0 {w w' : World} {ao : Option Addr} {l : List Dl} (h : isLog w ao l) (hc : Chg [] w w') : isLog w' ao l := by
  intro i hi
  obtain ⟨b, off, a', cap, h1, h2, h3, h4, h5, h6, h7⟩ := h i hi
  have e := fun o => hc.cell (p := ⟨b, o, none⟩) h2 (by simp)
  exact ⟨b, off, a', cap, h1, Nat.lt_of_lt_of_le h2 hc.size, (e _).trans h3, (e _).trans h4, (e _).trans h5, h6.keep0 hc, h7⟩
theorem isLog.at {w : World} {b off : Nat} {l : List Dl} (h : isLog w (some ⟨b, off, none⟩) l) {i : Nat} (hi : i < l.length) :
    ∃ a' cap, b < w.heap.size ∧ w.cell? ⟨b, off + i * 3, none⟩ = some (.int .u8 ((l.getD i Dl.z).f : Int)) ∧ w.cell? ⟨b, off + i * 3 + 1, none⟩ = some (.int .u64 ((l.getD i Dl.z).s : Int)) ∧
    w.cell? ⟨b, off + i * 3 + 2, none⟩ = some (.slice a' (l.getD i Dl.z).p.length cap) ∧ isBytes w a' (l.getD i Dl.z).p ∧ (l.getD i Dl.z).p.length ≤ cap ∧ cap ≤ maxLen ∧ (a' = none → cap = 0) := by
  obtain ⟨b', off', a', cap, h1, h2⟩ := h i hi
  simp only [Option.some.injEq, Addr.mk.injEq, and_true] at h1
  obtain ⟨rfl, rfl⟩ := h1
  exact ⟨a', cap, h2⟩
theorem isLog.addr {w : World} {ao : Option Addr} {l : List Dl} (h : isLog w ao l) {i : Nat} (hi : i < l.length) : ∃ b off, ao = some ⟨b, off, none⟩ := by
  obtain ⟨b, off, _, _, h1, _⟩ := h i hi; exact ⟨b, off, h1⟩
theorem isLog_nil (w : World) (ao : Option Addr) : isLog w ao [] := fun i hi => by simp at hi
theorem isLog.take {w : World} {ao : Option Addr} {l : List Dl} (h : isLog w ao l) (n : Nat) : isLog w ao (l.take n) := by
  intro i hi
  rw [List.length_take] at hi
  have e : (l.take n).getD i Dl.z = l.getD i Dl.z := by simp [List.getD, List.getElem?_take, show i < n by omega]
  rw [e]; exact h i (by omega)

set_option maxHeartbeats 400000 in
theorem equal_any (w : World) (ao bo : Option Addr) (a b : List Nat) (ca cb : Nat) (ha : isBytes w ao a) (hb : isBytes w bo b) :
    Calls Try.prog 15 #[.slice ao a.length ca, .slice bo b.length cb] w fun e w' => e = .returned (.bool (decide (a = b))) ∧ w' = w := by
  have c1 := conv_bytes Try.underlying32 Try.underlying5 Try.underlying9 ca ha
  have c2 := conv_bytes Try.underlying32 Try.underlying5 Try.underlying9 cb hb
  have hE := Lib.hid (strB_eq ha.all hb.all)
  go_enter Try.func15, Try.ntmps15
  go_wp2_with fail
  go_ret
  rw [← hE.out]
  exact ⟨rfl, rfl⟩

set_option maxHeartbeats 1000000 in
theorem same_any (w : World) (x y : Dl) (ao bo : Option Addr) (ca cb : Nat) (ha : isBytes w ao x.p) (hb : isBytes w bo y.p) :
    Calls Try.prog 12 #[dlV x.f x.s ao x.p.length ca, dlV y.f y.s bo y.p.length cb] w fun e w' => e = .returned (.bool (decide (x = y))) ∧ Chg [] w w' := by
  unfold dlV
  by_cases h1 : x.f = y.f ∧ x.s = y.s
  · obtain ⟨h1, h2⟩ := h1
    have hE := Lib.hid (show decide (x = y) = decide (x.p = y.p) by
      congr 1; apply propext
      constructor
      · intro e; rw [e]
      · intro e; cases x; cases y; simp_all)
    rw [h1, h2]
    go_enter Try.func12, Try.ntmps12
    go_wp2_with fail
    have hcc := ((Chg.refl [] w).alloc (.cells #[.int .u8 (y.f : Int), .int .u64 (y.s : Int), .slice ao x.p.length ca] 34)).alloc (.cells #[.int .u8 (y.f : Int), .int .u64 (y.s : Int), .slice bo y.p.length cb] 34)
    generalize (w.alloc (.cells #[.int .u8 (y.f : Int), .int .u64 (y.s : Int), .slice ao x.p.length ca] 34)).alloc (.cells #[.int .u8 (y.f : Int), .int .u64 (y.s : Int), .slice bo y.p.length cb] 34) = W2 at *
    refine (equal_any W2 ao bo x.p y.p ca cb (ha.keep0 hcc) (hb.keep0 hcc)).mono ?_
    rintro e w' ⟨rfl, rfl⟩
    go_wp2_with fail
    go_ret
    rw [hE.out]
    exact ⟨rfl, hcc⟩
  · have hE := Lib.hid (show decide (x = y) = false by simp only [decide_eq_false_iff_not]; intro e; exact h1 (by rw [e]; exact ⟨rfl, rfl⟩))
    by_cases h2 : x.f = y.f
    · have h3 : ¬ x.s = y.s := fun e => h1 ⟨h2, e⟩
      rw [h2]
      have h4 : ((x.s : Int) == (y.s : Int)) = false := by simp; omega
      clear h1 h2
      go_enter Try.func12, Try.ntmps12
      go_wp2_with fail
      go_ret
      rw [hE.out]
      exact ⟨rfl, ((Chg.refl [] w).alloc _).alloc _⟩
    · have h4 : ((x.f : Int) == (y.f : Int)) = false := by simp; omega
      clear h1
      go_enter Try.func12, Try.ntmps12
      go_wp2_with fail
      go_ret
      rw [hE.out]
      exact ⟨rfl, ((Chg.refl [] w).alloc _).alloc _⟩
end Go.Proofs.Ytpbadnnolheblaa
