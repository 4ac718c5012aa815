/-
  Package judge: what was sent; whether a message was sent so.
-/
import Derived.Test.YtpbadnnolheblaaJudge
namespace Go.Proofs.Ytpbadnnolheblaa
open Go.RowKit

/-- What was sent lies at ao. -/
def isSent (w : World) (ao : Option Addr) (S : List (List (List Nat))) : Prop :=
  ∀ i, i < S.length → ∃ b off a' cap, ao = some ⟨b, off, none⟩ ∧ b < w.heap.size ∧ w.cell? ⟨b, off + i, none⟩ = some (.slice a' (S.getD i []).length cap) ∧ isLists w a' (S.getD i []) ∧ (S.getD i []).length ≤ cap ∧ cap ≤ maxLen
theorem isSent.keep0 {w w' : World} {ao : Option Addr} {S : List (List (List Nat))} (h : isSent w ao S) (hc : Chg [] w w') : isSent w' ao S := by
  intro i hi
  obtain ⟨b, off, a', cap, h1, h2, h3, h4, h5⟩ := h i hi
  exact ⟨b, off, a', cap, h1, Nat.lt_of_lt_of_le h2 hc.size, (hc.cell (p := ⟨b, off + i, none⟩) h2 (by simp)).trans h3, h4.keep0 hc, h5⟩
theorem isSent.at {w : World} {b off : Nat} {l : List (List (List Nat))} (h : isSent w (some ⟨b, off, none⟩) l) {i : Nat} (hi : i < l.length) :
    ∃ a' cap, b < w.heap.size ∧ w.cell? ⟨b, off + i, none⟩ = some (.slice a' (l.getD i []).length cap) ∧ isLists w a' (l.getD i []) ∧ (l.getD i []).length ≤ cap ∧ cap ≤ maxLen := by
  obtain ⟨b', off', a', cap, h1, h2⟩ := h i hi
  simp only [Option.some.injEq, Addr.mk.injEq, and_true] at h1
  obtain ⟨rfl, rfl⟩ := h1
  exact ⟨a', cap, h2⟩
theorem isSent.addr {w : World} {ao : Option Addr} {l : List (List (List Nat))} (h : isSent w ao l) {i : Nat} (hi : i < l.length) : ∃ b off, ao = some ⟨b, off, none⟩ := by
  obtain ⟨b, off, _, _, h1, _⟩ := h i hi; exact ⟨b, off, h1⟩
theorem isSent_nil (w : World) (ao : Option Addr) : isSent w ao [] := fun i hi => by simp at hi

/-- A message that was sent so. -/
structure kn (S : List (List (List Nat))) (d : Dl) : Prop where
  h1 : d.f < S.length
  h2 : 1 ≤ d.s
  h3 : d.s ≤ (S.getD d.f []).length
  h4 : d.p = (S.getD d.f []).getD (d.s - 1) []

set_option maxRecDepth 100000 in
set_option maxHeartbeats 1000000 in
theorem known_yes (w : World) (so : Option Addr) (S : List (List (List Nat))) (sc : Nat) (d : Dl) (ao : Option Addr) (ca : Nat) (hS : isSent w so S) (hSl : S.length ≤ 1000) (hr : ∀ r ∈ S, r.length ≤ 1000) (ha : isBytes w ao d.p) (hd : kn S d) (hf : d.f < 256) :
    Calls Try.prog 14 #[.slice so S.length sc, dlV d.f d.s ao d.p.length ca] w fun e w' => e = .returned (.bool true) ∧ Chg [] w w' := by
  unfold dlV
  obtain ⟨h1, h2, h3, h4⟩ := hd
  obtain ⟨s, hs⟩ : ∃ s, d.s = s + 1 := ⟨d.s - 1, by omega⟩
  have hsi : (d.s : Int) = (s : Int) + 1 := by omega
  rw [hs] at h2 h3 h4
  rw [hsi]
  rw [show s + 1 - 1 = s by omega] at h4
  have H4 := Lib.hid h4
  clear h4
  obtain ⟨b, off, rfl⟩ := hS.addr h1
  have hlr : (S.getD d.f []).length ≤ 1000 := hr _ (by simp [List.getD, h1])
  have hc0 := (Chg.refl [] w).alloc (.cells #[.int .u8 (d.f : Int), .int .u64 ((s : Int) + 1), .slice ao d.p.length ca] 34)
  have k0 := block_new w (.cells #[.int .u8 (d.f : Int), .int .u64 ((s : Int) + 1), .slice ao d.p.length ca] 34)
  go_enter Try.func14, Try.ntmps14
  go_upto_region 2 with fail
  generalize w.alloc (.cells #[.int .u8 (d.f : Int), .int .u64 ((s : Int) + 1), .slice ao d.p.length ca] 34) = W at *
  generalize w.heap.size = B at *
  obtain ⟨a', cap, _, x1, x2, x3, x4⟩ := (hS.keep0 hc0).at h1
  have h4 := H4.out
  generalize S.getD d.f [] = r at *
  have hsr : s < r.length := by omega
  obtain ⟨b2, off2, rfl⟩ := x2.addr hsr
  obtain ⟨a2, c2, _, y1, y2, y3, y4, _⟩ := x2.at hsr
  rw [← h4] at y1 y2 y3
  have ha2 := ha.keep0 hc0
  unfold maxLen at x4
  have z0 : W.cell? ⟨B, 0, none⟩ = some (.int .u8 (d.f : Int)) := (cell_of_block k0 0).trans rfl
  have z1 : W.cell? ⟨B, 1, none⟩ = some (.int .u64 ((s : Int) + 1)) := (cell_of_block k0 1).trans rfl
  have z2 : W.cell? ⟨B, 2, none⟩ = some (.slice ao d.p.length ca) := (cell_of_block k0 2).trans rfl
  have g1 : decide ((d.f : Int) < (S.length : Int)) = true := by simp; omega
  have g2 : (1 : Int) ≤ ((s : Int) + 1) := by omega
  have g3 : ((s : Int) + 1) ≤ (r.length : Int) := by omega
  have g4 : ((s : Int) + 1) - 1 = (s : Int) := by omega
  have g5 : (0 : Int) ≤ (s : Int) := by omega
  have g6 : (s : Int) < (r.length : Int) := by omega
  clear hs hsi h2 h3 h4 H4 k0 hS hr
  go_quiet (first | (go_at_call 15; refine Calls.quiet_of_same ((equal_any _ ao a2 d.p d.p ca c2 (ha2.keep0 ((Chg.refl [] W).drewN _)) (y2.keep0 ((Chg.refl [] W).drewN _))))))
  go_wp2_with fail
  go_ret
  exact ⟨rfl, hc0.drewN _⟩
end Go.Proofs.Ytpbadnnolheblaa
