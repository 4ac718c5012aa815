/-
  The document's example.
-/
import Derived.Test.YtpbadnnolheblaaJudgeNil
import Derived.Lib.SmallJoins
namespace Go.Proofs.Ytpbadnnolheblaa
open Go.RowKit

theorem one_log {W : World} {b t cap : Nat} {f : Nat × Nat} {ao : Option Addr} {d : Dl} (h : W.heap[b]? = some (.cells #[.int .u8 (d.f : Int), .int .u64 (d.s : Int), .slice ao d.p.length cap] t f)) (hb : isBytes W ao d.p) (h1 : d.p.length ≤ cap) (h2 : cap ≤ maxLen) (h3 : ao = none → cap = 0) :
    isLog W (some ⟨b, 0, none⟩) [d] := by
  intro i hi
  match i, hi with
  | 0, _ => exact ⟨b, 0, ao, cap, rfl, lt_of_some h, (cell_of_block h 0).trans rfl, (cell_of_block h 1).trans rfl, (cell_of_block h 2).trans rfl, hb, h1, h2, h3⟩
  | n + 1, h => exact absurd h (by simp)
theorem one_logs {W : World} {b t cap n : Nat} {f : Nat × Nat} {ao : Option Addr} {l : List Dl} (h : W.heap[b]? = some (.cells #[.slice ao n cap] t f)) (hn : l.length = n) (hb : isLog W ao l) : isLogs W (some ⟨b, 0, none⟩) [l] := by
  intro i hi
  match i, hi with
  | 0, _ => exact ⟨b, 0, ao, cap, rfl, lt_of_some h, (cell_of_block h 0).trans (by subst hn; rfl), hb⟩
  | n + 1, h => exact absurd h (by simp)
theorem two_logs {W : World} {b t cap n cap2 n2 : Nat} {f : Nat × Nat} {ao bo : Option Addr} {l m : List Dl} (h : W.heap[b]? = some (.cells #[.slice ao n cap, .slice bo n2 cap2] t f)) (hn : l.length = n) (hm : m.length = n2) (hb : isLog W ao l) (hc : isLog W bo m) : isLogs W (some ⟨b, 0, none⟩) [l, m] := by
  intro i hi
  match i, hi with
  | 0, _ => exact ⟨b, 0, ao, cap, rfl, lt_of_some h, (cell_of_block h 0).trans (by subst hn; rfl), hb⟩
  | 1, _ => exact ⟨b, 0, bo, cap2, rfl, lt_of_some h, (cell_of_block h 1).trans (by subst hm; rfl), hc⟩
  | n + 2, h => exact absurd h (by simp)
theorem one_sent {W : World} {b t cap n : Nat} {f : Nat × Nat} {ao : Option Addr} {l : List (List Nat)} (h : W.heap[b]? = some (.cells #[.slice ao n cap] t f)) (hn : l.length = n) (hb : isLists W ao l) (h1 : n ≤ cap) (h2 : cap ≤ maxLen) : isSent W (some ⟨b, 0, none⟩) [l] := by
  intro i hi
  match i, hi with
  | 0, _ => exact ⟨b, 0, ao, cap, rfl, lt_of_some h, (cell_of_block h 0).trans (by subst hn; rfl), hb, by subst hn; exact h1, h2⟩
  | n + 1, h => exact absurd h (by simp)

theorem four_blocks (w : World) (A B C D : Obj) : (((( w.alloc A).alloc B).alloc C).alloc D).heap[w.heap.size]? = some A ∧ ((((w.alloc A).alloc B).alloc C).alloc D).heap[w.heap.size + 1]? = some B ∧
    ((((w.alloc A).alloc B).alloc C).alloc D).heap[w.heap.size + 1 + 1]? = some C ∧ ((((w.alloc A).alloc B).alloc C).alloc D).heap[w.heap.size + 1 + 1 + 1]? = some D := by
  obtain ⟨h1, h2, h3⟩ := three_blocks w A B C
  refine ⟨block_alloc h1, block_alloc h2, block_alloc h3, ?_⟩
  have := block_new (((w.alloc A).alloc B).alloc C) D; simpa using this
theorem five_blocks (w : World) (A B C D E : Obj) : ((((( w.alloc A).alloc B).alloc C).alloc D).alloc E).heap[w.heap.size]? = some A ∧ (((((w.alloc A).alloc B).alloc C).alloc D).alloc E).heap[w.heap.size + 1]? = some B ∧
    (((((w.alloc A).alloc B).alloc C).alloc D).alloc E).heap[w.heap.size + 1 + 1]? = some C ∧ (((((w.alloc A).alloc B).alloc C).alloc D).alloc E).heap[w.heap.size + 1 + 1 + 1]? = some D ∧ (((((w.alloc A).alloc B).alloc C).alloc D).alloc E).heap[w.heap.size + 1 + 1 + 1 + 1]? = some E := by
  obtain ⟨h1, h2, h3, h4⟩ := four_blocks w A B C D
  refine ⟨block_alloc h1, block_alloc h2, block_alloc h3, block_alloc h4, ?_⟩
  have := block_new ((((w.alloc A).alloc B).alloc C).alloc D) E; simpa using this

set_option maxRecDepth 100000 in
set_option maxHeartbeats 1000000 in
theorem awake_any (w : World) : Calls Try.prog 6 #[] w fun e w' => e = .returned (.bool true) ∧ Chg [] w w' := by
  have kc := fun (w : World) (C : Array Value) (n c : Nat) => Lib.run_convert_bytes_const (P := Try.prog) w 32 5 C n c Try.underlying32 Try.underlying5
  go_enter Try.func6, Try.ntmps6
  go_upto_region 2 with fail
  obtain ⟨k1, k2⟩ := two_blocks w (.cells #[Value.int IntKind.u8 97] 5 (1, 2)) (.cells #[Value.int IntKind.u8 0, Value.int IntKind.u64 1, Value.slice (some { block := w.heap.size, off := 0 }) 1 1] 34)
  have hc1 := ((Chg.refl [] w).alloc (.cells #[Value.int IntKind.u8 97] 5 (1, 2))).alloc (.cells #[Value.int IntKind.u8 0, Value.int IntKind.u64 1, Value.slice (some { block := w.heap.size, off := 0 }) 1 1] 34)
  generalize (w.alloc (.cells #[Value.int IntKind.u8 97] 5 (1, 2))).alloc (.cells #[Value.int IntKind.u8 0, Value.int IntKind.u64 1, Value.slice (some { block := w.heap.size, off := 0 }) 1 1] 34) = W1 at *
  have b0 := block_bytes (l := [97]) k1 (by decide)
  obtain ⟨B0, hB0⟩ : ∃ b, w.heap.size = b := ⟨_, rfl⟩
  rw [hB0] at k1 k2 b0 ⊢
  clear hB0
  have z0 : W1.cell? ⟨B0 + 1, 0, none⟩ = some (.int .u8 0) := (cell_of_block k2 0).trans rfl
  have z1 : W1.cell? ⟨B0 + 1, 1, none⟩ = some (.int .u64 1) := (cell_of_block k2 1).trans rfl
  have z2 : W1.cell? ⟨B0 + 1, 2, none⟩ = some (.slice (some ⟨B0, 0, none⟩) 1 1) := (cell_of_block k2 2).trans rfl
  go_wp2_with fail
  obtain ⟨m1, m2⟩ := two_blocks W1 (.cells #[Value.int IntKind.u8 0, Value.int IntKind.u64 1, Value.slice (some { block := B0, off := 0 }) 1 1] 34) (.cells #[Value.slice (some { block := W1.heap.size, off := 0 }) 1 1] 27)
  have hc2 := ((Chg.refl [] W1).alloc (.cells #[Value.int IntKind.u8 0, Value.int IntKind.u64 1, Value.slice (some { block := B0, off := 0 }) 1 1] 34)).alloc (.cells #[Value.slice (some { block := W1.heap.size, off := 0 }) 1 1] 27)
  have hlog := one_log (d := ⟨0, 1, [97]⟩) m1 (b0.keep0 hc2) (by decide) (by decide) (by simp)
  have hlogs := one_logs m2 rfl hlog
  have hj := judge_nil _ (some ⟨W1.heap.size + 1, 0, none⟩) [[⟨0, 1, [97]⟩]] 1 hlogs (by decide) (by decide) (by decide) (by decide) (by decide)
  generalize (W1.alloc (.cells #[Value.int IntKind.u8 0, Value.int IntKind.u64 1, Value.slice (some { block := B0, off := 0 }) 1 1] 34)).alloc (.cells #[Value.slice (some { block := W1.heap.size, off := 0 }) 1 1] 27) = W2 at *
  refine hj.mono ?_
  rintro e w2 ⟨rfl, hc3⟩
  have kD := hc3.at (hc2.at k2 (by simp)) (by simp)
  have b2 := (b0.keep0 hc2).keep0 hc3
  have y0 : ∀ wx, Chg [] w2 wx → wx.cell? ⟨B0 + 1, 0, none⟩ = some (.int .u8 0) := fun wx hc => (cell_of_block (hc.at kD (by simp)) 0).trans rfl
  have y1 : ∀ wx, Chg [] w2 wx → wx.cell? ⟨B0 + 1, 1, none⟩ = some (.int .u64 1) := fun wx hc => (cell_of_block (hc.at kD (by simp)) 1).trans rfl
  have y2 : ∀ wx, Chg [] w2 wx → wx.cell? ⟨B0 + 1, 2, none⟩ = some (.slice (some ⟨B0, 0, none⟩) 1 1) := fun wx hc => (cell_of_block (hc.at kD (by simp)) 2).trans rfl
  have hq1 := ((((Chg.refl [] w2).alloc (.cells #[Value.int IntKind.u8 97] 5 (1, 2))).alloc (.cells #[Value.slice (some { block := w2.heap.size, off := 0 }) 1 1] 32)).alloc (.cells #[Value.slice (some { block := w2.heap.size + 1, off := 0 }) 1 1] 43))
  have v0 := y0 _ hq1
  have v1 := y1 _ hq1
  have v2 := y2 _ hq1
  have hall := (hc1.trans hc2).trans hc3
  clear y0 y1 y2 z0 z1 z2 hj
  go_wp2_with fail
  obtain ⟨n1, n2, n3, n4, n5⟩ := five_blocks w2 (.cells #[Value.int IntKind.u8 97] 5 (1, 2)) (.cells #[Value.slice (some { block := w2.heap.size, off := 0 }) 1 1] 32) (.cells #[Value.slice (some { block := w2.heap.size + 1, off := 0 }) 1 1] 43) (.cells #[Value.int IntKind.u8 0, Value.int IntKind.u64 1, Value.slice (some { block := B0, off := 0 }) 1 1] 34) (.cells #[Value.slice (some { block := w2.heap.size + 1 + 1 + 1, off := 0 }) 1 1] 27)
  have hcn := (((((Chg.refl [] w2).alloc (.cells #[Value.int IntKind.u8 97] 5 (1, 2))).alloc (.cells #[Value.slice (some { block := w2.heap.size, off := 0 }) 1 1] 32)).alloc (.cells #[Value.slice (some { block := w2.heap.size + 1, off := 0 }) 1 1] 43)).alloc (.cells #[Value.int IntKind.u8 0, Value.int IntKind.u64 1, Value.slice (some { block := B0, off := 0 }) 1 1] 34)).alloc (.cells #[Value.slice (some { block := w2.heap.size + 1 + 1 + 1, off := 0 }) 1 1] 27)
  clear hq1 v0 v1 v2
  generalize ((((w2.alloc (.cells #[Value.int IntKind.u8 97] 5 (1, 2))).alloc (.cells #[Value.slice (some { block := w2.heap.size, off := 0 }) 1 1] 32)).alloc (.cells #[Value.slice (some { block := w2.heap.size + 1, off := 0 }) 1 1] 43)).alloc (.cells #[Value.int IntKind.u8 0, Value.int IntKind.u64 1, Value.slice (some { block := B0, off := 0 }) 1 1] 34)).alloc (.cells #[Value.slice (some { block := w2.heap.size + 1 + 1 + 1, off := 0 }) 1 1] 27) = W5 at *
  have c1 := block_bytes (l := [97]) n1 (by decide)
  have c2 := one_list (L := [97]) n2 c1 (by decide) (by decide) (by simp)
  have c3 := one_sent (l := [[97]]) n3 rfl c2 (by decide) (by decide)
  have c4 := one_log (d := ⟨0, 1, [97]⟩) n4 (b2.keep0 hcn) (by decide) (by decide) (by simp)
  have c5 := one_logs n5 rfl c4
  have hkn : kn [[[97]]] ⟨0, 1, [97]⟩ := ⟨by decide, by decide, by decide, rfl⟩
  have hj := judge_known W5 _ [[[97]]] 1 _ [[⟨0, 1, [97]⟩]] 1 c3 (by decide) (by simp) c5 (by decide) (by simp) (by intro l hl d hd; simp at hl; subst hl; simp at hd; subst hd; exact hkn) (by intro l hl d hd; simp at hl; subst hl; simp at hd; subst hd; exact ⟨by decide, by decide⟩)
  refine hj.mono ?_
  rintro e w6 ⟨what, p, i, rfl, hjd, hc6⟩
  obtain rfl : what = 0 := by
    rcases hjd with ⟨_, pn, xn, _, _, hp, ht, _⟩ | ⟨_, _, p0, qn, xn, _, _, h1, h2, _⟩ | ⟨h, _⟩
    · have : pn = 0 := by simp at hp; omega
      subst this
      rw [show twice ([[(⟨0, 1, [97]⟩ : Dl)]].getD 0 []) = none by decide] at ht
      cases ht
    · simp at h2; omega
    · exact h
  clear hj
  go_wp2_with fail
  go_ret
  exact ⟨rfl, (hall.trans hcn).trans hc6⟩
end Go.Proofs.Ytpbadnnolheblaa
