/-
  Package beat: each function's contract: what it does to a Detector in memory is what a plain function does.
-/
import Derived.Test.YtjindkkdgjeppaaKit
namespace Go.Proofs.Ytjindkkdgjeppaa
open Go.RowKit

/-- What is known of a process. -/
structure BO where
  heard : Int
  wait : Int
  gone : Bool
/-- A Detector, plainly. -/
structure BD where
  l : List BO
  me : Int
  more : Int
  most : Int
  now : Int
  wrong : Int
def BD.at (d : BD) (i : Nat) : BO := d.l.getD i ⟨0, 0, false⟩
def BD.len (d : BD) : Nat := d.l.length
def BD.put (d : BD) (i : Nat) (x : BO) : BD := { d with l := d.l.set i x }
def BD.there (d : BD) (p : Int) : Bool := decide (0 ≤ p ∧ p < d.len ∧ p ≠ d.me)
def BD.susp (d : BD) (x : BO) : Bool := x.gone || decide (x.wait < d.now - x.heard)
def BD.tell (d : BD) (now : Int) : BD := { d with now := max d.now (min now 1099511627776) }

theorem BD.put_len (d : BD) (i : Nat) (x : BO) : (d.put i x).len = d.len := by simp [BD.put, BD.len]
theorem BD.put_at (d : BD) {i : Nat} (h : i < d.len) (x : BO) (j : Nat) : (d.put i x).at j = if j = i then x else d.at j := by
  unfold BD.at BD.put
  by_cases e : j = i
  · subst e; simp [List.getD, List.getElem?_set, show j < d.l.length from h]
  · have e2 : ¬ i = j := fun q => e q.symm
    simp [List.getD, List.getElem?_set, e, e2]

structure BD.wf (d : BD) : Prop where
  h1 : 1 ≤ d.len
  h2 : d.len ≤ 64
  m0 : 0 ≤ d.me
  m1 : d.me < d.len
  r0 : 0 ≤ d.more
  r1 : d.more ≤ 1099511627776
  t1 : d.most ≤ 1099511627776
  n0 : 0 ≤ d.now
  n1 : d.now ≤ 1099511627776
  e0 : ∀ i, i < d.len → 0 ≤ (d.at i).heard
  e1 : ∀ i, i < d.len → (d.at i).heard ≤ d.now
  w0 : ∀ i, i < d.len → 1 ≤ (d.at i).wait
  w1 : ∀ i, i < d.len → (d.at i).wait ≤ d.most

/-- A Detector in memory. -/
structure isB (w : World) (b bt : Nat) (d : BD) : Prop where
  hb : w.heap[b]? = some (.cells #[.slice (some ⟨bt,0,none⟩) d.len d.len, .int .i64 d.me, .int .i64 d.more, .int .i64 d.most, .int .i64 d.now, .int .i64 d.wrong] 50)
  ch : ∀ i, i < d.len → w.cell? ⟨bt, i * 3, none⟩ = some (.int .i64 (d.at i).heard)
  cw : ∀ i, i < d.len → w.cell? ⟨bt, i * 3 + 1, none⟩ = some (.int .i64 (d.at i).wait)
  cg : ∀ i, i < d.len → w.cell? ⟨bt, i * 3 + 2, none⟩ = some (.bool (d.at i).gone)
  ty : isRow w bt 52
  wf : d.wf
theorem isB.ne {w : World} {b bt : Nat} {d : BD} (H : isB w b bt d) : bt ≠ b := H.ty.ne H.hb (by decide)
theorem isB.keep {w w' : World} {b bt : Nat} {d : BD} {S : List Nat} (H : isB w b bt d) (h : Chg S w w') (n1 : b ∉ S) (n2 : bt ∉ S) : isB w' b bt d :=
  ⟨h.at H.hb n1, fun i hi => (h.cell (p := ⟨bt, i * 3, none⟩) H.ty.lt n2).trans (H.ch i hi), fun i hi => (h.cell (p := ⟨bt, i * 3 + 1, none⟩) H.ty.lt n2).trans (H.cw i hi),
    fun i hi => (h.cell (p := ⟨bt, i * 3 + 2, none⟩) H.ty.lt n2).trans (H.cg i hi), H.ty.keep h n2, H.wf⟩
theorem isB.keep0 {w w' : World} {b bt : Nat} {d : BD} (H : isB w b bt d) (h : Chg [] w w') : isB w' b bt d := H.keep h (by simp) (by simp)

theorem BD.wf.put {d : BD} (H : d.wf) {n : Nat} (hn : n < d.len) (x : BO) (h0 : 0 ≤ x.heard) (h1 : x.heard ≤ d.now) (h2 : 1 ≤ x.wait) (h3 : x.wait ≤ d.most) : (d.put n x).wf := by
  have hl := d.put_len n x
  obtain ⟨a1, a2, a3, a4, a5, a6, a7, a8, a9, b1, b2, b3, b4⟩ := H
  refine ⟨by omega, by omega, a3, by rw [hl]; exact a4, a5, a6, a7, a8, a9, ?_, ?_, ?_, ?_⟩
  all_goals
    intro i hi
    rw [hl] at hi
    rw [BD.put_at d hn]
    split
    · assumption
    · first | exact b1 i hi | exact b2 i hi | exact b3 i hi | exact b4 i hi

theorem isB.setHeard {w : World} {b bt n : Nat} {d : BD} (H : isB w b bt d) (hn : n < d.len) (v : Int) (h0 : 0 ≤ v) (h1 : v ≤ d.now) :
    isB (w.setCell ⟨bt, n * 3, none⟩ (.int .i64 v)) b bt (d.put n { d.at n with heard := v }) := by
  refine ⟨?_, ?_, ?_, ?_, H.ty.set _ _, H.wf.put hn _ h0 h1 (H.wf.w0 n hn) (H.wf.w1 n hn)⟩
  · rw [block_set_ne (Ne.symm H.ne), BD.put_len]; exact H.hb
  all_goals
    intro i hi
    rw [BD.put_len] at hi
    rw [BD.put_at d hn]
  · by_cases e : i = n
    · subst e; rw [cell_set_eq (H.ch i hi), if_pos rfl]
    · rw [cell_set_ne (by simp <;> omega), if_neg e]; exact H.ch i hi
  · rw [cell_set_ne (by simp <;> omega), H.cw i hi]; split
    · rename_i e; subst e; rfl
    · rfl
  · rw [cell_set_ne (by simp <;> omega), H.cg i hi]; split
    · rename_i e; subst e; rfl
    · rfl
theorem isB.setWait {w : World} {b bt n : Nat} {d : BD} (H : isB w b bt d) (hn : n < d.len) (v : Int) (h0 : 1 ≤ v) (h1 : v ≤ d.most) :
    isB (w.setCell ⟨bt, n * 3 + 1, none⟩ (.int .i64 v)) b bt (d.put n { d.at n with wait := v }) := by
  refine ⟨?_, ?_, ?_, ?_, H.ty.set _ _, H.wf.put hn _ (H.wf.e0 n hn) (H.wf.e1 n hn) h0 h1⟩
  · rw [block_set_ne (Ne.symm H.ne), BD.put_len]; exact H.hb
  all_goals
    intro i hi
    rw [BD.put_len] at hi
    rw [BD.put_at d hn]
  · rw [cell_set_ne (by simp <;> omega), H.ch i hi]; split
    · rename_i e; subst e; rfl
    · rfl
  · by_cases e : i = n
    · subst e; rw [cell_set_eq (H.cw i hi), if_pos rfl]
    · rw [cell_set_ne (by simp <;> omega), if_neg e]; exact H.cw i hi
  · rw [cell_set_ne (by simp <;> omega), H.cg i hi]; split
    · rename_i e; subst e; rfl
    · rfl
theorem isB.setGone {w : World} {b bt n : Nat} {d : BD} (H : isB w b bt d) (hn : n < d.len) (v : Bool) :
    isB (w.setCell ⟨bt, n * 3 + 2, none⟩ (.bool v)) b bt (d.put n { d.at n with gone := v }) := by
  refine ⟨?_, ?_, ?_, ?_, H.ty.set _ _, H.wf.put hn _ (H.wf.e0 n hn) (H.wf.e1 n hn) (H.wf.w0 n hn) (H.wf.w1 n hn)⟩
  · rw [block_set_ne (Ne.symm H.ne), BD.put_len]; exact H.hb
  all_goals
    intro i hi
    rw [BD.put_len] at hi
    rw [BD.put_at d hn]
  · rw [cell_set_ne (by simp <;> omega), H.ch i hi]; split
    · rename_i e; subst e; rfl
    · rfl
  · rw [cell_set_ne (by simp <;> omega), H.cw i hi]; split
    · rename_i e; subst e; rfl
    · rfl
  · by_cases e : i = n
    · subst e; rw [cell_set_eq (H.cg i hi), if_pos rfl]
    · rw [cell_set_ne (by simp <;> omega), if_neg e]; exact H.cg i hi
theorem isB.setNow {w : World} {b bt : Nat} {d : BD} (H : isB w b bt d) (v : Int) (h0 : d.now ≤ v) (h1 : v ≤ 1099511627776) :
    isB (w.setCell ⟨b, 4, none⟩ (.int .i64 v)) b bt { d with now := v } := by
  have hne := H.ne
  refine ⟨?_, ?_, ?_, ?_, H.ty.set _ _, ?_⟩
  · rw [block_set H.hb]; rfl
  · intro i hi; rw [cell_set_ne (by simp <;> omega)]; exact H.ch i hi
  · intro i hi; rw [cell_set_ne (by simp <;> omega)]; exact H.cw i hi
  · intro i hi; rw [cell_set_ne (by simp <;> omega)]; exact H.cg i hi
  · obtain ⟨a1, a2, a3, a4, a5, a6, a7, a8, a9, b1, b2, b3, b4⟩ := H.wf
    exact ⟨a1, a2, a3, a4, a5, a6, a7, by dsimp only; omega, h1, b1, fun i hi => Int.le_trans (b2 i hi) h0, b3, b4⟩
theorem isB.setWrong {w : World} {b bt : Nat} {d : BD} (H : isB w b bt d) (v : Int) :
    isB (w.setCell ⟨b, 5, none⟩ (.int .i64 v)) b bt { d with wrong := v } := by
  have hne := H.ne
  refine ⟨?_, ?_, ?_, ?_, H.ty.set _ _, ?_⟩
  · rw [block_set H.hb]; rfl
  · intro i hi; rw [cell_set_ne (by simp <;> omega)]; exact H.ch i hi
  · intro i hi; rw [cell_set_ne (by simp <;> omega)]; exact H.cw i hi
  · intro i hi; rw [cell_set_ne (by simp <;> omega)]; exact H.cg i hi
  · obtain ⟨a1, a2, a3, a4, a5, a6, a7, a8, a9, b1, b2, b3, b4⟩ := H.wf
    exact ⟨a1, a2, a3, a4, a5, a6, a7, a8, a9, b1, b2, b3, b4⟩

section facts
variable {w : World} {b bt : Nat} {d : BD} (H : isB w b bt d)
include H
theorem isB.c0 : w.cell? ⟨b, 0, none⟩ = some (.slice (some ⟨bt,0,none⟩) d.len d.len) := by rw [cell_of_block H.hb]; rfl
theorem isB.c1 : w.cell? ⟨b, 1, none⟩ = some (.int .i64 d.me) := by rw [cell_of_block H.hb]; rfl
theorem isB.c2 : w.cell? ⟨b, 2, none⟩ = some (.int .i64 d.more) := by rw [cell_of_block H.hb]; rfl
theorem isB.c3 : w.cell? ⟨b, 3, none⟩ = some (.int .i64 d.most) := by rw [cell_of_block H.hb]; rfl
theorem isB.c4 : w.cell? ⟨b, 4, none⟩ = some (.int .i64 d.now) := by rw [cell_of_block H.hb]; rfl
theorem isB.c5 : w.cell? ⟨b, 5, none⟩ = some (.int .i64 d.wrong) := by rw [cell_of_block H.hb]; rfl
theorem isB.fb (o : Nat) : w.frozen? ⟨b, o, none⟩ = false := free_of_block H.hb o
theorem isB.ft (o : Nat) : w.frozen? ⟨bt, o, none⟩ = false := by obtain ⟨cs, h⟩ := H.ty; exact free_of_block h o
end facts

theorem BD.there_yes {d : BD} {p : Int} (h : d.there p = true) : ∃ n : Nat, p = n ∧ n < d.len ∧ (n : Int) ≠ d.me := by
  simp [BD.there] at h
  exact ⟨p.toNat, by omega, by omega, by omega⟩

set_option maxHeartbeats 400000 in
theorem of_no {b bt : Nat} {d : BD} (p : Int) (w : World) (H : isB w b bt d) (h : d.there p = false) :
    Calls Try.prog 18 #[.pointer (some ⟨b,0,none⟩), .int .i64 p] w fun e w' => e = .returned (.pointer none) ∧ w = w' := by
  have h0 := H.c0
  have h1 := H.c1
  have hl := H.wf.h2
  by_cases hp : p < 0
  · go_enter Try.func18, Try.ntmps18
    go_wp2
    go_ret
    simp [go_sem]
  · by_cases hp2 : (d.len : Int) ≤ p
    · go_enter Try.func18, Try.ntmps18
      go_wp2
      go_ret
      simp [go_sem]
    · obtain rfl : p = d.me := by simp [BD.there] at h; omega
      go_enter Try.func18, Try.ntmps18
      go_wp2
      go_ret
      simp [go_sem]
set_option maxHeartbeats 400000 in
theorem of_yes {b bt n : Nat} {d : BD} (w : World) (H : isB w b bt d) (hn : n < d.len) (hm : (n : Int) ≠ d.me) :
    Calls Try.prog 18 #[.pointer (some ⟨b,0,none⟩), .int .i64 n] w fun e w' => e = .returned (.pointer (some ⟨bt, n * 3, none⟩)) ∧ w = w' := by
  have h0 := H.c0
  have h1 := H.c1
  have hl := H.wf.h2
  have hm2 : ((n : Int) == d.me) = false := by simpa using hm
  go_enter Try.func18, Try.ntmps18
  go_wp2
  go_ret
  simp [go_sem]
theorem of_nil (p : Int) (w : World) :
    Calls Try.prog 18 #[.pointer none, .int .i64 p] w fun e w' => e = .returned (.pointer none) ∧ w = w' := by
  go_enter Try.func18, Try.ntmps18
  go_wp2
  go_ret
  simp [go_sem]
end Go.Proofs.Ytjindkkdgjeppaa
