/-
  Plain: waits never fall; who is gone is suspected for good.
-/
import Derived.Test.YtjindkkdgjeppaaBeatWPlain
import Derived.Test.YtjindkkdgjeppaaBeatRef
namespace Go.Proofs.Ytjindkkdgjeppaa
open Go.RowKit

/-- What a later detector keeps of an earlier one. -/
structure BD.le (d d' : BD) : Prop where
  len : d'.len = d.len
  me : d'.me = d.me
  most : d'.most = d.most
  gone : ∀ i, (d.at i).gone = true → (d'.at i).gone = true
  wait : ∀ i, i < d.len → (d.at i).wait ≤ (d'.at i).wait
theorem BD.le.rfl' (d : BD) : d.le d := ⟨rfl, rfl, rfl, fun _ h => h, fun _ _ => Int.le_refl _⟩
theorem BD.le.trans {a b c : BD} (h : a.le b) (k : b.le c) : a.le c :=
  ⟨k.len.trans h.len, k.me.trans h.me, k.most.trans h.most, fun i q => k.gone i (h.gone i q), fun i q => Int.le_trans (h.wait i q) (k.wait i (by rw [h.len]; exact q))⟩
theorem BD.le.tell (d : BD) (now : Int) : d.le (d.tell now) := ⟨rfl, rfl, rfl, fun _ h => h, fun _ _ => Int.le_refl _⟩
theorem BD.le.put {d : BD} {n : Nat} (hn : n < d.len) {x : BO} (h1 : (d.at n).gone = true → x.gone = true) (h2 : (d.at n).wait ≤ x.wait) : d.le (d.put n x) := by
  refine ⟨BD.put_len d n x, rfl, rfl, fun i h => ?_, fun i hi => ?_⟩
  · rw [BD.put_at d hn]; split
    · rename_i e; subst e; exact h1 h
    · exact h
  · rw [BD.put_at d hn]; split
    · rename_i e; subst e; exact h2
    · exact Int.le_refl _
theorem hear2_le (d : BD) (H : d.wf) (n p : Int) : d.le (BD.hear2 (d, n) p).1 := by
  unfold BD.hear2
  dsimp only
  split
  · rename_i hh
    have hth : d.there p = true := by simp [BD.hears] at hh; exact hh.1
    obtain ⟨q, rfl, hq, _⟩ := BD.there_yes hth
    have w1 := H.w1 q hq
    have r0 := H.r0
    split
    · exact BD.le.put hq (fun h => h) (by dsimp only [Int.toNat_natCast]; omega)
    · exact BD.le.put hq (fun h => h) (Int.le_refl _)
  · exact BD.le.rfl' d
theorem BD.le.withWrong {d d' : BD} (h : d.le d') (x : Int) : d.le (d'.withWrong x) := ⟨h.len, h.me, h.most, h.gone, h.wait⟩
theorem tell_wf' {d : BD} (H : d.wf) (now : Int) : (d.tell now).wf := by
  obtain ⟨a1, a2, a3, a4, a5, a6, a7, a8, a9, b1, b2, b3, b4⟩ := H
  have e : (d.tell now).now = max d.now (min now 1099511627776) := rfl
  exact ⟨a1, a2, a3, a4, a5, a6, a7, by rw [e]; omega, by rw [e]; omega, b1, fun i hi => Int.le_trans (b2 i hi) (by rw [e]; omega), b3, b4⟩
theorem heardL_le (d : BD) (H : d.wf) (now p : Int) : d.le (d.heardL now [p]).1 := by
  rw [heardL_one]
  exact ((BD.le.tell d now).trans (hear2_le (d.tell now) (tell_wf' H now) 0 p)).withWrong _
theorem goneL_one (d : BD) (p : Int) : d.goneL [p] = if d.goes p then (d.put p.toNat { d.at p.toNat with gone := true }, 1) else (d, 0) := by
  simp [BD.goneL, BD.gone2]
theorem goneL_le (d : BD) (p : Int) : d.le (d.goneL [p]).1 := by
  rw [goneL_one]
  split
  · rename_i hh
    have hth : d.there p = true := by simp [BD.goes] at hh; exact hh.1
    obtain ⟨q, rfl, hq, _⟩ := BD.there_yes hth
    exact BD.le.put hq (fun _ => rfl) (Int.le_refl _)
  · exact BD.le.rfl' d
theorem goneL_wrong (d : BD) (p : Int) : (d.goneL [p]).1.wrong = d.wrong := by rw [goneL_one]; split <;> rfl
def BD.waitOf (d : BD) (p : Int) : Int := if d.there p then (d.at p.toNat).wait else 0
theorem BD.le.there {d d' : BD} (h : d.le d') (p : Int) : d'.there p = d.there p := by unfold BD.there; rw [h.len, h.me]
theorem BD.le.waitOf {d d' : BD} (h : d.le d') (p : Int) : d.waitOf p ≤ d'.waitOf p := by
  unfold BD.waitOf
  rw [h.there]
  split
  · rename_i hth
    obtain ⟨q, rfl, hq, _⟩ := BD.there_yes hth
    exact h.wait q hq
  · exact Int.le_refl _
theorem waitOf_most (d : BD) (H : d.wf) (p : Int) (h0 : 0 ≤ d.most) : d.waitOf p ≤ d.most := by
  unfold BD.waitOf
  split
  · rename_i hth
    obtain ⟨q, rfl, hq, _⟩ := BD.there_yes hth
    exact H.w1 q hq
  · exact h0
/-- What the flags say. -/
def flags (G : List Bool) (d : BD) : Prop := G.length = 64 ∧ ∀ i : Nat, i < 64 → G.getD i false = true → d.there (i : Int) = true ∧ (d.at i).gone = true
theorem flags.keep {G : List Bool} {d d' : BD} (h : flags G d) (k : d.le d') : flags G d' :=
  ⟨h.1, fun i hi hg => by obtain ⟨a, b⟩ := h.2 i hi hg; exact ⟨by rw [k.there]; exact a, k.gone i b⟩⟩
theorem flags.set {G : List Bool} {d : BD} (h : flags G d) {q : Nat} (h1 : d.there (q : Int) = true) (h2 : (d.at q).gone = true) : flags (G.set q true) d := by
  refine ⟨by simpa using h.1, fun i hi hg => ?_⟩
  by_cases e : i = q
  · subst e; exact ⟨h1, h2⟩
  · have e2 : ¬ q = i := fun x => e x.symm
    have : (G.set q true).getD i false = G.getD i false := by simp [List.getD, List.getElem?_set, e2]
    rw [this] at hg; exact h.2 i hi hg
theorem flags.susp {G : List Bool} {d : BD} (h : flags G d) {i : Nat} (hi : i < 64) (hg : G.getD i false = true) : decide ((i : Int) ∈ d.suspL) = true := by
  obtain ⟨a, b⟩ := h.2 i hi hg
  have : (i : Int) ∈ d.suspL := by
    rw [BD.suspL_mem]
    simp [BD.suspP, a, BD.susp, b]
  simp [this]
theorem me_susp (d : BD) : decide (d.me ∈ d.suspL) = false := by
  simp only [decide_eq_false_iff_not]
  rw [BD.suspL_mem]
  simp [BD.suspP, BD.there]
theorem flags_new (d : BD) : flags (List.replicate 64 false) d := by
  refine ⟨by simp, fun i hi hg => ?_⟩
  rw [List.getD, List.getElem?_replicate, if_pos hi] at hg
  cases hg

set_option maxHeartbeats 400000 in
theorem waitOf_any {b bt : Nat} {d : BD} (p : Int) (w : World) (H : isB w b bt d) :
    Calls Try.prog 11 #[.pointer (some ⟨b,0,none⟩), .int .i64 p] w fun e w' => e = .returned (.int .i64 (d.waitOf p)) ∧ w = w' := by
  unfold BD.waitOf
  cases hth : d.there p with
  | false => simpa using wait_no p w H hth
  | true =>
    obtain ⟨q, rfl, hq, hm⟩ := BD.there_yes hth
    simpa using wait_yes w H hq hm
end Go.Proofs.Ytjindkkdgjeppaa
