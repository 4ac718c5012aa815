/-
  Plain: who is heard in time isn't suspected.
-/
import Derived.Test.YtjindkkdgjeppaaBeatWPlain
import Derived.Test.YtjindkkdgjeppaaBeatRef
namespace Go.Proofs.Ytjindkkdgjeppaa

/-- p is known, was heard at now, the last tick, and its wait stands. -/
structure fresh (d : BD) (p : Nat) (wait now : Int) : Prop where
  hp : p < d.len
  hm : (p : Int) ≠ d.me
  hg : (d.at p).gone = false
  hw : (d.at p).wait = wait
  hh : (d.at p).heard = now
  hn : d.now = now
  hr : d.wrong = 0
theorem fresh.there {d : BD} {p : Nat} {wait now : Int} (h : fresh d p wait now) : d.there (p : Int) = true := by
  have := h.hp; have := h.hm
  simp [BD.there]; omega
theorem tell_at (d : BD) (now : Int) (i : Nat) : (d.tell now).at i = d.at i := rfl
theorem tell_len (d : BD) (now : Int) : (d.tell now).len = d.len := rfl
theorem fresh.susp {d : BD} {p : Nat} {wait now : Int} (h : fresh d p wait now) (h0 : 0 ≤ now) {g : Int} (hg0 : 0 ≤ g) (hb : now + g ≤ 1099511627776) :
    (d.tell (now + g)).now = now + g ∧ (d.tell (now + g)).susp ((d.tell (now + g)).at p) = decide (wait < g) ∧ decide ((p : Int) ∈ (d.tell (now + g)).suspL) = decide (wait < g) := by
  have e : (d.tell (now + g)).now = now + g := by
    show max d.now (min (now + g) 1099511627776) = _
    rw [h.hn]; omega
  have hs : (d.tell (now + g)).susp ((d.tell (now + g)).at p) = decide (wait < g) := by
    unfold BD.susp
    rw [tell_at, h.hg, h.hw, h.hh, e]
    simp only [Bool.false_or]
    congr 1
    apply propext
    constructor <;> intro h <;> omega
  refine ⟨e, hs, ?_⟩
  have : ((p : Int) ∈ (d.tell (now + g)).suspL) ↔ wait < g := by
    rw [BD.suspL_mem]
    unfold BD.suspP
    have ht : (d.tell (now + g)).there (p : Int) = true := h.there
    rw [ht, Int.toNat_natCast, hs]
    simp
  simp [this]
theorem fresh.step {d : BD} {p : Nat} {wait now : Int} (h : fresh d p wait now) (h0 : 0 ≤ now) {g : Int} (hg0 : 0 ≤ g) (hgw : g ≤ wait) (hb : now + g ≤ 1099511627776) :
    (((d.tell (now + g)).heardL (now + g) [(p : Int)]).2 = 0) ∧ fresh ((d.tell (now + g)).heardL (now + g) [(p : Int)]).1 p wait (now + g) := by
  obtain ⟨e, hs, _⟩ := h.susp h0 hg0 hb
  have ht : (d.tell (now + g)).tell (now + g) = d.tell (now + g) := tell_again d (now + g) rfl
  rw [heardL_one, ht]
  have hth : (d.tell (now + g)).there (p : Int) = true := h.there
  have hgn : ((d.tell (now + g)).at p).gone = false := h.hg
  have hsf : (d.tell (now + g)).susp ((d.tell (now + g)).at p) = false := by rw [hs]; simp; omega
  have h2 : BD.hear2 (d.tell (now + g), 0) (p : Int) = ((d.tell (now + g)).put p { (d.tell (now + g)).at p with heard := (d.tell (now + g)).now }, 0) := by
    simp [BD.hear2, BD.hears, hth, hgn, hsf]
  rw [h2]
  have hp' : p < (d.tell (now + g)).len := h.hp
  refine ⟨rfl, ?_⟩
  have hat := BD.put_at (d.tell (now + g)) hp' { (d.tell (now + g)).at p with heard := (d.tell (now + g)).now } p
  rw [if_pos rfl] at hat
  have hwr : (d.tell (now + g)).wrong = 0 := h.hr
  refine ⟨?_, h.hm, ?_, ?_, ?_, e, ?_⟩
  · show p < ((d.tell (now + g)).put p _).len
    rw [BD.put_len]; exact hp'
  · show (((d.tell (now + g)).put p _).at p).gone = false
    rw [hat]; exact h.hg
  · show (((d.tell (now + g)).put p _).at p).wait = wait
    rw [hat]; exact h.hw
  · show (((d.tell (now + g)).put p _).at p).heard = _
    rw [hat]; exact e
  · show (d.tell (now + g)).wrong + 0 = 0
    rw [hwr]; rfl
theorem fresh_new (n me wait more most : Int) {p : Int} (h : (newB n me wait more most).there p = true) (h1 : 1 ≤ wait) (h2 : wait ≤ 1000) : ∃ q : Nat, p = q ∧ fresh (newB n me wait more most) q wait 0 := by
  obtain ⟨q, rfl, hq, hm⟩ := BD.there_yes h
  have hl := newB_len n me wait more most
  have hat := newB_at n me wait more most (i := q) (by omega)
  have hw : nW wait = wait := by unfold nW; omega
  exact ⟨q, rfl, hq, hm, by rw [hat], by rw [hat]; exact hw, by rw [hat], rfl, rfl⟩
theorem new_there (n me wait more most p : Int) : (newB n me wait more most).there p = decide (0 ≤ p ∧ p < (nN n).toNat ∧ p ≠ nMe n me) := by
  unfold BD.there
  rw [newB_len]
  rfl
end Go.Proofs.Ytjindkkdgjeppaa
