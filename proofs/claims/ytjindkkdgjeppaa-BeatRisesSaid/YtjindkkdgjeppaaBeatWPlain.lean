/-
  Plain: who are heard together are heard as one by one.
-/
import Derived.Test.YtjindkkdgjeppaaBeat4
namespace Go.Proofs.Ytjindkkdgjeppaa

theorem hear2_shift (d : BD) (n p : Int) : BD.hear2 (d, n) p = ((BD.hear2 (d, 0) p).1, n + (BD.hear2 (d, 0) p).2) := by
  unfold BD.hear2
  dsimp only
  split
  · split
    · simp
    · simp
  · simp
def BD.withWrong (d : BD) (x : Int) : BD := { d with wrong := x }
theorem hear2_with (d : BD) (x n p : Int) : BD.hear2 (d.withWrong x, n) p = ((BD.hear2 (d, n) p).1.withWrong x, (BD.hear2 (d, n) p).2) := by
  have h1 : (d.withWrong x).hears p = d.hears p := rfl
  have h2 : (d.withWrong x).at p.toNat = d.at p.toNat := rfl
  have h3 : (d.withWrong x).susp (d.at p.toNat) = d.susp (d.at p.toNat) := rfl
  unfold BD.hear2
  dsimp only
  rw [h1, h2, h3]
  split
  · split
    · rfl
    · rfl
  · rfl
theorem hear2_now (s : BD × Int) (p : Int) : (BD.hear2 s p).1.now = s.1.now := by
  unfold BD.hear2
  split
  · split <;> rfl
  · rfl
theorem tell_again (d : BD) (now : Int) {d' : BD} (h : d'.now = (d.tell now).now) : d'.tell now = d' := by
  unfold BD.tell at *
  dsimp only at h
  have : max d'.now (min now 1099511627776) = d'.now := by omega
  rw [this]
theorem heardL_one (d : BD) (now p : Int) : d.heardL now [p] = ((BD.hear2 (d.tell now, 0) p).1.withWrong (d.wrong + (BD.hear2 (d.tell now, 0) p).2), (BD.hear2 (d.tell now, 0) p).2) := by
  have h : (BD.hear2 (d.tell now, 0) p).1.wrong = d.wrong := (hear2_wrong _ _).1
  simp only [BD.heardL, BD.hearK, List.foldl_cons, List.foldl_nil, h]
  rfl
/-- Heard together: as one by one. -/
theorem heard_two (d : BD) (now p q : Int) : d.heardL now [p, q] = (((d.heardL now [p]).1.heardL now [q]).1, (d.heardL now [p]).2 + ((d.heardL now [p]).1.heardL now [q]).2) := by
  have h : (BD.hear2 (d.tell now, 0) p).1.wrong = d.wrong := (hear2_wrong _ _).1
  have hn : (BD.hear2 (d.tell now, 0) p).1.now = (d.tell now).now := hear2_now _ _
  have e1 := heardL_one d now p
  rw [e1]
  dsimp only
  rw [heardL_one]
  have ht : ((BD.hear2 (d.tell now, 0) p).1.withWrong (d.wrong + (BD.hear2 (d.tell now, 0) p).2)).tell now = (BD.hear2 (d.tell now, 0) p).1.withWrong (d.wrong + (BD.hear2 (d.tell now, 0) p).2) := tell_again d now hn
  rw [ht]
  simp only [BD.heardL, BD.hearK, List.foldl_cons, List.foldl_nil]
  generalize hs : BD.hear2 (d.tell now, 0) p = s at *
  obtain ⟨s1, s2⟩ := s
  dsimp only at *
  rw [hear2_shift s1 s2 q, hear2_with]
  have h2 : (BD.hear2 (s1, 0) q).1.wrong = s1.wrong := (hear2_wrong _ _).1
  generalize BD.hear2 (s1, 0) q = t at *
  dsimp only
  rw [h2, h]
  show (t.1.withWrong (d.wrong + (s2 + t.2)), s2 + t.2) = (t.1.withWrong (d.wrong + s2 + t.2), s2 + t.2)
  rw [Int.add_assoc]
theorem heardL_bound (d : BD) (now : Int) (ps : List Int) : (d.heardL now ps).1.wrong = d.wrong + (d.heardL now ps).2 ∧ 0 ≤ (d.heardL now ps).2 ∧ (d.heardL now ps).2 ≤ ps.length := by
  obtain ⟨h1, h2, h3⟩ := hearK_bound (d.tell now, 0) ps ps.length (Nat.le_refl _)
  rw [List.take_length] at h1 h2 h3
  refine ⟨?_, h2, ?_⟩
  · show (d.hearK now ps).1.wrong + _ = _
    rw [show (d.hearK now ps).1.wrong = d.wrong from h1]; rfl
  · have : (d.heardL now ps).2 ≤ 0 + ps.length := h3
    omega
end Go.Proofs.Ytjindkkdgjeppaa
