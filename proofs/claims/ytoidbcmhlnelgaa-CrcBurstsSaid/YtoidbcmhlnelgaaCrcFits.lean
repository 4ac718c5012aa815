/-
  Whether bytes fit.
-/
import Derived.Test.YtoidbcmhlnelgaaCrcMark
import Derived.Test.YtoidbcmhlnelgaaStr
import Derived.Maps.OwnOps
namespace Go.Proofs.Ytoidbcmhlnelgaa
open Go.RowKit Crc

/-- The error's number. -/
def fitsE (L : List Nat) : Int := if L.length < 4 then 2 else if foot (sum (L.take (L.length - 4))) = L.drop (L.length - 4) then 0 else 5
/-- The bytes that fit. -/
def fitsB (L : List Nat) : List Nat := if fitsE L = 0 then L.take (L.length - 4) else []

theorem isBytes.drop {w : World} {b off : Nat} {l : List Nat} (h : isBytes w (some ⟨b, off, none⟩) l) (n : Nat) : isBytes w (some ⟨b, off + n, none⟩) (l.drop n) := by
  intro i hi
  rw [List.length_drop] at hi
  obtain ⟨h1, h2, h3⟩ := h.at (show n + i < l.length by omega)
  have e : (l.drop n).getD i 0 = l.getD (n + i) 0 := by simp [List.getD]
  rw [e]
  exact ⟨b, off + n, rfl, h1, by rw [Nat.add_assoc]; exact h2, h3⟩

def fitsPost (L : List Nat) (w : World) (e : Ending) (w' : World) : Prop :=
  ∃ ao cap, e = .returned (.tuple #[.slice ao (fitsB L).length cap, .int .i64 (fitsE L)]) ∧ isBytes w' ao (fitsB L) ∧ (fitsB L).length ≤ cap ∧ cap ≤ maxLen ∧ (ao = none → cap = 0) ∧
    (∀ b off, ao = some ⟨b, off, none⟩ → w.heap.size ≤ b) ∧ Chg [] w w' ∧ (∀ b off, ao = some ⟨b, off, none⟩ → isRow w' b 5)

set_option maxRecDepth 100000 in
set_option maxHeartbeats 1000000 in
theorem fits_any (w : World) (ao : Option Addr) (L : List Nat) (cap : Nat) (h : isBytes w ao L) (hl : L.length ≤ cap) (hcap : cap ≤ maxLen) (hsm : L.length ≤ 100000) :
    Calls Try.prog 13 #[.slice ao L.length cap] w (fitsPost L w) := by
  obtain ⟨i0, hi, hz0, hz1, hz2⟩ := info_parts Try.info_u8
  have HC := Lib.hid hcap
  unfold maxLen at hcap
  by_cases h4 : L.length < 4
  · have HE := Lib.hid (show fitsE L = 2 by simp [fitsE, h4])
    have HB := Lib.hid (show fitsB L = [] by simp [fitsB, HE.out])
    have hn : ((L.length : Int) - 4) < 0 := by omega
    go_enter Try.func13, Try.ntmps13
    go_wp2_with fail
    refine bodyPost_ret (v := .tuple #[.slice none 0 0, .int .i64 2]) (by simp [results, Try.results13, go_sem]) rfl ?_
    refine ⟨none, 0, ?_, isBytes_nil _ _ |> (HB.out ▸ ·), by rw [HB.out]; simp, by simp, by simp, by simp, Chg.refl _ _, by simp⟩
    rw [HE.out, HB.out]; rfl
  · obtain ⟨n, hn⟩ : ∃ n, L.length = n + 4 := ⟨L.length - 4, by omega⟩
    obtain ⟨b, off, rfl⟩ := h.addr (show 0 < L.length by omega)
    have hd1 : decide ((n : Int) < 0) = false := by simp
    have hnc : n ≤ cap := by omega
    have hcn : ¬ cap = n := by omega
    have hle4 : (n : Int) ≤ (n : Int) + 4 := by omega
    have hlen4 : L.length - n = 4 := by omega
    have HK := Lib.hid (show ∀ w', Chg [] w w' → isBytes w' (some ⟨b, off, none⟩) L ∧ Chg [] w w' from fun w' hc => ⟨h.keep0 hc, hc⟩)
    have hN := Lib.hid hn
    have hll : (L.length : Int) = (n : Int) + 4 := by omega
    go_enter Try.func13, Try.ntmps13
    go_upto_region 4 with fail
    refine wp_region_held_drew (S := fun w' => isBytes w' (some ⟨b, off, none⟩) L ∧ Chg [] w w') (by kernel_rfl) ?_ (fun hHeld => ?_)
    · first | exact HK.out _ (Chg.refl _ _).drew | exact HK.out _ hHeld.2 | exact HK.out _ (hHeld.2.alloc _) | exact HK.out _ (hHeld.2.trans hcx)
    refine wpAnyH_take (i := 0) (v := ?vr0) rfl (by kernel_rfl) (by kernel_rfl) (by kernel_rfl) (fun _ _ _ h => h) (Or.inl ⟨by rfl, ?yr0⟩) (by assumption) ?nr0
    case yr0 => (intro w hSw; (try dsimp only at hSw); go_simp; (try with_reducible rfl))
    try simp only [List.getElem_toArray, List.getElem_cons_succ, List.getElem_cons_zero, Act.put, List.setIfInBounds_toArray, List.set_cons_succ, List.set_cons_zero]
    refine wpAnyH_take (i := 1) (v := ?vr1) rfl (by kernel_rfl) (by kernel_rfl) (by kernel_rfl) (fun _ _ _ h => h) (Or.inl ⟨by rfl, ?yr1⟩) (by assumption) ?nr1
    case yr1 => (intro w hSw; (try dsimp only at hSw); go_simp; (try with_reducible rfl))
    try simp only [List.getElem_toArray, List.getElem_cons_succ, List.getElem_cons_zero, Act.put, List.setIfInBounds_toArray, List.set_cons_succ, List.set_cons_zero]
    refine wpAnyH_take (i := 2) (v := ?vr2) rfl (by kernel_rfl) (by kernel_rfl) (by kernel_rfl) (fun _ _ _ h => h) (Or.inl ⟨by rfl, ?yr2⟩) (by assumption) ?nr2
    case yr2 => (intro w hSw; (try dsimp only at hSw); go_simp; (try with_reducible rfl))
    try simp only [List.getElem_toArray, List.getElem_cons_succ, List.getElem_cons_zero, Act.put, List.setIfInBounds_toArray, List.set_cons_succ, List.set_cons_zero]
    refine wpAnyH_take (i := 7) (v := ?vr7) rfl (by kernel_rfl) (by kernel_rfl) (by kernel_rfl) (fun _ _ _ h => h) (Or.inl ⟨by rfl, ?yr7⟩) (by assumption) ?nr7
    case yr7 => (intro w hSw; (try dsimp only at hSw); go_simp; (try with_reducible rfl))
    try simp only [List.getElem_toArray, List.getElem_cons_succ, List.getElem_cons_zero, Act.put, List.setIfInBounds_toArray, List.set_cons_succ, List.set_cons_zero]
    refine wpAnyH_take (i := 8) (v := ?vr8) rfl (by kernel_rfl) (by kernel_rfl) (by kernel_rfl) (fun _ _ _ h => h) (Or.inl ⟨by rfl, ?yr8⟩) (by assumption) ?nr8
    case yr8 => (intro w hSw; (try dsimp only at hSw); go_simp; (try with_reducible rfl))
    try simp only [List.getElem_toArray, List.getElem_cons_succ, List.getElem_cons_zero, Act.put, List.setIfInBounds_toArray, List.set_cons_succ, List.set_cons_zero]
    refine wpAnyH_take (i := 9) (v := ?vr9) rfl (by kernel_rfl) (by kernel_rfl) (by kernel_rfl) (fun _ _ _ h => h) (Or.inl ⟨by rfl, ?yr9⟩) (by assumption) ?nr9
    case yr9 => (intro w hSw; (try dsimp only at hSw); go_simp; (try with_reducible rfl))
    try simp only [List.getElem_toArray, List.getElem_cons_succ, List.getElem_cons_zero, Act.put, List.setIfInBounds_toArray, List.set_cons_succ, List.set_cons_zero]
    refine wpAnyH_take (i := 10) (v := ?vr10) rfl (by kernel_rfl) (by kernel_rfl) (by kernel_rfl) (fun _ _ _ h => h) (Or.inl ⟨by rfl, ?yr10⟩) (by assumption) ?nr10
    case yr10 => (intro w hSw; (try dsimp only at hSw); (have hcv := conv_bytes Try.underlying28 Try.underlying5 Try.underlying9 (cap - n) (hSw.1.drop n)); (rw [List.length_drop, hlen4] at hcv); go_simp; (try with_reducible rfl))
    try simp only [List.getElem_toArray, List.getElem_cons_succ, List.getElem_cons_zero, Act.put, List.setIfInBounds_toArray, List.set_cons_succ, List.set_cons_zero]
    refine wpAnyH_ready (rs := [3]) (by kernel_rfl) (by simp) ?_
    refine AllReadyH.cons rfl (fun K hK => ?_) AllReadyH.nil
    go_simp
    refine hK.out _ _ ?_ (fun hHeld => ?_)
    · first | exact HK.out _ (Chg.refl _ _).drew | exact HK.out _ hHeld.2 | exact HK.out _ (hHeld.2.alloc _) | exact HK.out _ (hHeld.2.trans hcx)
    clear hK K
    try simp only [List.getElem_toArray, List.getElem_cons_succ, List.getElem_cons_zero, Act.put, List.setIfInBounds_toArray, List.set_cons_succ, List.set_cons_zero]
    refine wpAnyH_ready (rs := [4]) (by kernel_rfl) (by simp) ?_
    refine AllReadyH.cons rfl (fun K hK => ?_) AllReadyH.nil
    go_simp
    have hk3 : ((w.alloc (.cells #[.slice (some ⟨b, off, none⟩) n cap] 28)).drew).heap[w.heap.size]? = some (.cells #[.slice (some ⟨b, off, none⟩) n cap] 28) := block_new w _
    have hln : (L.take n).length = n := by rw [List.length_take]; omega
    refine (sum_any _ _ [L.take n] 1 (one_listN hk3 hln (hHeld.1.take n) (by rw [hln]; exact hnc) HC.out (by simp)) (by simp [maxLen])).mono ?_
    rintro e w' ⟨rfl, hcx⟩
    rw [show [L.take n].flatten = L.take n by simp]
    refine hK.out _ _ ?_ (fun hHeld => ?_)
    · first | exact HK.out _ (Chg.refl _ _).drew | exact HK.out _ hHeld.2 | exact HK.out _ (hHeld.2.alloc _) | exact HK.out _ (hHeld.2.trans hcx)
    clear hK K
    try simp only [List.getElem_toArray, List.getElem_cons_succ, List.getElem_cons_zero, Act.put, List.setIfInBounds_toArray, List.set_cons_succ, List.set_cons_zero]
    refine wpAnyH_ready (rs := [5]) (by kernel_rfl) (by simp) ?_
    refine AllReadyH.cons rfl (fun K hK => ?_) AllReadyH.nil
    go_simp
    refine (foot_any (sum (L.take n)) _).mono ?_
    rintro e w' ⟨ao3, cap3, rfl, q1, q2, q3, q4, q5, hcx, _⟩
    refine hK.out _ _ ?_ (fun hHeld => ?_)
    · first | exact HK.out _ (Chg.refl _ _).drew | exact HK.out _ hHeld.2 | exact HK.out _ (hHeld.2.alloc _) | exact HK.out _ (hHeld.2.trans hcx)
    clear hK K
    try simp only [List.getElem_toArray, List.getElem_cons_succ, List.getElem_cons_zero, Act.put, List.setIfInBounds_toArray, List.set_cons_succ, List.set_cons_zero]
    refine wpAnyH_ready (rs := [6]) (by kernel_rfl) (by simp) ?_
    refine AllReadyH.cons rfl (fun K hK => ?_) AllReadyH.nil
    go_simp
    rw [conv_bytes Try.underlying28 Try.underlying5 Try.underlying9 cap3 q1]
    refine hK.out _ _ ?_ (fun hHeld => ?_)
    · first | exact HK.out _ (Chg.refl _ _).drew | exact HK.out _ hHeld.2 | exact HK.out _ (hHeld.2.alloc _) | exact HK.out _ (hHeld.2.trans hcx)
    clear hK K
    try simp only [List.getElem_toArray, List.getElem_cons_succ, List.getElem_cons_zero, Act.put, List.setIfInBounds_toArray, List.set_cons_succ, List.set_cons_zero]
    refine wpAnyH_take (i := 11) (v := ?vr11) rfl (by kernel_rfl) (by kernel_rfl) (by kernel_rfl) (fun _ _ _ h => h) (Or.inl ⟨by rfl, ?yr11⟩) (by assumption) ?nr11
    case yr11 => (intro w hSw; (try dsimp only at hSw); go_simp; (try with_reducible rfl))
    try simp only [List.getElem_toArray, List.getElem_cons_succ, List.getElem_cons_zero, Act.put, List.setIfInBounds_toArray, List.set_cons_succ, List.set_cons_zero]
    refine wpAnyH_done (by kernel_rfl) ?_ _
    have hall := h.all
    rw [strB_eq (foot_lt _) (fun x hx => hall x (List.mem_of_mem_drop hx))]
    have hcw := hHeld.2
    have hbw := hHeld.1
    clear hHeld
    have HL := Lib.hid hlen4
    clear hlen4
    by_cases e : foot (sum (L.take n)) = L.drop n
    · have HE := Lib.hid (show fitsE L = 0 by unfold fitsE; rw [if_neg (by omega), show L.length - 4 = n by omega, if_pos e])
      have HB := Lib.hid (show fitsB L = L.take n by unfold fitsB; rw [if_pos HE.out, show L.length - 4 = n by omega])
      have E := Lib.hid e
      have hde : decide (foot (sum (L.take n)) = L.drop n) = true := by simp [e]
      rw [hde]
      clear e hde
      have hown : (w'.alloc (.cells #[] 5)).ownsRow w'.heap.size 5 1 (.slice (some ⟨w'.heap.size, 0, none⟩) 0 0) 0 (List.map byteV []) :=
        ⟨by simp, .inr ⟨w'.heap.size, 0, #[], rfl, Nat.le_refl _, block_new _ _, Nat.le_refl _, by unfold maxLen; omega, rfl, rfl⟩⟩
      have hc9 := hcw.alloc (.cells #[] 5)
      have hb9 := ((hbw.keep0 ((Chg.refl [] w').alloc (.cells #[] 5)))).take n
      have hsz := hcw.size
      have hln : (L.take n).length = n := by rw [List.length_take]; omega
      generalize L.take n = T at *
      subst hln
      go_wp2_with (at_builtin; refine wpList_append_bytes rfl (.tmp 22) (.tmp 25) 28 rfl w'.heap.size 5 i0 _ Try.underlying28 hi hz0 hz1 hz2 rfl _ _ _ rfl hown (some ⟨b, off, none⟩) cap T rfl hb9 (by simp) ?c1 ?c2 ?_)
      case c1 => omega
      intro v' w4 hown' hch _
      have hc4 : Chg [] w w4 := hc9.then hch (by
        intro q hq; right
        have : q = w'.heap.size := by simpa [Value.ownBlock] using hq
        omega)
      have hTl := hb9.all

      obtain ⟨ao5, cap5, rfl, r1, r2, r3, r4, r5⟩ := owned_bytes hown' hTl
      go_wp2_with fail
      refine bodyPost_ret (v := .tuple #[.slice ao5 T.length cap5, .int .i64 0]) (by simp [results, Try.results13, go_sem]) rfl ?_
      refine ⟨ao5, cap5, ?_, by rw [HB.out]; exact r1, by rw [HB.out]; exact r2, r3, r4, fun b off e => Nat.le_trans hsz (r5 b off e), hc4, owned_row hown'⟩
      rw [HE.out, HB.out]
    · have HE := Lib.hid (show fitsE L = 5 by unfold fitsE; rw [if_neg (by omega), show L.length - 4 = n by omega, if_neg e])
      have HB := Lib.hid (show fitsB L = [] by unfold fitsB; rw [if_neg (by rw [HE.out]; omega)])
      have hde : decide (foot (sum (L.take n)) = L.drop n) = false := by simp [e]
      rw [hde]
      clear e hde
      go_wp2_with fail
      refine bodyPost_ret (v := .tuple #[.slice none 0 0, .int .i64 5]) (by simp [results, Try.results13, go_sem]) rfl ?_
      refine ⟨none, 0, ?_, by rw [HB.out]; exact isBytes_nil _ _, by rw [HB.out]; simp, by simp, by simp, by simp, hcw, by simp⟩
      rw [HE.out, HB.out]; rfl
end Go.Proofs.Ytoidbcmhlnelgaa
