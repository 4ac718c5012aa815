/-
  row: its contract.
-/
import Derived.Test.YtpbadnnolheblaaJudgeRow
namespace Go.Proofs.Ytpbadnnolheblaa
open Go.RowKit

theorem rowP_len (S : List (List (List Nat))) (p k : Nat) : (rowP S p k).length = k := by simp [rowP]
theorem rowK_len (S : List (List (List Nat))) (h : small S) : ∀ p, p ≤ S.length → (rowK S p).length ≤ p * 60
  | 0, _ => by simp [rowK]
  | p + 1, hp => by
    have := rowK_len S h p (by omega)
    have hr := (h.2 (S.getD p []) (by simp [List.getD, show p < S.length by omega])).1
    simp only [rowK, List.length_append, rowP_len]
    omega
/-- A new log of the call's own. -/
def newLog (w : World) (l : List Dl) (e : Ending) (w' : World) : Prop :=
  ∃ ao cap, e = .returned (.slice ao l.length cap) ∧ isLog w' ao l ∧ l.length ≤ cap ∧ cap ≤ maxLen ∧ Chg [] w w'

set_option maxRecDepth 100000 in
set_option maxHeartbeats 2000000 in
theorem row_any (w : World) (so : Option Addr) (S : List (List (List Nat))) (sc : Nat) (hS : isSent w so S) (hsm : small S) :
    Calls Try.prog 7 #[.slice so S.length sc] w (newLog w (rowOf S)) := by
  have h10 := hsm.1
  obtain ⟨i0, hi, hz0, hz1, hz2⟩ := info_parts Try.info_dl
  go_enter Try.func7, Try.ntmps7
  go_wp2_with fail
  have hown : (w.alloc (.cells #[] 34)).ownsRow w.heap.size 34 3 (.slice (some ⟨w.heap.size, 0, none⟩) 0 0) 0 (dcells []) :=
    ⟨by simp [dcells], .inr ⟨w.heap.size, 0, #[], rfl, Nat.le_refl _, block_new _ _, Nat.le_refl _, by unfold maxLen; omega, rfl, rfl⟩⟩
  have hc0 := (Chg.refl [] w).alloc (.cells #[] 34)
  generalize w.alloc (.cells #[] 34) = W1 at *
  obtain ⟨B, hB⟩ : ∃ b, w.heap.size = b := ⟨_, rfl⟩
  have HB := Lib.hid hB
  rw [hB] at hown ⊢
  clear hB
  go_loopw [3, 4] (fun v i wr => ∃ (p : Nat) (ds : List (Dl × Value)) (v0 : Value), v0 = v ∧ p ≤ S.length ∧ i = .int .i64 p ∧ ds.map (·.1) = rowK S p ∧ wr.ownsRow B 34 3 v0 ds.length (dcells ds) ∧ (∀ x ∈ ds, goodSl w x.1 x.2) ∧ Chg [] w wr) (fun _ i _ => S.length - (intOf i).toNat)
  case atStart => exact ⟨0, [], _, rfl, by omega, rfl, rfl, hown, by simp, hc0⟩
  case round =>
    obtain ⟨p, ds, v, rfl, hp, rfl, hds, hwn, hgd, hcr⟩ := hrel
    by_cases hlt : p < S.length
    · obtain ⟨b, off, rfl⟩ := hS.addr hlt
      obtain ⟨_, _, hbw, _⟩ := hS.at hlt
      have hdl : ds.length ≤ p * 60 := by rw [← List.length_map (f := (·.1)), hds]; exact rowK_len S hsm p (by omega)
      have HDS := Lib.hid hds
      clear hds
      have hr60 := (hsm.2 (S.getD p []) (by simp [List.getD, hlt])).1
      obtain ⟨r, hr⟩ : ∃ r, S.getD p [] = r := ⟨_, rfl⟩
      rw [hr] at hr60
      have HR := Lib.hid hr
      clear hr
      go_wp2_with fail
      go_loopw [3, 5] (fun v i wr => ∃ (k : Nat) (ds : List (Dl × Value)) (v0 : Value), v0 = v ∧ k ≤ r.length ∧ i = .int .i64 k ∧ ds.map (·.1) = rowK S p ++ rowP S p k ∧ wr.ownsRow B 34 3 v0 ds.length (dcells ds) ∧ (∀ x ∈ ds, goodSl w x.1 x.2) ∧ ds.length ≤ p * 60 + k ∧ Chg [] w wr) (fun _ i _ => r.length - (intOf i).toNat)
      case atStart => exact ⟨0, ds, v, rfl, by omega, rfl, by rw [HDS.out]; simp [rowP], hwn, hgd, by omega, hcr⟩
      case round =>
        clear hwn hgd HDS hdl hcr
        obtain ⟨k, ds, v, rfl, hk, rfl, hds, hwn, hgd, hdl, hcr⟩ := hrel
        obtain ⟨a1, c1, hbl, x0, x1, x2, x3⟩ := hS.at hlt
        rw [HR.out] at x0 x1 x2
        replace x0 := (hcr.cell (p := ⟨b, off + p, none⟩) hbl (by simp)).trans x0
        unfold maxLen at x3
        by_cases hlk : k < r.length
        · obtain ⟨b2, off2, rfl⟩ := x1.addr hlk
          obtain ⟨a2, c2, hbl2, y0, y1, y2, y3, y4⟩ := x1.at hlk
          replace y0 := (hcr.cell (p := ⟨b2, off2 + k, none⟩) hbl2 (by simp)).trans y0
          have HDS := Lib.hid (show (ds ++ [(msg S p k, Value.slice a2 (r.getD k []).length c2)]).map (·.1) = rowK S p ++ rowP S p (k + 1) by rw [List.map_append, hds, rowP_succ, List.append_assoc]; rfl)
          have hmp : (msg S p k).p = r.getD k [] := by unfold msg; rw [HR.out]
          have hgood : goodSl w (msg S p k) (.slice a2 (r.getD k []).length c2) := ⟨a2, c2, by rw [hmp], by rw [hmp]; exact y1, by rw [hmp]; exact y2, y3, y4⟩
          have hmf : (((msg S p k).f : Nat) : Int) = (p : Int) := by show ((p % 256 : Nat) : Int) = _; omega
          have hms : (((msg S p k).s : Nat) : Int) = (k : Int) + 1 := by show ((k + 1 : Nat) : Int) = _; omega
          have hdc : dcells [(msg S p k, Value.slice a2 (r.getD k []).length c2)] = [.int .u8 (p : Int), .int .u64 ((k : Int) + 1), .slice a2 (r.getD k []).length c2] := by
            simp only [dcells, List.flatMap_cons, List.flatMap_nil, List.append_nil, hmf, hms]
          have HG := Lib.hid hgood
          clear hds hmp hgood hmf hms
          generalize r.getD k [] = m at *
          unfold maxLen at y3
          have hce := (Chg.refl [] wr).alloc (.cells #[.int .u8 (p : Int), .int .u64 ((k : Int) + 1), .slice a2 m.length c2] 34)
          have hnb := block_new wr (.cells #[.int .u8 (p : Int), .int .u64 ((k : Int) + 1), .slice a2 m.length c2] 34)
          have hwn2 := owned_chg hwn hce (by simp)
          have hcs := hcr.size
          have HDC := Lib.hid hdc
          clear hdc
          go_wp2_with (at_builtin; refine wpList_append_own _ rfl (.tmp 22) (.tmp 37) 27 rfl B 34 i0 (.agg #[.int .u8 0, .int .u64 0, .slice none 0 0]) 3 40 Try.underlying27 hi hz0 hz1 hz2 rfl (by decide) v ds.length (dcells ds) rfl hwn2 ⟨wr.heap.size, 0, none⟩ 1 1 [.int .u8 (p : Int), .int .u64 ((k : Int) + 1), .slice a2 m.length c2] rfl rfl ?c1 ?c2 ?c3 ?c4 ?c5 ?_)
          case c1 =>
            intro j u hj
            match j, hj with
            | 0, hj => simp at hj; subst hj; rw [Addr.add_mid]; exact (cell_of_block hnb 0).trans rfl
            | 1, hj => simp at hj; subst hj; rw [Addr.add_mid]; exact (cell_of_block hnb 1).trans rfl
            | 2, hj => simp at hj; subst hj; rw [Addr.add_mid]; exact (cell_of_block hnb 2).trans rfl
          case c2 => intro u hu; simp at hu; rcases hu with rfl | rfl | rfl <;> rfl
          case c3 => unfold maxLen; omega
          case c4 => omega
          case c5 => simp; rw [← HB.out]; exact Nat.le_trans hcs (by omega)
          intro v' w1 hown' hgrow _
          have hgr := Chg.of_grown (S := v.ownBlock.toList) hgrow (by simp)
          have hc1 : Chg [] w w1 := (hcr.trans hce).then hgr (by
            intro q hq; right
            have : v.ownBlock = some q := by simpa using hq
            rw [HB.out]; exact (hwn.lt q this).1)
          rw [← HDC.out, ← dcells_append] at hown'
          have HGD := Lib.hid (show ∀ x ∈ ds ++ [(msg S p k, Value.slice a2 m.length c2)], goodSl w x.1 x.2 from fun x hx => (List.mem_append.1 hx).elim (hgd x) (fun h => by simp only [List.mem_singleton] at h; subst h; exact HG.out))
          have hlen : (ds ++ [(msg S p k, Value.slice a2 m.length c2)]).length = ds.length + 1 := by simp
          clear hgrow hgr hwn hwn2 hnb hce
          generalize ds ++ [(msg S p k, Value.slice a2 m.length c2)] = ds2 at *
          go_wp2_with fail
          go_roundw
          case rel => exact ⟨k + 1, ds2, _, rfl, by omega, by go_num, HDS.out, by rw [hlen]; exact hown', HGD.out, by omega, hc1⟩
          case measure => simp [intOf]; omega
        · obtain rfl : k = r.length := by omega
          have HDS := Lib.hid (show ds.map (·.1) = rowK S (p + 1) by rw [hds, show rowK S (p + 1) = rowK S p ++ rowP S p (S.getD p []).length from rfl, HR.out])
          clear hds
          go_wp2_with fail
          go_roundw
          case rel => exact ⟨p + 1, ds, v, rfl, by omega, by go_num, HDS.out, hwn, hgd, hcr⟩
          case measure => simp [intOf]; omega
    · obtain rfl : p = S.length := by omega
      obtain ⟨ao, cap, rfl, e1, e2, e3, e4, e5⟩ := owned_log hwn (fun x hx => (hgd x hx).keep0 hcr)
      rw [hds] at e2
      have hl : ds.length = (rowK S S.length).length := by rw [← hds]; simp
      have HR := Lib.hid (show rowOf S = rowK S S.length from rfl)
      rw [hds]
      generalize rowK S S.length = R at *
      go_wp2_with fail
      go_ret
      rw [HR.out]
      exact ⟨ao, cap, rfl, e2, by omega, e4, hcr⟩
end Go.Proofs.Ytpbadnnolheblaa
