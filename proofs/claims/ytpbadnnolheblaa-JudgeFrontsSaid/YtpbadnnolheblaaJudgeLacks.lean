/-
  Package judge: how many ids lack.
-/
import Derived.Test.YtpbadnnolheblaaJudgeOf
namespace Go.Proofs.Ytpbadnnolheblaa
open Go.RowKit Go.Maps

/-- The numbers 0 to c - 1 lie at ao. -/
def isRange (w : World) (ao : Option Addr) (c : Nat) : Prop := ∀ i, i < c → ∃ b off, ao = some ⟨b, off, none⟩ ∧ b < w.heap.size ∧ w.cell? ⟨b, off + i, none⟩ = some (.int .i64 (i : Int))
theorem isRange.keep0 {w w' : World} {ao : Option Addr} {c : Nat} (h : isRange w ao c) (hc : Chg [] w w') : isRange w' ao c := by
  intro i hi
  obtain ⟨b, off, h1, h2, h3⟩ := h i hi
  exact ⟨b, off, h1, Nat.lt_of_lt_of_le h2 hc.size, (hc.cell (p := ⟨b, off + i, none⟩) h2 (by simp)).trans h3⟩
theorem isRange.at {w : World} {b off c : Nat} (h : isRange w (some ⟨b, off, none⟩) c) {i : Nat} (hi : i < c) : w.cell? ⟨b, off + i, none⟩ = some (.int .i64 (i : Int)) := by
  obtain ⟨b', off', h1, h2, h3⟩ := h i hi
  simp only [Option.some.injEq, Addr.mk.injEq, and_true] at h1
  obtain ⟨rfl, rfl⟩ := h1
  exact h3
theorem isRange.addr {w : World} {ao : Option Addr} {c : Nat} (h : isRange w ao c) {i : Nat} (hi : i < c) : ∃ b off, ao = some ⟨b, off, none⟩ := by
  obtain ⟨b, off, h1, _⟩ := h i hi; exact ⟨b, off, h1⟩

theorem flat_logs (L : List (List Dl)) {k : Nat} (h : k < L.length) : (L.take (k + 1)).flatten = (L.take k).flatten ++ L.getD k [] := by
  rw [take_getD L [] h]; simp
theorem keys_take (X l : List Dl) {j : Nat} (h : j < l.length) : keys (X ++ l.take (j + 1)) = keys (X ++ l.take j) ++ [klOf (l.getD j Dl.z).f (l.getD j Dl.z).s] := by
  rw [take_getD l Dl.z h, ← List.append_assoc]; simp [keys]
theorem keys_rowP (X : List Dl) (S : List (List (List Nat))) (k j : Nat) (hk : k < 256) : keys (X ++ rowP S k (j + 1)) = keys (X ++ rowP S k j) ++ [klOf k (j + 1)] := by
  rw [rowP_succ, ← List.append_assoc]
  have : (msg S k j).f = k := by show k % 256 = k; omega
  simp only [keys, List.map_append, List.map_cons, List.map_nil, this]
  rfl

set_option maxRecDepth 100000 in
set_option maxHeartbeats 4000000 in
theorem lacks_any (w : World) (so : Option Addr) (S : List (List (List Nat))) (sc : Nat) (lo : Option Addr) (L : List (List Dl)) (lc : Nat) (vo : Option Addr) (vc : Nat) (hS : isSent w so S) (hsm : small S)
    (hL : isLogs w lo L) (hLl : L.length ≤ 10) (hll : ∀ l ∈ L, l.length ≤ 600) (hw : ∀ l ∈ L, ∀ d ∈ l, d.wf) (hv : isRange w vo L.length) (hSL : S.length ≤ L.length) :
    Calls Try.prog 10 #[.slice so S.length sc, .slice lo L.length lc, .slice vo L.length vc] w fun e w' => e = .returned (.int .i64 (lackK (szOf (L.flatten ++ rowOf S)) L L.length)) ∧ Chg [] w w' := by
  have h10 := hsm.1
  have hmm := @run_makeMap Try.prog
  have hown0 := World.ownsMap_made w Try.prog 31 (unitElem (H := Unit))
  have hc0 := (Chg.refl [] w).alloc (.map #[] 0)
  go_enter Try.func10, Try.ntmps10
  go_wp2_with fail
  obtain ⟨BM, hBM⟩ : ∃ b, w.heap.size = b := ⟨_, rfl⟩
  have HBM := Lib.hid hBM
  rw [hBM] at hown0 ⊢
  clear hBM
  generalize w.alloc (.map #[] 0) = W1 at *
  go_loopw [24] (fun i wr => ∃ k n : Nat, k ≤ L.length ∧ i = .int .i64 k ∧ n ≤ k * 600 ∧ wr.ownsMap Try.prog 31 (unitElem (H := Unit)) BM n (setOf (.agg []) (keys (L.take k).flatten)) ∧ Chg [] w wr) (fun i _ => L.length - (intOf i).toNat)
  case atStart => exact ⟨0, 0, by omega, rfl, by omega, hown0, hc0⟩
  case round =>
    obtain ⟨k, n, hkl, rfl, hn, hown, hcr⟩ := hrel
    by_cases hlt : k < L.length
    · obtain ⟨bl, ol, rfl⟩ := hL.addr hlt
      obtain ⟨a1, ca1, l1, x0, x1⟩ := hL.at hlt
      replace x0 := (hcr.cell (p := ⟨bl, ol + k, none⟩) l1 (by simp)).trans x0
      have hmem : L.getD k [] ∈ L := by simp [List.getD, hlt]
      have hlx := hll _ hmem
      have hwx := hw _ hmem
      have HT := Lib.hid (flat_logs L hlt)
      obtain ⟨l, hl⟩ : ∃ l, L.getD k [] = l := ⟨_, rfl⟩
      rw [hl] at x0 x1 hlx hwx HT
      clear hmem hl
      go_wp2_with fail
      clear x0
      go_loopw [30] (fun i wx => ∃ j n : Nat, j ≤ l.length ∧ i = .int .i64 j ∧ n ≤ k * 600 + j ∧ wx.ownsMap Try.prog 31 (unitElem (H := Unit)) BM n (setOf (.agg []) (keys ((L.take k).flatten ++ l.take j))) ∧ Chg [] w wx) (fun i _ => l.length - (intOf i).toNat)
      case atStart => exact ⟨0, n, by omega, rfl, by omega, by simpa using hown, hcr⟩
      case round =>
        clear hown hn hcr
        obtain ⟨j, n, hjl, rfl, hn, hown, hcr⟩ := hrel
        by_cases hlj : j < l.length
        · obtain ⟨b, off, rfl⟩ := x1.addr hlj
          obtain ⟨a', ca, _, y0, y1, y2, y3, y4, y5, y6⟩ := (x1.keep0 hcr).at hlj
          have hwf := hwx (l.getD j Dl.z) (by simp [List.getD, hlj])
          have hkey := keyOf_id _ _ hwf.1 hwf.2
          have htk := Lib.hid (keys_take (L.take k).flatten l hlj)
          generalize l.getD j Dl.z = d at *
          unfold maxLen at y5
          obtain ⟨df, ds, dp⟩ := d
          dsimp only at *
          go_upto_region 8 with fail
          have kD := block_new wr (.cells #[.int .u8 (df : Int), .int .u64 (ds : Int), .slice a' dp.length ca] 34)
          have hcD := (Chg.refl [] wr).alloc (.cells #[.int .u8 (df : Int), .int .u64 (ds : Int), .slice a' dp.length ca] 34)
          have hlB := owns_lt hown
          obtain ⟨BD, hBD⟩ : ∃ b, wr.heap.size = b := ⟨_, rfl⟩
          rw [hBD] at kD hlB ⊢
          clear hBD
          have hown1 := owns_keep hown hcD (by simp)
          have hcr1 := hcr.trans hcD
          generalize wr.alloc (.cells #[.int .u8 (df : Int), .int .u64 (ds : Int), .slice a' dp.length ca] 34) = WD at *
          have z0 : WD.cell? ⟨BD, 0, none⟩ = some (.int .u8 (df : Int)) := (cell_of_block kD 0).trans rfl
          have z1 : WD.cell? ⟨BD, 1, none⟩ = some (.int .u64 (ds : Int)) := (cell_of_block kD 1).trans rfl
          clear y0 y1 y2 hown
          go_wp2_with (at_mapUpdate; refine wpList_mapUpdate_own _ rfl _ _ _ 47 rfl 31 48 lawID Try.underlying47 _ BM n _ rfl hown1 ?hm1 _ _ _ rfl rfl hkey _ [] unitElem_mk ?_)
          case hm1 => unfold maxLen; omega
          intro w4 hown4 hgrow4
          have hc4 := Chg.of_grown (S := [BM]) hgrow4 (by simp)
          have hcr4 : Chg [] w w4 := hcr1.then hc4 (by simp; have := HBM.out; omega)
          clear hgrow4
          go_wp2_with fail
          go_roundw
          case rel => exact ⟨j + 1, n + 1, by omega, by go_num, by omega, by rw [htk.out, setOf_snoc]; exact hown4, hcr4⟩
          case measure => simp [intOf]; omega
        · obtain rfl : j = l.length := by omega
          go_wp2_with fail
          go_roundw
          case rel => exact ⟨k + 1, n, by omega, by go_num, by omega, by rw [HT.out]; simpa using hown, hcr⟩
          case measure => simp [intOf]; omega
    · obtain rfl : k = L.length := by omega
      rw [List.take_length] at hown
      clear hown0 hc0
      go_wp2_with fail
      go_loopw [42] (fun i wx => ∃ k n : Nat, k ≤ L.length ∧ i = .int .i64 k ∧ n ≤ 6000 + k * 60 ∧ wx.ownsMap Try.prog 31 (unitElem (H := Unit)) BM n (setOf (.agg []) (keys (L.flatten ++ rowK S (min k S.length)))) ∧ Chg [] w wx) (fun i _ => L.length - (intOf i).toNat)
      case atStart => exact ⟨0, n, by omega, rfl, by omega, by simpa [rowK] using hown, hcr⟩
      case round =>
        clear hown hn hcr
        obtain ⟨k, n, hkl, rfl, hn, hown, hcr⟩ := hrel
        by_cases hlk : k < L.length
        · obtain ⟨bv, ov, rfl⟩ := hv.addr hlk
          have v0 := (hv.keep0 hcr).at hlk
          by_cases hks : k < S.length
          · obtain ⟨bs, os, rfl⟩ := hS.addr hks
            obtain ⟨a1, c1, hbl, x0, x1, x2, x3⟩ := hS.at hks
            replace x0 := (hcr.cell (p := ⟨bs, os + k, none⟩) hbl (by simp)).trans x0
            have hr60 := (hsm.2 (S.getD k []) (by simp [List.getD, hks])).1
            have HM := Lib.hid (show rowK S (min (k + 1) S.length) = rowK S k ++ rowP S k (S.getD k []).length by rw [show min (k + 1) S.length = k + 1 by omega]; rfl)
            rw [show min k S.length = k by omega] at hown
            obtain ⟨r, hr⟩ : ∃ r, S.getD k [] = r := ⟨_, rfl⟩
            rw [hr] at x0 x2 hr60 HM
            clear hr x1 x3
            have g1 : decide ((k : Int) < 0) = false := by simp
            have g2 : decide ((k : Int) ≥ (S.length : Int)) = false := by simp; omega
            have g3 : decide ((k : Int) ≥ 64) = false := by simp; omega
            have g4 : (k : Int) < (S.length : Int) := by omega
            have g5 : (k : Int) < 64 := by omega
            go_wp2_with fail
            clear x0 v0 g1 g2 g3
            simp only [show decide (S.length ≤ k) = false from decide_eq_false (by omega)]
            obtain ⟨X, hX⟩ : ∃ X, L.flatten ++ rowK S k = X := ⟨_, rfl⟩
            rw [hX] at hown
            have HX := Lib.hid hX
            clear hX
            go_loopw [63] (fun i wx => ∃ j n : Nat, j ≤ r.length ∧ i = .int .i64 j ∧ n ≤ 6000 + k * 60 + j ∧ wx.ownsMap Try.prog 31 (unitElem (H := Unit)) BM n (setOf (.agg []) (keys (X ++ rowP S k j))) ∧ Chg [] w wx) (fun i _ => r.length - (intOf i).toNat)
            case atStart => exact ⟨0, n, by omega, rfl, by omega, by simpa [rowP] using hown, hcr⟩
            case round =>
              clear hown hn hcr
              obtain ⟨j, n, hjl, rfl, hn, hown, hcr⟩ := hrel
              by_cases hlj : j < r.length
              · have hkey := keyOf_id k (j + 1) (by omega) (by omega)
                rw [show ((j + 1 : Nat) : Int) = (j : Int) + 1 by omega] at hkey
                have htk := Lib.hid (keys_rowP X S k j (by omega))
                go_wp2_with (at_mapUpdate; refine wpList_mapUpdate_own _ rfl _ _ _ 47 rfl 31 48 lawID Try.underlying47 _ BM n _ rfl hown ?hm2 _ _ _ rfl rfl hkey _ [] unitElem_mk ?_)
                case hm2 => unfold maxLen; omega
                intro w4 hown4 hgrow4
                have hc4 := Chg.of_grown (S := [BM]) hgrow4 (by simp)
                have hcr4 : Chg [] w w4 := hcr.then hc4 (by simp; have := HBM.out; omega)
                clear hgrow4
                go_wp2_with fail
                go_roundw
                case rel => exact ⟨j + 1, n + 1, by omega, by go_num, by omega, by rw [htk.out, setOf_snoc]; exact hown4, hcr4⟩
                case measure => simp [intOf]; omega
              · obtain rfl : j = r.length := by omega
                go_wp2_with fail
                go_roundw
                case rel => exact ⟨k + 1, n, by omega, by go_num, by omega, by rw [HM.out, ← List.append_assoc, HX.out]; exact hown, hcr⟩
                case measure => simp [intOf]; omega
          · have g1 : decide ((k : Int) < 0) = false := by simp
            have g2 : decide ((k : Int) ≥ (S.length : Int)) = true := by simp; omega
            have HM := Lib.hid (show min (k + 1) S.length = min k S.length by omega)
            go_wp2_with fail
            go_roundw
            case rel => exact ⟨k + 1, n, by omega, by go_num, by omega, by rw [HM.out]; exact hown, hcr⟩
            case measure => simp [intOf]; omega
        · obtain rfl : k = L.length := by omega
          replace hown : wr.ownsMap Try.prog 31 (unitElem (H := Unit)) BM n (setOf (.agg []) (keys (L.flatten ++ rowOf S))) := by rw [show min L.length S.length = S.length by omega] at hown; exact hown
          have hz := hown.size_le
          have HZ := Lib.hid (show szOf (L.flatten ++ rowOf S) = Maps.size (setOf (H := Unit) (.agg []) (keys (L.flatten ++ rowOf S))) from rfl)
          generalize setOf (H := Unit) (.agg []) (keys (L.flatten ++ rowOf S)) = DM at *
          go_wp2_with fail
          go_loopw [15, 78] (fun s i wx => ∃ (k : Nat) (x : Int), k ≤ L.length ∧ i = .int .i64 k ∧ s = .int .i64 x ∧ lackK (Maps.size DM : Nat) L k = x ∧ (- 600 * (k : Int)) ≤ x ∧ x ≤ 7000 * (k : Int) ∧ wx.ownsMap Try.prog 31 (unitElem (H := Unit)) BM n (DM) ∧ Chg [] w wx) (fun _ i _ => L.length - (intOf i).toNat)
          case atStart => exact ⟨0, 0, by omega, rfl, rfl, rfl, by omega, by omega, hown, hcr⟩
          case round =>
            clear hown hcr
            obtain ⟨k, x, hkl, rfl, rfl, hlk, hx1, hx2, hown, hcr⟩ := hrel
            have HLK := Lib.hid hlk
            clear hlk
            by_cases hlt : k < L.length
            · obtain ⟨bv, ov, rfl⟩ := hv.addr hlt
              have v0 := (hv.keep0 hcr).at hlt
              have hmem : L.getD k [] ∈ L := by simp [List.getD, hlt]
              have hlx := hll _ hmem
              have hwx := hw _ hmem
              have hownH := World.ownsMap_made wr Try.prog 31 (unitElem (H := Unit))
              have hcm := (Chg.refl [] wr).alloc (.map #[] 0)
              have hownM := owns_keep hown hcm (by simp)
              have hBM := owns_lt hown
              have hsz := hcr.size
              go_upto_region 26 with fail
              obtain ⟨BH, hBH⟩ : ∃ b, wr.heap.size = b := ⟨_, rfl⟩
              rw [hBH] at hownH hBM hsz ⊢
              clear hBH
              have hcr1 := hcr.trans hcm
              generalize wr.alloc (.map #[] 0) = WH at *
              clear hcm v0
              go_wp2_with fail
              refine (of_any w WH lo L lc hL hcr1 (by omega) k hlt).mono ?_
              rintro e w5 ⟨a1, ca1, rfl, x1, hc5⟩
              have hcr5 := hcr1.trans hc5
              have hownH5 := owns_keep hownH hc5 (by simp)
              have hownM5 := owns_keep hownM hc5 (by simp)
              have HLN := Lib.hid (show lackK (Maps.size DM : Nat) L (k + 1) = x + ((Maps.size DM : Nat) - (Maps.size (setOf (H := Unit) (.agg []) (keys (L.getD k []))) : Int)) by rw [lackK, HLK.out]; rfl)
              clear hownH hownM hcr1 hcr hown hc5
              obtain ⟨l, hl⟩ : ∃ l, L.getD k [] = l := ⟨_, rfl⟩
              rw [hl] at x1 hlx hwx HLN ⊢
              clear hmem hl
              go_wp2_with fail
              go_loopw [87] (fun i wx => ∃ j : Nat, j ≤ l.length ∧ i = .int .i64 j ∧ wx.ownsMap Try.prog 31 (unitElem (H := Unit)) BH j (setOf (.agg []) (keys (l.take j))) ∧ wx.ownsMap Try.prog 31 (unitElem (H := Unit)) BM n (DM) ∧ Chg [] w wx) (fun i _ => l.length - (intOf i).toNat)
              case atStart => exact ⟨0, by omega, rfl, hownH5, hownM5, hcr5⟩
              case round =>
                clear hownH5 hownM5 hcr5
                obtain ⟨j, hjl, rfl, hown, hownM, hcr⟩ := hrel
                by_cases hlj : j < l.length
                · obtain ⟨b, off, rfl⟩ := x1.addr hlj
                  obtain ⟨a', ca, _, y0, y1, y2, y3, y4, y5, y6⟩ := (x1.keep0 hcr).at hlj
                  have hwf := hwx (l.getD j Dl.z) (by simp [List.getD, hlj])
                  have hkey := keyOf_id _ _ hwf.1 hwf.2
                  have htk := Lib.hid (show keys (l.take (j + 1)) = keys (l.take j) ++ [klOf (l.getD j Dl.z).f (l.getD j Dl.z).s] from keys_take [] l hlj)
                  generalize l.getD j Dl.z = d at *
                  unfold maxLen at y5
                  obtain ⟨df, ds, dp⟩ := d
                  dsimp only at *
                  go_upto_region 29 with fail
                  have kD := block_new wr (.cells #[.int .u8 (df : Int), .int .u64 (ds : Int), .slice a' dp.length ca] 34)
                  have hcD := (Chg.refl [] wr).alloc (.cells #[.int .u8 (df : Int), .int .u64 (ds : Int), .slice a' dp.length ca] 34)
                  have hlB := owns_lt hown
                  have hcz := hcr.size
                  obtain ⟨BD, hBD⟩ : ∃ b, wr.heap.size = b := ⟨_, rfl⟩
                  rw [hBD] at kD hlB ⊢
                  clear hBD
                  have hown1 := owns_keep hown hcD (by simp)
                  have hownM1 := owns_keep hownM hcD (by simp)
                  have hcr1 := hcr.trans hcD
                  generalize wr.alloc (.cells #[.int .u8 (df : Int), .int .u64 (ds : Int), .slice a' dp.length ca] 34) = WD at *
                  have z0 : WD.cell? ⟨BD, 0, none⟩ = some (.int .u8 (df : Int)) := (cell_of_block kD 0).trans rfl
                  have z1 : WD.cell? ⟨BD, 1, none⟩ = some (.int .u64 (ds : Int)) := (cell_of_block kD 1).trans rfl
                  clear y0 y1 y2 hown hownM
                  go_wp2_with (at_mapUpdate; refine wpList_mapUpdate_own _ rfl _ _ _ 47 rfl 31 48 lawID Try.underlying47 _ BH j _ rfl hown1 ?hm3 _ _ _ rfl rfl hkey _ [] unitElem_mk ?_)
                  case hm3 => unfold maxLen; omega
                  intro w4 hown4 hgrow4
                  have hc4 := Chg.of_grown (S := [BH]) hgrow4 (by simp)
                  have hcr4 : Chg [] w w4 := hcr1.then hc4 (by simp; omega)
                  have hownM4 := owns_keep hownM1 hc4 (by simp; omega)
                  clear hgrow4
                  go_wp2_with fail
                  go_roundw
                  case rel => exact ⟨j + 1, by omega, by go_num, by rw [htk.out, setOf_snoc]; exact hown4, hownM4, hcr4⟩
                  case measure => simp [intOf]; omega
                · obtain rfl : j = l.length := by omega
                  rw [List.take_length] at hown
                  have hzh := hown.size_le
                  generalize setOf (H := Unit) (.agg []) (keys l) = DH at *
                  go_wp2_with (first
                    | (at_len; refine wpList_len_own _ rfl _ 47 rfl 31 48 Try.underlying47 _ BM n _ rfl hownM ?_)
                    | (at_len; refine wpList_len_own _ rfl _ 47 rfl 31 48 Try.underlying47 _ BH _ _ rfl hown ?_))
                  go_roundw
                  case rel => exact ⟨k + 1, x + ((Maps.size DM : Nat) - (Maps.size DH : Nat)), by omega, by go_num, by go_num, HLN.out, by omega, by omega, hownM, hcr⟩
                  case measure => simp [intOf]; omega
            · obtain rfl : k = L.length := by omega
              go_wp2_with fail
              go_ret
              rw [HZ.out, HLK.out]
              exact ⟨rfl, hcr⟩
end Go.Proofs.Ytpbadnnolheblaa
