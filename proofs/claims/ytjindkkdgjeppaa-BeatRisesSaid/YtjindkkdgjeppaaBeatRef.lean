/-
  The reference of beat: New, Of.
-/
import Derived.Test.YtjindkkdgjeppaaBeatNew
import Derived.Deep.MidRow
namespace Go.Proofs.Ytjindkkdgjeppaa
open Go.RowKit

def rin (n least most : Int) : Int := if n < least then least else if most < n then most else n
theorem rin_any (n a b : Int) (w : World) : Calls Try.prog 17 #[.int .i64 n, .int .i64 a, .int .i64 b] w fun e w' => e = .returned (.int .i64 (rin n a b)) ∧ w' = w := by
  unfold rin
  by_cases h1 : n < a
  · go_enter Try.func17, Try.ntmps17
    go_wp2_with fail
    go_ret
    simp [h1, go_sem]
  · by_cases h2 : b < n
    · go_enter Try.func17, Try.ntmps17
      go_wp2_with fail
      go_ret
      simp [h1, h2, go_sem]
    · go_enter Try.func17, Try.ntmps17
      go_wp2_with fail
      go_ret
      simp [h1, h2, go_sem]

def rnValue (a : Option Addr) (N cap : Nat) (M R T : Int) : Value := .agg #[.slice a N cap, .int .i64 M, .int .i64 R, .int .i64 T, .int .i64 0, .int .i64 0]
def rxRow (W : Int) : Nat → List Value
  | 0 => []
  | k + 1 => rxRow W k ++ [.int .i64 0, .int .i64 W, .bool false]
theorem Try.info_rX : (Try.prog.info? 55).map (fun i => (i.zero, i.size, i.bytes)) = some (some (.agg #[.int .i64 0, .int .i64 0, .bool false]), 3, 24) := by kernel_rfl

set_option maxRecDepth 100000 in
set_option maxHeartbeats 2000000 in
theorem rnew_any (n me wait more most : Int) (w : World) (b1 : -9223372036854775808 ≤ n) (b2 : n ≤ 9223372036854775807) :
    Calls Try.prog 9 #[.int .i64 n, .int .i64 me, .int .i64 wait, .int .i64 more, .int .i64 most] w fun e w' =>
      ∃ a cap, e = .returned (rnValue a (nN n).toNat cap (nMe n me) (nMore more) (nMost wait most)) ∧ Chg [] w w' := by
  obtain ⟨i0, hi, hz0, hz1, hz2⟩ := info_parts Try.info_rX
  have h1 : rin n 1 64 = nN n := by unfold rin nN; split <;> (try split) <;> omega
  have h2 : rin wait 1 1099511627776 = nW wait := by unfold rin nW; split <;> (try split) <;> omega
  have h12 : 1 ≤ nN n ∧ nN n ≤ 64 := by unfold nN; omega
  have h13 : 1 ≤ nW wait ∧ nW wait ≤ 1099511627776 := by unfold nW; omega
  have h3 : rin me 0 (nN n - 1) = nMe n me := by unfold rin nMe; split <;> (try split) <;> omega
  have h4 : rin more 0 1099511627776 = nMore more := by unfold rin nMore; split <;> (try split) <;> omega
  have h5 : rin most (nW wait) 1099511627776 = nMost wait most := by unfold rin nMost; split <;> (try split) <;> omega
  generalize nMe n me = M at *
  generalize nMore more = R at *
  generalize nMost wait most = T at *
  generalize nW wait = W at *
  obtain ⟨N, hN⟩ : ∃ N : Nat, nN n = N := ⟨(nN n).toNat, by omega⟩
  rw [hN] at h1 h3 h12 ⊢
  have H1 := Lib.hid h1
  have H2 := Lib.hid h2
  have H3 := Lib.hid h3
  have H4 := Lib.hid h4
  have H5 := Lib.hid h5
  clear h1 h2 h3 h4 h5 hN
  go_enter Try.func9, Try.ntmps9
  go_wp2_with fail
  refine (rin_any n 1 64 _).mono ?_
  rintro e w' ⟨rfl, rfl⟩
  rw [H1.out]
  go_wp2_with fail
  refine (rin_any wait 1 1099511627776 _).mono ?_
  rintro e w' ⟨rfl, rfl⟩
  rw [H2.out]
  go_wp2_with fail
  refine (rin_any me 0 _ _).mono ?_
  rintro e w' ⟨rfl, rfl⟩
  rw [H3.out]
  go_wp2_with fail
  refine (rin_any more 0 _ _).mono ?_
  rintro e w' ⟨rfl, rfl⟩
  rw [H4.out]
  go_wp2_with fail
  refine (rin_any most W _ _).mono ?_
  rintro e w' ⟨rfl, rfl⟩
  rw [H5.out]
  go_wp2_with fail
  obtain ⟨k1, k2⟩ := two_blocks w (.cells #[.slice none 0 0, .int .i64 0, .int .i64 0, .int .i64 0, .int .i64 0, .int .i64 0] 31) (.cells #[.slice none 0 0, .int .i64 M, .int .i64 R, .int .i64 T, .int .i64 0, .int .i64 0] 31)
  have hcc := ((Chg.refl [] w).alloc (.cells #[.slice none 0 0, .int .i64 0, .int .i64 0, .int .i64 0, .int .i64 0, .int .i64 0] 31)).alloc (.cells #[.slice none 0 0, .int .i64 M, .int .i64 R, .int .i64 T, .int .i64 0, .int .i64 0] 31)
  generalize (w.alloc (.cells #[.slice none 0 0, .int .i64 0, .int .i64 0, .int .i64 0, .int .i64 0, .int .i64 0] 31)).alloc (.cells #[.slice none 0 0, .int .i64 M, .int .i64 R, .int .i64 T, .int .i64 0, .int .i64 0] 31) = W2 at *
  have l1 := lt_of_some k1
  have l2 := lt_of_some k2
  obtain ⟨BR, hBR⟩ : ∃ b, w.heap.size = b := ⟨_, rfl⟩
  have HBR := Lib.hid hBR
  rw [hBR] at k1 k2 l1 l2 ⊢
  clear hBR
  obtain ⟨BB, hBB⟩ : ∃ b, W2.heap.size = b := ⟨_, rfl⟩
  rw [hBB] at l1 l2
  have HBB := Lib.hid hBB
  clear hBB
  go_loopw [14] (fun i wr => ∃ (k : Nat) (v : Value), k ≤ N ∧ i = .int .i64 k ∧ wr.heap[BR]? = some (.cells #[.slice none 0 0, .int .i64 0, .int .i64 0, .int .i64 0, .int .i64 0, .int .i64 0] 31) ∧ wr.heap[BR + 1]? = some (.cells #[v, .int .i64 M, .int .i64 R, .int .i64 T, .int .i64 0, .int .i64 0] 31) ∧
      wr.ownsRow BB 55 3 v k (rxRow W k) ∧ Chg [] w wr ∧ BB ≤ wr.heap.size) (fun i _ => N - (intOf i).toNat)
  case atStart => exact ⟨0, _, by omega, rfl, k1, k2, World.ownsRow_nil _ _ _ _, hcc, by rw [HBB.out]; exact Nat.le_refl _⟩
  case round =>
    obtain ⟨k, v, hk, rfl, hr, hg, hown, hcr, hsz⟩ := hrel
    have c0 : wr.cell? ⟨BR + 1, 0, none⟩ = some v := by rw [cell_of_block hg]; rfl
    have f0 := free_of_block hg 0
    by_cases hlt : k < N
    · go_wp2_with (at_builtin; refine wpList_append_own _ rfl (.tmp 35) (.tmp 38) 29 rfl BB 55 i0 (.agg #[.int .i64 0, .int .i64 0, .bool false]) 3 24 Try.underlying29 hi hz0 hz1 hz2 rfl (by decide) v k (rxRow W k) rfl (hown.alloc _) ⟨wr.heap.size, 0, none⟩ 1 1 [.int .i64 0, .int .i64 W, .bool false] rfl rfl ?c1 ?c2 ?c3 ?c4 ?c5 ?_)
      case c1 =>
        intro j u hj
        match j, hj with
        | 0, hj => simp at hj; subst hj; rw [show (Addr.add ⟨wr.heap.size, 0, none⟩ 0) = ⟨wr.heap.size, 0, none⟩ from rfl, cell_of_block (block_new _ _)]; rfl
        | 1, hj => simp at hj; subst hj; rw [show (Addr.add ⟨wr.heap.size, 0, none⟩ 1) = ⟨wr.heap.size, 1, none⟩ from rfl, cell_of_block (block_new _ _)]; rfl
        | 2, hj => simp at hj; subst hj; rw [show (Addr.add ⟨wr.heap.size, 0, none⟩ 2) = ⟨wr.heap.size, 2, none⟩ from rfl, cell_of_block (block_new _ _)]; rfl
      case c2 => intro u hu; simp at hu; rcases hu with rfl | rfl | rfl <;> rfl
      case c3 => unfold maxLen; omega
      case c4 => omega
      case c5 => simp; omega
      intro v' w1 hown' hgrow _
      have hv : ∀ q, v.ownBlock = some q → BB ≤ q := fun q hq => (hown.lt q hq).1
      have hgr := Chg.of_grown (S := v.ownBlock.toList) hgrow (by simp)
      have hcg : Chg [] w w1 := (hcr.alloc _).then hgr (by
        intro q hq; right
        have hq' : v.ownBlock = some q := by simpa using hq
        have := hv q hq'
        rw [HBR.out]; omega)
      have kr := block_alloc (o' := .cells #[.int .i64 0, .int .i64 W, .bool false] 55) hr
      have kg := block_alloc (o' := .cells #[.int .i64 0, .int .i64 W, .bool false] 55) hg
      have kr' := hgr.at kr (by simp; intro hq; have := hv _ hq; omega)
      have kg' := hgr.at kg (by simp; intro hq; have := hv _ hq; omega)
      have c0' : w1.cell? ⟨BR + 1, 0, none⟩ = some v := by rw [cell_of_block kg']; rfl
      have f0' := free_of_block kg' 0
      have hsz' := hgr.size
      obtain ⟨g', cap', rfl, hb', hlt', _, _⟩ := owned_shape hown' (by omega)
      go_wp2_with fail
      go_roundw
      case rel =>
        refine ⟨k + 1, _, by omega, by go_num, ?_, block_set kg', ?_, hcg.setCell (.inr (by rw [HBR.out]; simp)) _, ?_⟩
        · rw [block_set_ne (by omega)]; exact kr'
        · exact ownsRow_setCell_below hown' (by simp; omega) _
        · simp at hsz' ⊢; omega
      case measure => simp [intOf]; omega
    · obtain rfl : k = N := by omega
      obtain ⟨gl, cap, rfl, hb', hlt', hcap, hmax⟩ := owned_shape hown (by omega)
      obtain ⟨cells, hcells⟩ : ∃ cells : Array Value, cells = #[.slice (some ⟨gl, 0, none⟩) k cap, .int .i64 M, .int .i64 R, .int .i64 T, .int .i64 0, .int .i64 0] := ⟨_, rfl⟩
      rw [← hcells] at hg
      have hcs : cells.size = 6 := by rw [hcells]; rfl
      have hone : cells.all (·.oneCell') = true := by rw [hcells]; exact all_oneCell_toArray (cs := [.slice (some ⟨gl, 0, none⟩) k cap, .int .i64 M, .int .i64 R, .int .i64 T, .int .i64 0, .int .i64 0]) (by intro v hv; simp at hv; rcases hv with rfl | rfl | rfl | rfl | rfl <;> rfl)
      go_upto_region 8 with fail
      refine wp_region_lit ?_
      refine wpList_load_mid rfl 31 (.tmp 13) rfl (BR + 1) 0 rfl cells.toList _ ?l1 Try.underlying31 rfl ?l3 ?_
      case l1 => intro j v hv; rw [show 0 + j = j by omega, cell_of_block hg]; simpa using hv
      case l3 => rw [show cells.toList.length = 6 by simpa using hcs]; kernel_rfl
      have hth : wr.there BR 0 cells.size := by
        intro j hj
        rw [hcs] at hj
        rw [show 0 + j = j by omega, cell_of_block hr]
        refine ⟨?_, free_of_block hr _⟩
        rw [Array.getElem?_eq_getElem (by simpa using hj)]; rfl
      refine wpList_store_mid rfl 31 (.tmp 10) (.tmp 41) rfl BR 0 cells rfl rfl hth ?l4 hone ?_
      case l4 => rw [hcs]; kernel_rfl
      have hch : Chg [] w (wr.setCells BR 0 cells.toList) := Chg.setCells (.inr (by rw [HBR.out]; exact Nat.le_refl _)) _ _ _ hcr
      have hrg : (wr.setCells BR 0 cells.toList).rangeAt BR 0 cells.toList := World.rangeAt_setCells_same _ _ _ _ (by simpa using hth)
      generalize wr.setCells BR 0 cells.toList = WF at *
      go_wp2_with fail
      have hld := run_loadVar_mid (P := Try.prog) WF BR 0 31 cells.toList _ hrg Try.underlying31 rfl (by rw [show cells.toList.length = 6 by simpa using hcs]; kernel_rfl)
      refine bodyPost_ret (v := .agg cells) ?_ rfl ⟨some ⟨gl, 0, none⟩, cap, by rw [hcells]; simp [rnValue], hch⟩
      simp [results, Try.results9, Act.put, asAddr, Sem.run_bind, Result.andThen, hld]
/-- Is there such another process? -/
theorem rof_any (a : Option Addr) (N cap : Nat) (M R T p : Int) (w : World) (hN : N ≤ 64) :
    Calls Try.prog 10 #[rnValue a N cap M R T, .int .i64 p] w fun e w' => e = .returned (.bool (decide (0 ≤ p ∧ p < N ∧ p ≠ M))) ∧ Chg [] w w' := by
  unfold rnValue
  by_cases h0 : 0 ≤ p
  · by_cases h1 : p < N
    · by_cases h2 : p = M
      · have h2' : (p != M) = false := by simp [h2]
        go_enter Try.func10, Try.ntmps10
        go_wp2_with fail
        go_ret
        exact ⟨by simp [go_sem, h2], (Chg.refl _ _).alloc _⟩
      · have h2' : (p != M) = true := by simp [h2]
        go_enter Try.func10, Try.ntmps10
        go_wp2_with fail
        go_ret
        exact ⟨by simp [go_sem, h0, h1, h2], (Chg.refl _ _).alloc _⟩
    · go_enter Try.func10, Try.ntmps10
      go_wp2_with fail
      go_ret
      exact ⟨by simp [go_sem, h0]; omega, (Chg.refl _ _).alloc _⟩
  · go_enter Try.func10, Try.ntmps10
    go_wp2_with fail
    go_ret
    exact ⟨by simp [go_sem]; omega, (Chg.refl _ _).alloc _⟩
end Go.Proofs.Ytjindkkdgjeppaa
