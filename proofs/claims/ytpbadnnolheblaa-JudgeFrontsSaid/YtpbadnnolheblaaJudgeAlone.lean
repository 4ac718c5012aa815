/-
  Package judge: what is found of a log by itself.
-/
import Derived.Test.YtpbadnnolheblaaJudgeKey
import Derived.Maps.OwnOps
namespace Go.Proofs.Ytpbadnnolheblaa
open Go.RowKit Go.Maps

def idAt (l : List Dl) (i : Nat) : Nat × Nat := ((l.getD i Dl.z).f, (l.getD i Dl.z).s)
/-- Is the id at i among those ahead of it? -/
def again (l : List Dl) (i : Nat) : Bool := decide (idAt l i ∈ ids (l.take i))
/-- The first such place. -/
def twiceK (l : List Dl) (k : Nat) : Option Nat := (List.range k).find? (again l)
def twice (l : List Dl) : Option Nat := twiceK l l.length
theorem twiceK_succ (l : List Dl) (k : Nat) : twiceK l (k + 1) = (twiceK l k).or (if again l k then some k else none) := by
  unfold twiceK
  rw [List.range_succ, List.find?_append]
  congr 1
  simp only [List.find?_cons, List.find?_nil]
  cases again l k <;> rfl
theorem twiceK_some (l : List Dl) {k m : Nat} (h : twiceK l (k + 1) = some k) (hm : k + 1 ≤ m) : twiceK l m = some k := by
  induction m with
  | zero => omega
  | succ m ih =>
    by_cases e : m = k
    · subst e; exact h
    · rw [twiceK_succ, ih (by omega)]; rfl
def aloneV : Option Nat → Value
  | none => .tuple #[.int .u8 0, .int .i64 (-1)]
  | some i => .tuple #[.int .u8 2, .int .i64 (i : Int)]
theorem owns_keep {H : Type} {P : Program} {k : TypeId} {R : Value → Option (DataW H × List MemPlace)} {w w' : World} {b n : Nat} {D : DataW H} {S : List Nat} (h : w.ownsMap P k R b n D) (hc : Chg S w w') (hn : b ∉ S) : w'.ownsMap P k R b n D := by
  obtain ⟨es, clock, hb, rest⟩ := h
  exact ⟨es, clock, hc.at hb hn, rest⟩
theorem owns_lt {H : Type} {P : Program} {k : TypeId} {R : Value → Option (DataW H × List MemPlace)} {w : World} {b n : Nat} {D : DataW H} (h : w.ownsMap P k R b n D) : b < w.heap.size := by
  obtain ⟨es, clock, hb, rest⟩ := h
  exact lt_of_some hb
theorem zeroUnit (w : World) : (zeroValue 48).run Try.prog w = .ok (.agg #[]) w := by kernel_rfl

set_option maxRecDepth 100000 in
set_option maxHeartbeats 2000000 in
theorem alone_known (w : World) (so : Option Addr) (S : List (List (List Nat))) (sc : Nat) (ao : Option Addr) (l : List Dl) (cap : Nat) (hS : isSent w so S) (hSl : S.length ≤ 1000) (hr : ∀ r ∈ S, r.length ≤ 1000)
    (hA : isLog w ao l) (hl : l.length ≤ 100000) (hk : ∀ d ∈ l, kn S d) (hw : ∀ d ∈ l, d.wf) :
    Calls Try.prog 11 #[.slice so S.length sc, .slice ao l.length cap] w fun e w' => e = .returned (aloneV (twice l)) ∧ Chg [] w w' := by
  have hmm := @run_makeMap Try.prog
  have hown0 := World.ownsMap_made w Try.prog 31 (unitElem (H := Unit))
  have hc0 := (Chg.refl [] w).alloc (.map #[] 0)
  go_enter Try.func11, Try.ntmps11
  go_wp2_with fail
  obtain ⟨BM, hBM⟩ : ∃ b, w.heap.size = b := ⟨_, rfl⟩
  have HBM := Lib.hid hBM
  rw [hBM] at hown0 ⊢
  clear hBM hmm
  generalize w.alloc (.map #[] 0) = W1 at *
  go_loopw [14] (fun i wr => ∃ k : Nat, k ≤ l.length ∧ i = .int .i64 k ∧ twiceK l k = none ∧ wr.ownsMap Try.prog 31 (unitElem (H := Unit)) BM k (setOf (.agg []) (keys (l.take k))) ∧ Chg [] w wr) (fun i _ => l.length - (intOf i).toNat)
  case atStart => exact ⟨0, by omega, rfl, rfl, hown0, hc0⟩
  case round =>
    obtain ⟨k, hkl, rfl, htw, hown, hcr⟩ := hrel
    by_cases hlt : k < l.length
    · obtain ⟨b, off, rfl⟩ := hA.addr hlt
      obtain ⟨a', ca, _, x0, x1, x2, x3, x4, x5, x6⟩ := (hA.keep0 hcr).at hlt
      have hmem : l.getD k Dl.z ∈ l := by simp [List.getD, hlt]
      have hkn := hk _ hmem
      have hwf := hw _ hmem
      have hht := has_ids (l.take k) (fun d hd => hw d (List.mem_of_mem_take hd)) (l.getD k Dl.z) hwf
      have hkey := keyOf_id _ _ hwf.1 hwf.2
      have hag := Lib.hid (show again l k = decide (((l.getD k Dl.z).f, (l.getD k Dl.z).s) ∈ ids (l.take k)) from rfl)
      have htk := Lib.hid (show keys (l.take (k + 1)) = keys (l.take k) ++ [klOf (l.getD k Dl.z).f (l.getD k Dl.z).s] by rw [take_getD l Dl.z hlt]; simp [keys])
      have hts := Lib.hid (twiceK_succ l k)
      have htsm := Lib.hid (fun h => @twiceK_some l k l.length h (by omega))
      rw [htw] at hts
      generalize l.getD k Dl.z = d at *
      have hkw := fun wx (hc : Chg [] wr wx) => known_yes wx so S sc d a' ca ((hS.keep0 hcr).keep0 hc) hSl hr (x3.keep0 hc) hkn hwf.1
      unfold dlV at hkw
      unfold maxLen at x5
      have HT := Lib.hid htw
      clear htw hmem
      obtain ⟨df, ds, dp⟩ := d
      dsimp only at *
      go_upto_region 5 with fail
      have kD := block_new wr (.cells #[.int .u8 (df : Int), .int .u64 (ds : Int), .slice a' dp.length ca] 34)
      have hcD := (Chg.refl [] wr).alloc (.cells #[.int .u8 (df : Int), .int .u64 (ds : Int), .slice a' dp.length ca] 34)
      have hlB := owns_lt hown
      have hsz := hcr.size
      obtain ⟨BD, hBD⟩ : ∃ b, wr.heap.size = b := ⟨_, rfl⟩
      rw [hBD] at kD hlB ⊢
      rw [hBD] at hsz
      clear hBD
      have hkw1 := hkw _ hcD
      have hown1 := owns_keep hown hcD (by simp)
      have hcr1 := hcr.trans hcD
      generalize wr.alloc (.cells #[.int .u8 (df : Int), .int .u64 (ds : Int), .slice a' dp.length ca] 34) = WD at *
      have z0 : WD.cell? ⟨BD, 0, none⟩ = some (.int .u8 (df : Int)) := (cell_of_block kD 0).trans rfl
      have z1 : WD.cell? ⟨BD, 1, none⟩ = some (.int .u64 (ds : Int)) := (cell_of_block kD 1).trans rfl
      have z2 : WD.cell? ⟨BD, 2, none⟩ = some (.slice a' dp.length ca) := (cell_of_block kD 2).trans rfl
      clear hkw x0 x1 x2 hown hkn
      go_wp2_with fail
      refine hkw1.mono ?_
      rintro e w2 ⟨rfl, hc2⟩
      have hown2 := owns_keep hown1 hc2 (by simp)
      have kD2 := hc2.at kD (by simp)
      have y0 : w2.cell? ⟨BD, 0, none⟩ = some (.int .u8 (df : Int)) := (cell_of_block kD2 0).trans rfl
      have y1 : w2.cell? ⟨BD, 1, none⟩ = some (.int .u64 (ds : Int)) := (cell_of_block kD2 1).trans rfl
      have hcr2 := hcr1.trans hc2
      clear z0 z1 z2 hkw1 hown1
      cases hagb : decide ((df, ds) ∈ ids (l.take k)) with
      | true =>
        rw [hagb] at hht
        have HV := Lib.hid (show twice l = some k from htsm.out (by rw [hts.out, hag.out, hagb]; rfl))
        clear hagb
        go_wp2_with (at_lookup; refine wpList_lookup_own_unit _ rfl _ _ 47 rfl 31 48 lawID Try.underlying47 (zeroUnit _) BM k _ rfl hown2 _ _ rfl hkey ?_)
        refine bodyPost_ret (v := aloneV (some k)) (by simp [results, Try.results11, go_sem, aloneV]) rfl ?_
        rw [HV.out]
        exact ⟨rfl, hcr2.alloc _⟩
      | false =>
        rw [hagb] at hht
        have HN := Lib.hid (show twiceK l (k + 1) = none by rw [hts.out, hag.out, hagb]; rfl)
        clear hagb
        have hce := (Chg.refl [] w2).alloc (.cells #[] 48)
        have hown3 := owns_keep hown2 hce (by simp)
        have hcr3 := hcr2.trans hce
        have kD3 := hce.at kD2 (by simp)
        have v0 : (w2.alloc (.cells #[] 48)).cell? ⟨BD, 0, none⟩ = some (.int .u8 (df : Int)) := (cell_of_block kD3 0).trans rfl
        have v1 : (w2.alloc (.cells #[] 48)).cell? ⟨BD, 1, none⟩ = some (.int .u64 (ds : Int)) := (cell_of_block kD3 1).trans rfl
        go_wp2_with (first
          | (at_lookup; refine wpList_lookup_own_unit _ rfl _ _ 47 rfl 31 48 lawID Try.underlying47 (zeroUnit _) BM k _ rfl hown2 _ _ rfl hkey ?_)
          | (at_mapUpdate; refine wpList_mapUpdate_own _ rfl _ _ _ 47 rfl 31 48 lawID Try.underlying47 _ BM k _ rfl hown3 ?hm1 _ _ _ rfl rfl hkey _ [] unitElem_mk ?_))
        case hm1 => unfold maxLen; omega
        intro w4 hown4 hgrow4
        have hc4 := Chg.of_grown (S := [BM]) hgrow4 (by simp)
        have hcr4 : Chg [] w w4 := hcr3.then hc4 (by simp; have := HBM.out; omega)
        go_wp2_with fail
        go_roundw
        case rel => exact ⟨k + 1, by omega, by go_num, HN.out, by rw [htk.out, setOf_snoc]; exact hown4, hcr4⟩
        case measure => simp [intOf]; omega
    · obtain rfl : k = l.length := by omega
      have HV := Lib.hid (show twice l = none from htw)
      clear htw
      go_wp2_with fail
      refine bodyPost_ret (v := aloneV none) (by simp [results, Try.results11, go_sem, aloneV]) rfl ?_
      rw [HV.out]
      exact ⟨rfl, hcr⟩
end Go.Proofs.Ytpbadnnolheblaa
