/-
  The reference of grant: its functions' contracts, over the same plain values as the program's.
-/
import Derived.Test.YtdoebgbjpimkaaaGrantAw
import Derived.Test.YtdoebgbjpimkaaaGrantLim
import Derived.Deep.RegionWith
namespace Go.Proofs.Ytdoebgbjpimkaaa
open Go.RowKit

/-- A reference's processes in memory. -/
structure isR (w : World) (bl cap : Nat) (g : GM) : Prop where
  ct : ∀ i, i < g.told.length → w.cell? ⟨bl, i * 2, none⟩ = some (.int .u64 (g.told.getD i 0))
  cg : ∀ i, i < g.told.length → w.cell? ⟨bl, i * 2 + 1, none⟩ = some (.bool (g.gone.getD i false))
  ty : isRow w bl 44
  hc : g.told.length ≤ cap
  hm : cap ≤ maxLen
theorem isR.lt {w : World} {bl cap : Nat} {g : GM} (H : isR w bl cap g) : bl < w.heap.size := H.ty.lt
theorem isR.keep {w w' : World} {bl cap : Nat} {g : GM} {S : List Nat} (H : isR w bl cap g) (h : Chg S w w') (hn : bl ∉ S) : isR w' bl cap g :=
  ⟨fun i hi => (h.cell (p := ⟨bl, i * 2, none⟩) H.lt hn).trans (H.ct i hi), fun i hi => (h.cell (p := ⟨bl, i * 2 + 1, none⟩) H.lt hn).trans (H.cg i hi), H.ty.keep h hn, H.hc, H.hm⟩

def gVal (bl cap : Nat) (g : GM) : Value := .agg #[.slice (some ⟨bl, 0, none⟩) g.told.length cap, .int .i64 g.me]

theorem Try.info_X : (Try.prog.info? 44).map (fun i => (i.zero, i.size, i.bytes)) = some (some (.agg #[.int .u64 0, .bool false]), 2, 16) := by kernel_rfl

def zerosX (k : Nat) : List Value := pairs (fun _ => .int .u64 0) (fun _ => .bool false) k
theorem zerosX_succ (k : Nat) : zerosX (k + 1) = zerosX k ++ [Value.int .u64 0, Value.bool false] := rfl
theorem zerosX_get (k i : Nat) (h : i < k) : (zerosX k)[i * 2]? = some (.int .u64 0) ∧ (zerosX k)[i * 2 + 1]? = some (.bool false) := pairs_get _ _ k i h

def RNewPost (n me : Int) (w : World) (e : Ending) (w' : World) : Prop := ∃ bl cap, e = .returned (gVal bl cap (newG n me)) ∧ isR w' bl cap (newG n me) ∧ Chg [] w w' ∧ w.heap.size ≤ bl

set_option maxHeartbeats 1000000 in
theorem rnew_any (n me : Int) (w : World) : Calls Try.prog 13 #[.int .i64 n, .int .i64 me] w (RNewPost n me w) := by
  have hlo := clampN_lo n
  have hhi := clampN_hi n
  obtain ⟨i0, hi, hz0, hz1, hz2⟩ := info_parts Try.info_X
  go_enter Try.func13, Try.ntmps13
  go_upto_if 8 with fail
  go_cut [0] from 7 to 7 (fun s wx => s = .int .i64 (max 1 n) ∧ wx = w.alloc (.cells #[.slice none 0 0, .int .i64 0] 37))
  case first =>
    go_wp2_with fail
    all_goals (go_meet; refine ⟨?_, rfl⟩; congr 1; omega)
  case rest =>
    obtain ⟨rfl, rfl⟩ := hcut
    go_upto_if 10 with fail
    go_cut [0] from 9 to 9 (fun s wx => s = .int .i64 (clampN n) ∧ wx = w.alloc (.cells #[.slice none 0 0, .int .i64 0] 37))
    case first =>
      go_wp2_with fail
      all_goals (go_meet; refine ⟨?_, rfl⟩; unfold clampN; congr 1; omega)
    case rest =>
      obtain ⟨rfl, rfl⟩ := hcut
      obtain ⟨N, hN⟩ : ∃ N : Nat, clampN n = N := ⟨(clampN n).toNat, by omega⟩
      rw [hN] at hlo hhi ⊢
      have HN := Lib.hid hN
      clear hN
      go_upto_if 12 with fail
      go_cut [1] from 11 to 11 (fun s wx => s = .int .i64 (max 0 me) ∧ wx = w.alloc (.cells #[.slice none 0 0, .int .i64 0] 37))
      case first =>
        go_wp2_with fail
        all_goals (go_meet; refine ⟨?_, rfl⟩; congr 1; omega)
      case rest =>
        obtain ⟨rfl, rfl⟩ := hcut
        go_upto_if 16 with fail
        go_cut [1] from 13 to 18 (fun s wx => s = .int .i64 (clampM N me) ∧ wx = w.alloc (.cells #[.slice none 0 0, .int .i64 0] 37))
        case first =>
          go_wp2_with fail
          all_goals (go_meet; refine ⟨?_, rfl⟩; unfold clampM; congr 1; omega)
        case rest =>
          obtain ⟨rfl, rfl⟩ := hcut
          have hM0 : 0 ≤ clampM N me := by unfold clampM; omega
          generalize hM : clampM N me = M at *
          have HM := Lib.hid hM
          clear hM
          go_wp2_with fail
          obtain ⟨k1, k2⟩ := two_blocks w (.cells #[.slice none 0 0, .int .i64 0] 37) (.cells #[.slice none 0 0, .int .i64 M] 37)
          have hcc := ((Chg.refl [] w).alloc (.cells #[.slice none 0 0, .int .i64 0] 37)).alloc (.cells #[.slice none 0 0, .int .i64 M] 37)
          obtain ⟨BR, hBR⟩ : ∃ b, w.heap.size = b := ⟨_, rfl⟩
          obtain ⟨BG, hBG⟩ : ∃ b, w.heap.size + 1 = b := ⟨_, rfl⟩
          rw [hBG] at k2 ⊢
          rw [hBR] at k1 ⊢
          generalize (w.alloc (.cells #[.slice none 0 0, .int .i64 0] 37)).alloc (.cells #[.slice none 0 0, .int .i64 M] 37) = W2 at *
          have l1 := lt_of_some k1
          have l2 := lt_of_some k2
          have hne : BR ≠ BG := by omega
          have HBR := Lib.hid hBR
          have HBG := Lib.hid hBG
          clear hBR hBG
          obtain ⟨BB, hBB⟩ : ∃ b, W2.heap.size = b := ⟨_, rfl⟩
          rw [hBB] at l1 l2
          have hwBB : w.heap.size ≤ BB := by rw [← hBB]; exact hcc.size
          go_loopw [6] (fun i wr => ∃ (k : Nat) (v : Value), k ≤ N ∧ i = .int .i64 k ∧ wr.heap[BR]? = some (.cells #[.slice none 0 0, .int .i64 0] 37) ∧ wr.heap[BG]? = some (.cells #[v, .int .i64 M] 37) ∧
              wr.ownsRow BB 44 2 v k (zerosX k) ∧ Chg [] w wr ∧ BB ≤ wr.heap.size) (fun i _ => N - (intOf i).toNat)
          case atStart => exact ⟨0, _, by omega, rfl, k1, k2, World.ownsRow_nil _ _ _ _, hcc, by omega⟩
          case round =>
            obtain ⟨k, v, hk, rfl, hr, hg, hown, hcr, hsz⟩ := hrel
            have c0 : wr.cell? ⟨BG, 0, none⟩ = some v := by rw [cell_of_block hg]; rfl
            have c1 : wr.cell? ⟨BG, 1, none⟩ = some (.int .i64 M) := by rw [cell_of_block hg]; rfl
            have f0 := free_of_block hg 0
            by_cases hlt : k < N
            · go_wp2_with (at_builtin; refine wpList_append_own _ rfl (.tmp 27) (.tmp 29) 35 rfl BB 44 i0 (.agg #[.int .u64 0, .bool false]) 2 16 Try.underlying35 hi hz0 hz1 hz2 rfl (by decide) v k (zerosX k) rfl (hown.alloc _) ⟨wr.heap.size, 0, none⟩ 1 1 [.int .u64 0, .bool false] rfl rfl ?c1 ?c2 ?c3 ?c4 ?c5 ?_)
              case c1 =>
                intro j u hj
                match j, hj with
                | 0, hj => simp at hj; subst hj; rw [show (Addr.add ⟨wr.heap.size, 0, none⟩ 0) = ⟨wr.heap.size, 0, none⟩ from rfl, cell_of_block (block_new _ _)]; rfl
                | 1, hj => simp at hj; subst hj; rw [show (Addr.add ⟨wr.heap.size, 0, none⟩ 1) = ⟨wr.heap.size, 1, none⟩ from rfl, cell_of_block (block_new _ _)]; rfl
              case c2 => intro u hu; simp at hu; rcases hu with rfl | rfl <;> rfl
              case c3 => unfold maxLen; omega
              case c4 => omega
              case c5 => simp; omega
              intro v' w1 hown' hgrow _
              obtain ⟨g', cap', rfl, hb', hlt', _, _⟩ := owned_shape hown' (by omega)
              have hv : ∀ q, v.ownBlock = some q → BB ≤ q := fun q hq => (hown.lt q hq).1
              have hcg : Chg [] w w1 := (hcr.alloc _).then (Chg.of_grown (S := v.ownBlock.toList) hgrow (by simp)) (by simp; intro q hq; have := hv q hq; omega)
              have kr := block_alloc (o' := .cells #[.int .u64 0, .bool false] 44) hr
              have kg := block_alloc (o' := .cells #[.int .u64 0, .bool false] 44) hg
              have hgr := Chg.of_grown (S := v.ownBlock.toList) hgrow (by simp)
              have kr' := hgr.at kr (by simp; intro hq; have := hv _ hq; omega)
              have kg' := hgr.at kg (by simp; intro hq; have := hv _ hq; omega)
              have c0' : w1.cell? ⟨BG, 0, none⟩ = some v := by rw [cell_of_block kg']; rfl
              have f0' := free_of_block kg' 0
              go_wp2_with fail
              go_roundw
              case rel =>
                refine ⟨k + 1, _, by omega, by go_num, ?_, block_set kg', ?_, hcg.setCell (.inr (by have := HBG.out; simp; omega)) _, ?_⟩
                · rw [block_set_ne hne]; exact kr'
                · rw [zerosX_succ]; exact ownsRow_setCell_below hown' (by simp; omega) _
                · have := hgrow.size; simp at this ⊢; omega
              case measure => simp [intOf]; omega
            · obtain rfl : k = N := by omega
              obtain ⟨gl, cap, rfl, hb', hlt', hcap, hmax⟩ := owned_shape hown (by omega)
              have r0 : wr.cell? ⟨BR, 0, none⟩ = some (.slice none 0 0) := by rw [cell_of_block hr]; rfl
              have r1 : wr.cell? ⟨BR, 1, none⟩ = some (.int .i64 0) := by rw [cell_of_block hr]; rfl
              have fr0 := free_of_block hr 0
              have fr1 := free_of_block hr 1
              go_wp2_with fail
              have hbr : (((wr.setCell ⟨BR, 0, none⟩ (.slice (some ⟨gl, 0, none⟩) k cap)).setCell ⟨BR, 1, none⟩ (.int .i64 M))).heap[BR]? = some (.cells #[.slice (some ⟨gl, 0, none⟩) k cap, .int .i64 M] 37) := by
                rw [block_set (block_set hr)]; rfl
              have hch : Chg [] w (((wr.setCell ⟨BR, 0, none⟩ (.slice (some ⟨gl, 0, none⟩) k cap)).setCell ⟨BR, 1, none⟩ (.int .i64 M))) := (hcr.setCell (.inr (by have := HBR.out; simp; omega)) _).setCell (.inr (by have := HBR.out; simp; omega)) _
              have hne2 : gl ≠ BR := by omega
              have hblk : (((wr.setCell ⟨BR, 0, none⟩ (.slice (some ⟨gl, 0, none⟩) k cap)).setCell ⟨BR, 1, none⟩ (.int .i64 M))).heap[gl]? = wr.heap[gl]? := by rw [block_set_ne hne2, block_set_ne hne2]
              generalize (wr.setCell ⟨BR, 0, none⟩ (.slice (some ⟨gl, 0, none⟩) k cap)).setCell ⟨BR, 1, none⟩ (.int .i64 M) = WF at *
              have q0 : WF.cell? ⟨BR, 0, none⟩ = some (.slice (some ⟨gl, 0, none⟩) k cap) := by rw [cell_of_block hbr]; rfl
              have q1 : WF.cell? ⟨BR, 1, none⟩ = some (.int .i64 M) := by rw [cell_of_block hbr]; rfl
              refine bodyPost_ret (v := .agg #[.slice (some ⟨gl, 0, none⟩) k cap, .int .i64 M]) (by simp [results, Try.results13, go_sem, q0, q1]) rfl ?_
              have hG : newG n me = ⟨List.replicate k 0, List.replicate k false, M⟩ := by
                simp only [newG, HN.out, Int.toNat_natCast, HM.out]
              have hx := fun j hj => (World.cell?_of_block (a := ⟨gl, j, none⟩) hblk).trans (hown.cellAt j hj)
              refine ⟨gl, cap, by rw [hG]; simp [gVal], ⟨fun i hi => ?_, fun i hi => ?_, ?_, ?_, hmax⟩, hch, by omega⟩
              · rw [hG] at hi ⊢
                simp at hi
                rw [hx _ (by omega), (zerosX_get k i hi).1]; simp [List.getD, hi]
              · rw [hG] at hi ⊢
                simp at hi
                rw [hx _ (by omega), (zerosX_get k i hi).2]; simp [List.getD, hi]
              · obtain ⟨cs, hcs⟩ := owned_ty hown
                exact ⟨cs, by rw [hblk]; exact hcs⟩
              · rw [hG]; simpa using hcap

def GM.put (g : GM) (p : Nat) (t : Int) (b : Bool) : GM := { told := g.told.set p t, gone := g.gone.set p b, me := g.me }
theorem isR.put {w : World} {bl cap p : Nat} {g : GM} (H : isR w bl cap g) (hl : g.gone.length = g.told.length) (hp : p < g.told.length) (t : Int) (b : Bool) :
    isR ((w.setCell ⟨bl, p * 2, none⟩ (.int .u64 t)).setCell ⟨bl, p * 2 + 1, none⟩ (.bool b)) bl cap (g.put p t b) := by
  refine ⟨fun i hi => ?_, fun i hi => ?_, (H.ty.set _ _).set _ _, by simpa [GM.put] using H.hc, H.hm⟩
  · simp only [GM.put, List.length_set] at hi ⊢
    rw [cell_set_ne (by simp only [ne_eq, Addr.mk.injEq]; omega)]
    by_cases e : i = p
    · subst e; rw [cell_set_eq (H.ct i hi)]; simp [List.getD, hi]
    · rw [cell_set_ne (by simp only [ne_eq, Addr.mk.injEq]; omega), H.ct i hi]; simp [List.getD, List.getElem?_set, Ne.symm e]
  · simp only [GM.put, List.length_set] at hi ⊢
    by_cases e : i = p
    · subst e
      have h1 : (w.setCell ⟨bl, i * 2, none⟩ (.int .u64 t)).cell? ⟨bl, i * 2 + 1, none⟩ = some (.bool (g.gone.getD i false)) := by rw [cell_set_ne (by simp)]; exact H.cg i hi
      rw [cell_set_eq h1]; simp [List.getD, hl, hi]
    · rw [cell_set_ne (by simp only [ne_eq, Addr.mk.injEq]; omega), cell_set_ne (by simp only [ne_eq, Addr.mk.injEq]; omega), H.cg i hi]; simp [List.getD, List.getElem?_set, Ne.symm e]

def RWithPost (g : GM) (w : World) (e : Ending) (w' : World) : Prop := ∃ bl cap, e = .returned (gVal bl cap g) ∧ isR w' bl cap g ∧ Chg [] w w' ∧ w.heap.size ≤ bl

set_option maxHeartbeats 1000000 in
theorem with_any {bl cap p : Nat} {g : GM} (t : Int) (b : Bool) (w : World) (H : isR w bl cap g) (hl : g.gone.length = g.told.length) (hp : p < g.told.length) (h2 : g.told.length ≤ 64) :
    Calls Try.prog 21 #[gVal bl cap g, .int .i64 p, .agg #[.int .u64 t, .bool b]] w (RWithPost (g.put p t b) w) := by
  obtain ⟨i0, hi, hz0, hz1, hz2⟩ := info_parts Try.info_X
  unfold gVal
  go_enter Try.func21, Try.ntmps21
  go_upto_region 1 with fail
  obtain ⟨k1, k2, k3⟩ := three_blocks w (.cells #[.slice (some ⟨bl, 0, none⟩) g.told.length cap, .int .i64 g.me] 37) (.cells #[.int .u64 t, .bool b] 44) (.cells #[.slice none 0 0, .int .i64 0] 37)
  have hcc := (((Chg.refl [] w).alloc (.cells #[.slice (some ⟨bl, 0, none⟩) g.told.length cap, .int .i64 g.me] 37)).alloc (.cells #[.int .u64 t, .bool b] 44)).alloc (.cells #[.slice none 0 0, .int .i64 0] 37)
  obtain ⟨B0, e0⟩ : ∃ x, w.heap.size = x := ⟨_, rfl⟩
  obtain ⟨B1, e1⟩ : ∃ x, w.heap.size + 1 = x := ⟨_, rfl⟩
  obtain ⟨B2, e2⟩ : ∃ x, w.heap.size + 1 + 1 = x := ⟨_, rfl⟩
  have hd : B0 < B1 ∧ B1 < B2 ∧ w.heap.size ≤ B0 := by omega
  rw [e2] at k3 ⊢
  rw [e1] at k2 ⊢
  rw [e0] at k1 ⊢
  clear e0 e1 e2
  have H3 := H.keep hcc (by simp)
  generalize ((w.alloc (.cells #[.slice (some ⟨bl, 0, none⟩) g.told.length cap, .int .i64 g.me] 37)).alloc (.cells #[.int .u64 t, .bool b] 44)).alloc (.cells #[.slice none 0 0, .int .i64 0] 37) = W at *
  have m1 := lt_of_some k1
  have m2 := lt_of_some k2
  have m3 := lt_of_some k3
  have a0 : W.cell? ⟨B0, 0, none⟩ = some (.slice (some ⟨bl, 0, none⟩) g.told.length cap) := by rw [cell_of_block k1]; rfl
  have hpc := pairs_cells (w := W.alloc (.cells #[] 44)) (bl := bl) (o := 0) (n := g.told.length) (a := fun i => .int .u64 (g.told.getD i 0)) (b := fun i => .bool (g.gone.getD i false))
    (fun i hi => by rw [Nat.zero_add]; exact (H3.keep ((Chg.refl [] _).alloc _) (by simp)).ct i hi) (fun i hi => by rw [Nat.zero_add]; exact (H3.keep ((Chg.refl [] _).alloc _) (by simp)).cg i hi)
  have hp1 := pairs_one (fun i => .int .u64 (g.told.getD i 0)) (fun i => .bool (g.gone.getD i false)) (fun _ => rfl) (fun _ => rfl) g.told.length
  have hpl := pairs_len (fun i => .int .u64 (g.told.getD i 0)) (fun i => .bool (g.gone.getD i false)) g.told.length
  have HP := Lib.hid hpc
  have HP1 := Lib.hid hp1
  have HPL := Lib.hid hpl
  clear hpc hp1 hpl
  go_wp2_with (at_builtin; refine wpList_append_own _ rfl (.tmp 8) (.tmp 10) 35 rfl W.heap.size 44 i0 (.agg #[.int .u64 0, .bool false]) 2 16 Try.underlying35 hi hz0 hz1 hz2 rfl (by decide) _ 0 [] rfl (World.ownsRow_lit W #[] 0 (Nat.le_refl _) (Nat.zero_le _) rfl) ⟨bl, 0, none⟩ g.told.length cap (pairs (fun i => .int .u64 (g.told.getD i 0)) (fun i => .bool (g.gone.getD i false)) g.told.length) rfl HPL.out HP.out HP1.out ?c3 ?c4 ?c5 ?_)
  case c3 => unfold maxLen; omega
  case c4 => omega
  case c5 => simp
  intro v' w1 hown hgrow _
  obtain ⟨gl, cap', rfl, hb', hlt', hcap, hmax⟩ := owned_shape hown (by omega)
  try simp only [Nat.zero_add, List.nil_append] at hown
  try simp only [Nat.zero_add] at hcap
  try simp only [Nat.zero_add]
  have hgr := Chg.of_grown (S := [W.heap.size]) hgrow (by simp [Value.ownBlock])
  have hlq : W.heap.size ≤ gl := hb'
  have k1' := hgr.at (block_alloc (o' := .cells #[] 44) k1) (by simp; omega)
  have k2' := hgr.at (block_alloc (o' := .cells #[] 44) k2) (by simp; omega)
  have k3' := hgr.at (block_alloc (o' := .cells #[] 44) k3) (by simp; omega)
  have hc1 : Chg [] w w1 := (hcc.alloc _).then hgr (by simp; have := hcc.size; omega)
  have R1 : isR w1 gl cap' g := ⟨fun i hi => by rw [hown.cellAt _ (by omega), (pairs_get _ _ _ i hi).1]; rfl, fun i hi => by rw [hown.cellAt _ (by omega), (pairs_get _ _ _ i hi).2]; rfl, owned_ty hown, hcap, hmax⟩
  have hfz := fun j => hown.frozenAt j
  have R2 := R1.put hl hp t b
  have x0 := R1.ct p hp
  have x1 := R1.cg p hp
  have z0 := hfz (p * 2)
  have z1 := hfz (p * 2 + 1)
  clear hgrow hown hfz HP HP1 HPL hgr H3 a0
  have b0 : w1.cell? ⟨B1, 0, none⟩ = some (.int .u64 t) := by rw [cell_of_block k2']; rfl
  have b1 : w1.cell? ⟨B1, 1, none⟩ = some (.bool b) := by rw [cell_of_block k2']; rfl
  go_upto_region 3 with fail
  have q1 : ((w1.setCell ⟨gl, p * 2, none⟩ (.int .u64 t)).setCell ⟨gl, p * 2 + 1, none⟩ (.bool b)).heap[B0]? = some (.cells #[.slice (some ⟨bl, 0, none⟩) g.told.length cap, .int .i64 g.me] 37) := by
    rw [block_set_ne (by omega), block_set_ne (by omega)]; exact k1'
  have q3 : ((w1.setCell ⟨gl, p * 2, none⟩ (.int .u64 t)).setCell ⟨gl, p * 2 + 1, none⟩ (.bool b)).heap[B2]? = some (.cells #[.slice none 0 0, .int .i64 0] 37) := by
    rw [block_set_ne (by omega), block_set_ne (by omega)]; exact k3'
  have hlw := hcc.size
  have hc2 : Chg [] w ((w1.setCell ⟨gl, p * 2, none⟩ (.int .u64 t)).setCell ⟨gl, p * 2 + 1, none⟩ (.bool b)) := (hc1.setCell (.inr (by simp; omega)) _).setCell (.inr (by simp; omega)) _
  clear x0 x1 z0 z1 b0 b1 k1' k2' k3' R1 hc1
  generalize (w1.setCell ⟨gl, p * 2, none⟩ (.int .u64 t)).setCell ⟨gl, p * 2 + 1, none⟩ (.bool b) = W5 at *
  have a0 : W5.cell? ⟨B0, 0, none⟩ = some (.slice (some ⟨bl, 0, none⟩) g.told.length cap) := by rw [cell_of_block q1]; rfl
  have a1 : W5.cell? ⟨B0, 1, none⟩ = some (.int .i64 g.me) := by rw [cell_of_block q1]; rfl
  have a2 := free_of_block q1 0
  have a3 : W5.cell? ⟨B2, 0, none⟩ = some (.slice none 0 0) := by rw [cell_of_block q3]; rfl
  have a4 : W5.cell? ⟨B2, 1, none⟩ = some (.int .i64 0) := by rw [cell_of_block q3]; rfl
  have a5 := free_of_block q3 0
  have a6 := free_of_block q3 1
  go_wp2_with fail
  have hF : (((W5.setCell ⟨B0, 0, none⟩ (.slice (some ⟨gl, 0, none⟩) g.told.length cap')).setCell ⟨B2, 0, none⟩ (.slice (some ⟨gl, 0, none⟩) g.told.length cap')).setCell ⟨B2, 1, none⟩ (.int .i64 g.me)).heap[B2]? = some (.cells #[.slice (some ⟨gl, 0, none⟩) g.told.length cap', .int .i64 g.me] 37) := by
    rw [block_set (block_set ((block_set_ne (by omega)).trans q3))]; rfl
  have hcF : Chg [] w (((W5.setCell ⟨B0, 0, none⟩ (.slice (some ⟨gl, 0, none⟩) g.told.length cap')).setCell ⟨B2, 0, none⟩ (.slice (some ⟨gl, 0, none⟩) g.told.length cap')).setCell ⟨B2, 1, none⟩ (.int .i64 g.me)) :=
    ((hc2.setCell (.inr (by simp; omega)) _).setCell (.inr (by simp; omega)) _).setCell (.inr (by simp; omega)) _
  have hcR : Chg [B0, B2] W5 (((W5.setCell ⟨B0, 0, none⟩ (.slice (some ⟨gl, 0, none⟩) g.told.length cap')).setCell ⟨B2, 0, none⟩ (.slice (some ⟨gl, 0, none⟩) g.told.length cap')).setCell ⟨B2, 1, none⟩ (.int .i64 g.me)) :=
    (((Chg.refl _ _).setCell (.inl (by simp)) _).setCell (.inl (by simp)) _).setCell (.inl (by simp)) _
  have RF := R2.keep hcR (by simp; omega)
  generalize ((W5.setCell ⟨B0, 0, none⟩ (.slice (some ⟨gl, 0, none⟩) g.told.length cap')).setCell ⟨B2, 0, none⟩ (.slice (some ⟨gl, 0, none⟩) g.told.length cap')).setCell ⟨B2, 1, none⟩ (.int .i64 g.me) = WF at *
  have v0 : WF.cell? ⟨B2, 0, none⟩ = some (.slice (some ⟨gl, 0, none⟩) g.told.length cap') := by rw [cell_of_block hF]; rfl
  have v1 : WF.cell? ⟨B2, 1, none⟩ = some (.int .i64 g.me) := by rw [cell_of_block hF]; rfl
  refine bodyPost_ret (v := .agg #[.slice (some ⟨gl, 0, none⟩) g.told.length cap', .int .i64 g.me]) (by simp [results, Try.results21, go_sem, v0, v1]) rfl ?_
  exact ⟨gl, cap', by simp [gVal, GM.put], RF, hcF, by omega⟩

theorem with_lit {bl cap p : Nat} {g : GM} (t : Int) (b : Bool) (w : World) (H : isR w bl cap g) (hl : g.gone.length = g.told.length) (hp : p < g.told.length) (h2 : g.told.length ≤ 64) :
    Calls Try.prog 21 #[.agg #[.slice (some ⟨bl, 0, none⟩) g.told.length cap, .int .i64 g.me], .int .i64 p, .agg #[.int .u64 t, .bool b]] w fun e w' =>
      ∃ bq cq, e = .returned (.agg #[.slice (some ⟨bq, 0, none⟩) g.told.length cq, .int .i64 g.me]) ∧ isR w' bq cq (g.put p t b) ∧ Chg [] w w' ∧ w.heap.size ≤ bq :=
  (with_any t b w H hl hp h2).mono fun e w' ⟨bq, cq, h1, h2, h3, h4⟩ => ⟨bq, cq, by rw [h1]; simp [gVal, GM.put], h2, h3, h4⟩

/-! ### Tell, Gone, Limit, Left -/
def RTellPost (r : Bool) (g : GM) (w : World) (e : Ending) (w' : World) : Prop := ∃ bl cap, e = .returned (.tuple #[gVal bl cap g, .bool r]) ∧ isR w' bl cap g ∧ Chg [] w w'

theorem GM.tell_put {g : GM} {p : Nat} {u : Int} (hl : g.gone.length = g.told.length) (h : g.tells p u = true) : g.tell p u = g.put p u (g.gone.getD p false) := by
  have hp : p < g.told.length := by
    simp [GM.tells, GM.there] at h; omega
  simp only [GM.tell, h, if_true, GM.put, Int.toNat_natCast]
  congr 1
  rw [List.getD_eq_getElem?_getD, List.getElem?_eq_getElem (by omega)]; simp
theorem GM.go_put {g : GM} {p : Nat} (hl : g.gone.length = g.told.length) (h : g.goes p = true) : g.go p = g.put p (g.told.getD p 0) true := by
  have hp : p < g.told.length := by
    simp [GM.goes, GM.there] at h; omega
  simp only [GM.go, h, if_true, GM.put, Int.toNat_natCast]
  congr 1
  rw [List.getD_eq_getElem?_getD, List.getElem?_eq_getElem (by omega)]; simp


set_option maxHeartbeats 2000000 in
theorem rtell_any {bl cap : Nat} {g : GM} (p u : Int) (w : World) (H : isR w bl cap g) (hl : g.gone.length = g.told.length) (h2 : g.told.length ≤ 64) :
    Calls Try.prog 15 #[gVal bl cap g, .int .i64 p, .int .u64 u] w (RTellPost (g.tells p u) (g.tell p u) w) := by
  unfold gVal
  go_enter Try.func15, Try.ntmps15
  go_upto_region 1 with fail
  obtain ⟨k1, k2⟩ := two_blocks w (.cells #[.slice (some ⟨bl, 0, none⟩) g.told.length cap, .int .i64 g.me] 37) (.cells #[.slice none 0 0, .int .i64 0] 37)
  have hcc := ((Chg.refl [] w).alloc (.cells #[.slice (some ⟨bl, 0, none⟩) g.told.length cap, .int .i64 g.me] 37)).alloc (.cells #[.slice none 0 0, .int .i64 0] 37)
  obtain ⟨B0, e0⟩ : ∃ x, w.heap.size = x := ⟨_, rfl⟩
  obtain ⟨B1, e1⟩ : ∃ x, w.heap.size + 1 = x := ⟨_, rfl⟩
  have hd : B0 < B1 ∧ w.heap.size ≤ B0 := by omega
  have hblt := H.lt
  rw [e1] at k2 ⊢
  rw [e0] at k1 hblt ⊢
  have H3 := H.keep hcc (by simp)
  clear e0 e1
  generalize (w.alloc (.cells #[.slice (some ⟨bl, 0, none⟩) g.told.length cap, .int .i64 g.me] 37)).alloc (.cells #[.slice none 0 0, .int .i64 0] 37) = W at *
  have a0 : W.cell? ⟨B0, 0, none⟩ = some (.slice (some ⟨bl, 0, none⟩) g.told.length cap) := by rw [cell_of_block k1]; rfl
  have a1 : W.cell? ⟨B0, 1, none⟩ = some (.int .i64 g.me) := by rw [cell_of_block k1]; rfl
  have a3 : W.cell? ⟨B1, 0, none⟩ = some (.slice none 0 0) := by rw [cell_of_block k2]; rfl
  have a4 : W.cell? ⟨B1, 1, none⟩ = some (.int .i64 0) := by rw [cell_of_block k2]; rfl
  have a5 := free_of_block k2 0
  have a6 := free_of_block k2 1
  have hF : ((W.setCell ⟨B1, 0, none⟩ (.slice (some ⟨bl, 0, none⟩) g.told.length cap)).setCell ⟨B1, 1, none⟩ (.int .i64 g.me)).heap[B1]? = some (.cells #[.slice (some ⟨bl, 0, none⟩) g.told.length cap, .int .i64 g.me] 37) := by
    rw [block_set (block_set k2)]; rfl
  have hcF : Chg [] w ((W.setCell ⟨B1, 0, none⟩ (.slice (some ⟨bl, 0, none⟩) g.told.length cap)).setCell ⟨B1, 1, none⟩ (.int .i64 g.me)) := (hcc.setCell (.inr (by simp; omega)) _).setCell (.inr (by simp; omega)) _
  have RF := H3.keep (S := [B1]) (w' := (W.setCell ⟨B1, 0, none⟩ (.slice (some ⟨bl, 0, none⟩) g.told.length cap)).setCell ⟨B1, 1, none⟩ (.int .i64 g.me)) (((Chg.refl _ _).setCell (.inl (by simp)) _).setCell (.inl (by simp)) _) (by simp; omega)
  have v0 : ((W.setCell ⟨B1, 0, none⟩ (.slice (some ⟨bl, 0, none⟩) g.told.length cap)).setCell ⟨B1, 1, none⟩ (.int .i64 g.me)).cell? ⟨B1, 0, none⟩ = some (.slice (some ⟨bl, 0, none⟩) g.told.length cap) := by rw [cell_of_block hF]; rfl
  have v1 : ((W.setCell ⟨B1, 0, none⟩ (.slice (some ⟨bl, 0, none⟩) g.told.length cap)).setCell ⟨B1, 1, none⟩ (.int .i64 g.me)).cell? ⟨B1, 1, none⟩ = some (.int .i64 g.me) := by rw [cell_of_block hF]; rfl
  have V0 := Lib.hid v0
  have V1 := Lib.hid v1
  clear v0 v1 hF
  have hno : ∀ X : World, X = (W.setCell ⟨B1, 0, none⟩ (.slice (some ⟨bl, 0, none⟩) g.told.length cap)).setCell ⟨B1, 1, none⟩ (.int .i64 g.me) → g.tells p u = false → (RTellPost (g.tells p u) (g.tell p u) w) (.returned (.tuple #[.agg #[.slice (some ⟨bl, 0, none⟩) g.told.length cap, .int .i64 g.me], .bool (g.tells p u)])) X := by
    rintro X rfl hx
    exact ⟨bl, cap, by simp [gVal, GM.tell, hx], by simpa [GM.tell, hx] using RF, hcF⟩
  cases hth : g.there p with
  | false =>
    have hx : g.tells p u = false := by simp [GM.tells, hth]
    have HXX := Lib.hid hx
    clear hx
    have hpp : ¬ (0 ≤ p ∧ p < g.told.length) := by simpa [GM.there] using hth
    by_cases hp0 : p < 0
    all_goals
      go_wp2_with fail
      refine bodyPost_ret (v := .tuple #[.agg #[.slice (some ⟨bl, 0, none⟩) g.told.length cap, .int .i64 g.me], .bool (g.tells p u)]) (by simp [results, Try.results15, go_sem, V0.out, V1.out, HXX.out]) rfl ?_
      exact hno _ rfl HXX.out
  | true =>
    obtain ⟨n, rfl, hn⟩ := GM.there_yes hth
    have x0 := H3.ct n hn
    have x1 := H3.cg n hn
    generalize hxx : g.told.getD n 0 = x at x0
    have HX := Lib.hid hxx
    clear hxx
    generalize hyy : g.gone.getD n false = y at x1
    have HY := Lib.hid hyy
    clear hyy
    by_cases hu : x < u
    · have hx : g.tells n u = true := by simp [GM.tells, hth, -List.getD_eq_getElem?_getD, HX.out, hu]
      have hq := GM.tell_put hl hx
      have HQ := Lib.hid hq
      have HT := Lib.hid hx
      clear hno RF hcF V0 V1
      clear hx hq
      have hd1 : decide (g.told.length ≤ n) = false := by simp; omega
      have hd2 : decide ((n : Int) < 0) = false := by simp
      have hd3 : decide (u ≤ x) = false := by simp; omega
      go_upto_region 3 with fail
      go_cut [6, 7] from 28 to 38 (fun s6 s7 wx => ∃ bl' cap', s6 = .pointer (some ⟨B1, 0, none⟩) ∧ s7 = .bool true ∧ isR wx bl' cap' (g.put n u y) ∧ wx.heap[B1]? = some (.cells #[.slice (some ⟨bl', 0, none⟩) g.told.length cap', .int .i64 g.me] 37) ∧ Chg [] w wx)
      case first =>
        go_region_with (go_at_call 21; refine (with_lit _ _ _ (H3.keep (S := []) ((Chg.refl _ _).drew) (by simp)) hl hn h2).mono ?_; rintro e w' ⟨bl', cap', rfl, R', hc', hb'⟩; have k2' := (Chg.of_drew hc').at k2 (by simp); have n0 : w'.cell? ⟨B1, 0, none⟩ = some (.slice none 0 0) := (by rw [cell_of_block k2']; rfl); have n1 : w'.cell? ⟨B1, 1, none⟩ = some (.int .i64 0) := (by rw [cell_of_block k2']; rfl); have n2 := free_of_block k2' 0; have n3 := free_of_block k2' 1)
        all_goals simp only [List.getElem_toArray, List.getElem_cons_succ, List.getElem_cons_zero, Act.put, List.setIfInBounds_toArray, List.set_cons_succ, List.set_cons_zero]
        all_goals go_wp2_with fail
        all_goals go_meet
        all_goals
          refine ⟨bl', cap', rfl, rfl, R'.keep (S := [B1]) (((Chg.refl _ _).setCell (.inl (by simp)) _).setCell (.inl (by simp)) _) (by have := lt_of_some k2; simp at hb' ⊢; omega), ?_, ((hcc.trans (Chg.of_drew hc')).setCell (.inr (by simp; omega)) _).setCell (.inr (by simp; omega)) _⟩
          rw [block_set (block_set k2')]; rfl
      case rest =>
        obtain ⟨bq, cq, rfl, rfl, R', hB, hcw⟩ := hcut
        have v0 : wc.cell? ⟨B1, 0, none⟩ = some (.slice (some ⟨bq, 0, none⟩) g.told.length cq) := by rw [cell_of_block hB]; rfl
        have v1 : wc.cell? ⟨B1, 1, none⟩ = some (.int .i64 g.me) := by rw [cell_of_block hB]; rfl
        go_wp2_with fail
        refine bodyPost_ret (v := .tuple #[.agg #[.slice (some ⟨bq, 0, none⟩) g.told.length cq, .int .i64 g.me], .bool true]) (by simp [results, Try.results15, go_sem, v0, v1]) rfl ?_
        rw [HT.out, HQ.out, HY.out]
        exact ⟨bq, cq, by simp [gVal, GM.put], R', hcw⟩
    · have hx : g.tells n u = false := by simp [GM.tells, hth, -List.getD_eq_getElem?_getD, HX.out]; omega
      have HXX := Lib.hid hx
      clear hx
      go_wp2_with fail
      refine bodyPost_ret (v := .tuple #[.agg #[.slice (some ⟨bl, 0, none⟩) g.told.length cap, .int .i64 g.me], .bool (g.tells n u)]) (by simp [results, Try.results15, go_sem, V0.out, V1.out, HXX.out]) rfl ?_
      exact hno _ rfl HXX.out
def RGonePost (r : Int) (g : GM) (w : World) (e : Ending) (w' : World) : Prop := ∃ bl cap, e = .returned (.tuple #[gVal bl cap g, .int .i64 r]) ∧ isR w' bl cap g ∧ Chg [] w w'

set_option maxHeartbeats 2000000 in
theorem rgone_any {bl cap : Nat} {g : GM} (p : Int) (w : World) (H : isR w bl cap g) (hl : g.gone.length = g.told.length) (h2 : g.told.length ≤ 64) :
    Calls Try.prog 14 #[gVal bl cap g, .int .i64 p] w (RGonePost (g.goesN p) (g.go p) w) := by
  unfold gVal
  go_enter Try.func14, Try.ntmps14
  go_upto_region 1 with fail
  obtain ⟨k1, k2⟩ := two_blocks w (.cells #[.slice (some ⟨bl, 0, none⟩) g.told.length cap, .int .i64 g.me] 37) (.cells #[.slice none 0 0, .int .i64 0] 37)
  have hcc := ((Chg.refl [] w).alloc (.cells #[.slice (some ⟨bl, 0, none⟩) g.told.length cap, .int .i64 g.me] 37)).alloc (.cells #[.slice none 0 0, .int .i64 0] 37)
  obtain ⟨B0, e0⟩ : ∃ x, w.heap.size = x := ⟨_, rfl⟩
  obtain ⟨B1, e1⟩ : ∃ x, w.heap.size + 1 = x := ⟨_, rfl⟩
  have hd : B0 < B1 ∧ w.heap.size ≤ B0 := by omega
  have hblt := H.lt
  rw [e1] at k2 ⊢
  rw [e0] at k1 hblt ⊢
  have H3 := H.keep hcc (by simp)
  clear e0 e1
  generalize (w.alloc (.cells #[.slice (some ⟨bl, 0, none⟩) g.told.length cap, .int .i64 g.me] 37)).alloc (.cells #[.slice none 0 0, .int .i64 0] 37) = W at *
  have a0 : W.cell? ⟨B0, 0, none⟩ = some (.slice (some ⟨bl, 0, none⟩) g.told.length cap) := by rw [cell_of_block k1]; rfl
  have a1 : W.cell? ⟨B0, 1, none⟩ = some (.int .i64 g.me) := by rw [cell_of_block k1]; rfl
  have a3 : W.cell? ⟨B1, 0, none⟩ = some (.slice none 0 0) := by rw [cell_of_block k2]; rfl
  have a4 : W.cell? ⟨B1, 1, none⟩ = some (.int .i64 0) := by rw [cell_of_block k2]; rfl
  have a5 := free_of_block k2 0
  have a6 := free_of_block k2 1
  have hF : ((W.setCell ⟨B1, 0, none⟩ (.slice (some ⟨bl, 0, none⟩) g.told.length cap)).setCell ⟨B1, 1, none⟩ (.int .i64 g.me)).heap[B1]? = some (.cells #[.slice (some ⟨bl, 0, none⟩) g.told.length cap, .int .i64 g.me] 37) := by
    rw [block_set (block_set k2)]; rfl
  have hcF : Chg [] w ((W.setCell ⟨B1, 0, none⟩ (.slice (some ⟨bl, 0, none⟩) g.told.length cap)).setCell ⟨B1, 1, none⟩ (.int .i64 g.me)) := (hcc.setCell (.inr (by simp; omega)) _).setCell (.inr (by simp; omega)) _
  have RF := H3.keep (S := [B1]) (w' := (W.setCell ⟨B1, 0, none⟩ (.slice (some ⟨bl, 0, none⟩) g.told.length cap)).setCell ⟨B1, 1, none⟩ (.int .i64 g.me)) (((Chg.refl _ _).setCell (.inl (by simp)) _).setCell (.inl (by simp)) _) (by simp; omega)
  have v0 : ((W.setCell ⟨B1, 0, none⟩ (.slice (some ⟨bl, 0, none⟩) g.told.length cap)).setCell ⟨B1, 1, none⟩ (.int .i64 g.me)).cell? ⟨B1, 0, none⟩ = some (.slice (some ⟨bl, 0, none⟩) g.told.length cap) := by rw [cell_of_block hF]; rfl
  have v1 : ((W.setCell ⟨B1, 0, none⟩ (.slice (some ⟨bl, 0, none⟩) g.told.length cap)).setCell ⟨B1, 1, none⟩ (.int .i64 g.me)).cell? ⟨B1, 1, none⟩ = some (.int .i64 g.me) := by rw [cell_of_block hF]; rfl
  have V0 := Lib.hid v0
  have V1 := Lib.hid v1
  clear v0 v1 hF
  have hno : ∀ X : World, X = (W.setCell ⟨B1, 0, none⟩ (.slice (some ⟨bl, 0, none⟩) g.told.length cap)).setCell ⟨B1, 1, none⟩ (.int .i64 g.me) → g.goes p = false → (RGonePost (g.goesN p) (g.go p) w) (.returned (.tuple #[.agg #[.slice (some ⟨bl, 0, none⟩) g.told.length cap, .int .i64 g.me], .int .i64 (g.goesN p)])) X := by
    rintro X rfl hx
    exact ⟨bl, cap, by simp [gVal, GM.go, GM.goesN, hx], by simpa [GM.go, GM.goesN, hx] using RF, hcF⟩
  cases hth : g.there p with
  | false =>
    have hx : g.goes p = false := by simp [GM.goes, hth]
    have HXX := Lib.hid hx
    have HXN := Lib.hid (show g.goesN p = 0 by simp [GM.goesN, hx])
    clear hx
    have hpp : ¬ (0 ≤ p ∧ p < g.told.length) := by simpa [GM.there] using hth
    by_cases hp0 : p < 0
    all_goals
      go_wp2_with fail
      refine bodyPost_ret (v := .tuple #[.agg #[.slice (some ⟨bl, 0, none⟩) g.told.length cap, .int .i64 g.me], .int .i64 (g.goesN p)]) (by simp [results, Try.results14, go_sem, V0.out, V1.out, HXN.out]) rfl ?_
      exact hno _ rfl HXX.out
  | true =>
    obtain ⟨n, rfl, hn⟩ := GM.there_yes hth
    have x0 := H3.ct n hn
    have x1 := H3.cg n hn
    generalize hxx : g.told.getD n 0 = x at x0
    have HX := Lib.hid hxx
    clear hxx
    have hd1 : decide (g.told.length ≤ n) = false := by simp; omega
    have hd2 : decide ((n : Int) < 0) = false := by simp
    by_cases hme : (n : Int) = g.me
    · have hx : g.goes n = false := by simp [GM.goes, hme]
      have HXX := Lib.hid hx
      have HXN := Lib.hid (show g.goesN n = 0 by simp [GM.goesN, hx])
      have hd3 : ((n : Int) == g.me) = true := by simpa using hme
      clear hx hme
      go_wp2_with fail
      refine bodyPost_ret (v := .tuple #[.agg #[.slice (some ⟨bl, 0, none⟩) g.told.length cap, .int .i64 g.me], .int .i64 (g.goesN n)]) (by simp [results, Try.results14, go_sem, V0.out, V1.out, HXN.out]) rfl ?_
      exact hno _ rfl HXX.out
    · have hd3 : ((n : Int) == g.me) = false := by simpa using hme
      cases hgo : g.gone.getD n false with
      | true =>
        have hx : g.goes n = false := by simp only [GM.goes, Int.toNat_natCast, hgo]; simp
        have HXX := Lib.hid hx
        have HXN := Lib.hid (show g.goesN n = 0 by simp [GM.goesN, hx])
        rw [hgo] at x1
        clear hx hme hgo
        go_wp2_with fail
        refine bodyPost_ret (v := .tuple #[.agg #[.slice (some ⟨bl, 0, none⟩) g.told.length cap, .int .i64 g.me], .int .i64 (g.goesN n)]) (by simp [results, Try.results14, go_sem, V0.out, V1.out, HXN.out]) rfl ?_
        exact hno _ rfl HXX.out
      | false =>
        have hx : g.goes n = true := by simp only [GM.goes, Int.toNat_natCast, hgo, hth]; simpa using hme
        have hq := GM.go_put hl hx
        have HQ := Lib.hid hq
        have HT := Lib.hid (show g.goesN n = 1 by simp [GM.goesN, hx])
        clear hno RF hcF V0 V1
        rw [hgo] at x1
        clear hx hq hme hgo
        go_upto_region 3 with fail
        go_cut [4, 5] from 30 to 39 (fun s6 s7 wx => ∃ bl' cap', s6 = .pointer (some ⟨B1, 0, none⟩) ∧ s7 = .int .i64 1 ∧ isR wx bl' cap' (g.put n x true) ∧ wx.heap[B1]? = some (.cells #[.slice (some ⟨bl', 0, none⟩) g.told.length cap', .int .i64 g.me] 37) ∧ Chg [] w wx)
        case first =>
          go_region_with (go_at_call 21; refine (with_lit _ _ _ (H3.keep (S := []) ((Chg.refl _ _).drew) (by simp)) hl hn h2).mono ?_; rintro e w' ⟨bl', cap', rfl, R', hc', hb'⟩; have k2' := (Chg.of_drew hc').at k2 (by simp); have n0 : w'.cell? ⟨B1, 0, none⟩ = some (.slice none 0 0) := (by rw [cell_of_block k2']; rfl); have n1 : w'.cell? ⟨B1, 1, none⟩ = some (.int .i64 0) := (by rw [cell_of_block k2']; rfl); have n2 := free_of_block k2' 0; have n3 := free_of_block k2' 1)
          all_goals simp only [List.getElem_toArray, List.getElem_cons_succ, List.getElem_cons_zero, Act.put, List.setIfInBounds_toArray, List.set_cons_succ, List.set_cons_zero]
          all_goals go_wp2_with fail
          all_goals go_meet
          all_goals
            refine ⟨bl', cap', rfl, rfl, R'.keep (S := [B1]) (((Chg.refl _ _).setCell (.inl (by simp)) _).setCell (.inl (by simp)) _) (by have := lt_of_some k2; simp at hb' ⊢; omega), ?_, ((hcc.trans (Chg.of_drew hc')).setCell (.inr (by simp; omega)) _).setCell (.inr (by simp; omega)) _⟩
            rw [block_set (block_set k2')]; rfl
        case rest =>
          obtain ⟨bq, cq, rfl, rfl, R', hB, hcw⟩ := hcut
          have v0 : wc.cell? ⟨B1, 0, none⟩ = some (.slice (some ⟨bq, 0, none⟩) g.told.length cq) := by rw [cell_of_block hB]; rfl
          have v1 : wc.cell? ⟨B1, 1, none⟩ = some (.int .i64 g.me) := by rw [cell_of_block hB]; rfl
          go_wp2_with fail
          refine bodyPost_ret (v := .tuple #[.agg #[.slice (some ⟨bq, 0, none⟩) g.told.length cq, .int .i64 g.me], .int .i64 1]) (by simp [results, Try.results14, go_sem, v0, v1]) rfl ?_
          rw [HT.out, HQ.out, HX.out]
          exact ⟨bq, cq, by simp [gVal, GM.put], R', hcw⟩

end Go.Proofs.Ytdoebgbjpimkaaa
