/-
  GrantPlays: for every number of processes, every one of them as me, every row of acts, and every message's number: the program's answers and limits are the document's. No condition.
-/
import Derived.Test.YtdoebgbjpimkaaaGrantActs
import Derived.Test.YtdoebgbjpimkaaaRef17b
namespace Go.Proofs.Ytdoebgbjpimkaaa
open Go.ChangeShapes Go.WideShapes Go.ChangeAt Go.RowKit

theorem newG_gme (n me : Int) : (newG n me).gone.getD (newG n me).me.toNat false = false := by
  simp [newG, List.getD, List.getElem?_replicate]; split <;> rfl
theorem GM.act_gme (g : GM) (a : Act3) (m0 : 0 ≤ g.me) (h : g.gone.getD g.me.toNat false = false) : (g.act a).gone.getD (g.act a).me.toNat false = false := by
  rw [GM.act_me]
  cases hx : (g.act a).gone.getD g.me.toNat false with
  | false => rfl
  | true =>
    rcases GM.act_goneD g a _ hx with h1 | ⟨_, _, h3⟩
    · rw [h] at h1; cases h1
    · simp only [GM.goes, Bool.and_eq_true, bne_iff_ne] at h3
      obtain ⟨⟨h4, h5⟩, _⟩ := h3
      simp only [GM.there, decide_eq_true_eq] at h4
      omega
theorem GM.fold_gme (g : GM) (l : List Act3) (m0 : 0 ≤ g.me) (h : g.gone.getD g.me.toNat false = false) : (l.foldl GM.act g).gone.getD (l.foldl GM.act g).me.toNat false = false := by
  induction l generalizing g with
  | nil => exact h
  | cons a l ih => exact ih _ (by rw [GM.act_me]; exact m0) (GM.act_gme g a m0 h)

def GM.left (g : GM) (u : Int) : Int := if u < g.lim then g.lim - u else 0
section lit
variable {bl cap N : Nat} {M0 : Int} {g : GM} (hN : g.told.length = N) (hM : g.me = M0)
include hN hM
theorem rgone_lit (p : Int) (w : World) (H : isR w bl cap g) (wf : g.wf) :
    Calls Try.prog 14 #[.agg #[.slice (some ⟨bl, 0, none⟩) N cap, .int .i64 M0], .int .i64 p] w fun e w' =>
      ∃ bq cq, e = .returned (.tuple #[.agg #[.slice (some ⟨bq, 0, none⟩) N cq, .int .i64 M0], .int .i64 (g.goesN p)]) ∧ isR w' bq cq (g.go p) ∧ Chg [] w w' := by
  have h := rgone_any p w H wf.hl wf.h2
  unfold gVal at h
  rw [hN, hM] at h
  exact h.mono fun e w' ⟨bq, cq, h1, h2, h3⟩ => ⟨bq, cq, by rw [h1]; simp [gVal, GM.go_told, GM.go_me, hN, hM], h2, h3⟩
theorem rtell_lit (p u : Int) (w : World) (H : isR w bl cap g) (wf : g.wf) :
    Calls Try.prog 15 #[.agg #[.slice (some ⟨bl, 0, none⟩) N cap, .int .i64 M0], .int .i64 p, .int .u64 u] w fun e w' =>
      ∃ bq cq, e = .returned (.tuple #[.agg #[.slice (some ⟨bq, 0, none⟩) N cq, .int .i64 M0], .bool (g.tells p u)]) ∧ isR w' bq cq (g.tell p u) ∧ Chg [] w w' := by
  have h := rtell_any p u w H wf.hl wf.h2
  unfold gVal at h
  rw [hN, hM] at h
  have e1 : (g.tell p u).told.length = N := by have := GM.act_len g (false, p, u); simp only [GM.act, Bool.false_eq_true, if_false] at this; rw [this, hN]
  have e2 : (g.tell p u).me = M0 := by have := GM.act_me g (false, p, u); simp only [GM.act, Bool.false_eq_true, if_false] at this; rw [this, hM]
  exact h.mono fun e w' ⟨bq, cq, h1, h2, h3⟩ => ⟨bq, cq, by rw [h1]; simp [gVal, e1, e2], h2, h3⟩
theorem rlimit_lit (w : World) (H : isR w bl cap g) (wf : g.wf) (hme : g.gone.getD g.me.toNat false = false) :
    Calls Try.prog 16 #[.agg #[.slice (some ⟨bl, 0, none⟩) N cap, .int .i64 M0]] w fun e w' => e = .returned (.int .u64 g.lim) ∧ Chg [] w w' := by
  have h := rlimit_any w H wf hme
  unfold gVal at h
  rw [hN, hM] at h
  exact h
theorem rleft_lit (u : Int) (w : World) (H : isR w bl cap g) (wf : g.wf) (hme : g.gone.getD g.me.toNat false = false) (h0 : 0 ≤ u) :
    Calls Try.prog 19 #[.agg #[.slice (some ⟨bl, 0, none⟩) N cap, .int .i64 M0], .int .u64 u] w fun e w' => e = .returned (.int .u64 (g.left u)) ∧ Chg [] w w' := by
  have h := rleft_any u w H wf hme h0
  unfold gVal at h
  rw [hN, hM] at h
  exact h
end lit

theorem left_def {b bt bg : Nat} {g : GM} (u : Int) (w : World) (H : isG w b bt bg g) (h0 : 0 ≤ u) :
    Calls Try.prog 18 #[.pointer (some ⟨b,0,none⟩), .int .u64 u] w fun e w' => e = .returned (.int .u64 (g.left u)) ∧ w = w' := left_any u w H h0
theorem may_yes {b bt bg : Nat} {g : GM} (u : Int) (w : World) (H : isG w b bt bg g) (h : 1 ≤ u) :
    Calls Try.prog 17 #[.pointer (some ⟨b,0,none⟩), .int .u64 u] w fun e w' => e = .returned (.bool (decide (u ≤ g.lim))) ∧ w = w' :=
  (may_any u w H).mono fun e w' ⟨h1, h2⟩ => ⟨by rw [h1]; simp [h], h2⟩
theorem may_no {b bt bg : Nat} {g : GM} (u : Int) (w : World) (H : isG w b bt bg g) (h : u < 1) :
    Calls Try.prog 17 #[.pointer (some ⟨b,0,none⟩), .int .u64 u] w fun e w' => e = .returned (.bool false) ∧ w = w' :=
  (may_any u w H).mono fun e w' ⟨h1, h2⟩ => ⟨by rw [h1]; simp; omega, h2⟩

/-- What stands in memory when the two are held against each other. -/
def PS (b bt bg bq cq M N Z : Nat) (M0 : Int) (G : GM) (p : Act3) (w w' : World) : Prop :=
  isG w' b bt bg G ∧ isR w' bq cq G ∧ w'.heap[M]? = some (.cells #[.slice (some ⟨bq, 0, none⟩) N cq, .int .i64 M0] 37) ∧ w'.heap[Z]? = some (.cells #[.bool p.1, .int .i64 p.2.1, .int .u64 p.2.2] 28) ∧ Chg [] w w'
theorem PS.keep {b bt bg bq cq M N Z : Nat} {M0 : Int} {G : GM} {p : Act3} {w w1 w2 : World} (h : PS b bt bg bq cq M N Z M0 G p w w1) (hc : Chg [] w1 w2) : PS b bt bg bq cq M N Z M0 G p w w2 :=
  ⟨h.1.keep hc (by simp) (by simp) (by simp), h.2.1.keep hc (by simp), hc.at h.2.2.1 (by simp), hc.at h.2.2.2.1 (by simp), h.2.2.2.2.trans hc⟩
theorem PS.cells {b bt bg bq cq M N Z : Nat} {M0 : Int} {G : GM} {p : Act3} {w w1 : World} (h : PS b bt bg bq cq M N Z M0 G p w w1) :
    PS b bt bg bq cq M N Z M0 G p w w1 ∧ w1.cell? ⟨M, 0, none⟩ = some (.slice (some ⟨bq, 0, none⟩) N cq) ∧ w1.cell? ⟨M, 1, none⟩ = some (.int .i64 M0) ∧ w1.cell? ⟨Z, 1, none⟩ = some (.int .i64 p.2.1) :=
  ⟨h, by rw [cell_of_block h.2.2.1]; rfl, by rw [cell_of_block h.2.2.1]; rfl, by rw [cell_of_block h.2.2.2.1]; rfl⟩

set_option maxRecDepth 100000 in
set_option maxHeartbeats 4000000 in
theorem plays_walk (n me : Int) (ao : Option Addr) (l : List Act3) (cap : Nat) (seq : Int) (w : World) (hl : l.length ≤ 9223372036854775807) (s0 : 0 ≤ seq) (H : isActs w ao l) :
    Calls Try.prog 5 #[.int .i64 n, .int .i64 me, .slice ao l.length cap, .int .u64 seq] w fun e w' => e = .returned (.bool true) ∧ Chg [] w w' := by
  by_cases hbig : 200 < l.length
  · go_enter Try.func5, Try.ntmps5
    go_wp2_with fail
    refine (awake_any _).mono ?_
    rintro e w2 ⟨rfl, hc⟩
    go_wp2_with fail
    go_ret
    exact ⟨rfl, hc⟩
  · go_enter Try.func5, Try.ntmps5
    go_wp2_with fail
    refine (new_any _ _ _).mono ?_
    rintro e w1 ⟨b, bt, bg, rfl, H1, hc1, q1, q2, q3⟩
    go_wp2_with fail
    refine (rnew_any _ _ _).mono ?_
    rintro e w2 ⟨bl, cl, rfl, R2, hc2, q4⟩
    unfold gVal
    have H2 := H1.keep hc2 (by simp) (by simp) (by simp)
    have hnl : (newG n me).told.length = (clampN n).toNat := by simp [newG]
    have hnm : (newG n me).me = clampM (clampN n).toNat me := rfl
    rw [hnl, hnm]
    have HNL := Lib.hid hnl
    have HNM := Lib.hid hnm
    clear hnl hnm
    obtain ⟨N, hN⟩ : ∃ N, (clampN n).toNat = N := ⟨_, rfl⟩
    obtain ⟨M0, hM⟩ : ∃ m, clampM (clampN n).toNat me = m := ⟨_, rfl⟩
    rw [hM] at HNM ⊢
    rw [hN] at HNL ⊢
    clear hM hN
    go_wp2_with fail
    have hMb := block_new w2 (.cells #[.slice (some ⟨bl, 0, none⟩) N cl, .int .i64 M0] 37)
    have hcc := (hc1.trans hc2).alloc (.cells #[.slice (some ⟨bl, 0, none⟩) N cl, .int .i64 M0] 37)
    have H3 := H2.keep ((Chg.refl [] _).alloc (.cells #[.slice (some ⟨bl, 0, none⟩) N cl, .int .i64 M0] 37)) (by simp) (by simp) (by simp)
    have R3 := R2.keep ((Chg.refl [] _).alloc (.cells #[.slice (some ⟨bl, 0, none⟩) N cl, .int .i64 M0] 37)) (by simp)
    have hMw := (hc1.trans hc2).size
    generalize w2.alloc (.cells #[.slice (some ⟨bl, 0, none⟩) N cl, .int .i64 M0] 37) = W3 at *
    generalize w2.heap.size = M at *
    go_loopw [11] (fun i wr => ∃ (k bl cl : Nat), k ≤ l.length ∧ i = .int .i64 k ∧ isG wr b bt bg ((l.take k).foldl GM.act (newG n me)) ∧ isR wr bl cl ((l.take k).foldl GM.act (newG n me)) ∧
        wr.heap[M]? = some (.cells #[.slice (some ⟨bl, 0, none⟩) N cl, .int .i64 M0] 37) ∧ Chg [] w wr) (fun i _ => l.length - (intOf i).toNat)
    case atStart => exact ⟨0, bl, cl, by omega, rfl, by simpa using H3, by simpa using R3, hMb, hcc⟩
    case round =>
      obtain ⟨k, bl, cl, hk, rfl, HG, HR, hMr, hcr⟩ := hrel
      by_cases hlt : k < l.length
      · have HA := H.keep hcr
        obtain ⟨ba, off, rfl, hba, x0, x1, x2, xlo, xhi⟩ := HA k hlt
        clear HA
        have HX := Lib.hid (fold_snoc (newG n me) l k hlt)
        have HL := Lib.hid ((GM.fold_len (newG n me) (l.take k)).trans HNL.out)
        have HM := Lib.hid ((GM.fold_me (newG n me) (l.take k)).trans HNM.out)
        have HE := Lib.hid (GM.fold_gme (newG n me) (l.take k) (newG_wf n me).m0 (newG_gme n me))
        generalize l.getD k (false, 0, 0) = p at *
        obtain ⟨pg, pp, pu⟩ := p
        dsimp only at x0 x1 x2 xlo xhi
        generalize (l.take k).foldl GM.act (newG n me) = G at *
        go_upto_if 39 with fail
        have hZ := block_new wr (.cells #[.bool pg, .int .i64 pp, .int .u64 pu] 28)
        have HGa := HG.keep ((Chg.refl [] _).alloc (.cells #[.bool pg, .int .i64 pp, .int .u64 pu] 28)) (by simp) (by simp) (by simp)
        have HRa := HR.keep ((Chg.refl [] _).alloc (.cells #[.bool pg, .int .i64 pp, .int .u64 pu] 28)) (by simp)
        have hMa := block_alloc (o' := .cells #[.bool pg, .int .i64 pp, .int .u64 pu] 28) hMr
        have hca := hcr.alloc (.cells #[.bool pg, .int .i64 pp, .int .u64 pu] 28)
        have hZw := hcr.size
        have l1 := HG.lt
        have l2 := HR.lt
        have l3 := lt_of_some hMr
        generalize wr.alloc (.cells #[.bool pg, .int .i64 pp, .int .u64 pu] 28) = wa at *
        generalize wr.heap.size = Z at *
        clear x0 x1 x2
        have p0 : wa.cell? ⟨Z, 0, none⟩ = some (.bool pg) := by rw [cell_of_block hZ]; rfl
        have p1 : wa.cell? ⟨Z, 1, none⟩ = some (.int .i64 pp) := by rw [cell_of_block hZ]; rfl
        have p2 : wa.cell? ⟨Z, 2, none⟩ = some (.int .u64 pu) := by rw [cell_of_block hZ]; rfl
        have m0 : wa.cell? ⟨M, 0, none⟩ = some (.slice (some ⟨bl, 0, none⟩) N cl) := by rw [cell_of_block hMa]; rfl
        have m1 : wa.cell? ⟨M, 1, none⟩ = some (.int .i64 M0) := by rw [cell_of_block hMa]; rfl
        go_cut [13, 14, 15, 16] from 40 to 72 (fun _ _ _ _ wx => ∃ bq cq, isG wx b bt bg (G.act (pg, pp, pu)) ∧ isR wx bq cq (G.act (pg, pp, pu)) ∧ wx.heap[M]? = some (.cells #[.slice (some ⟨bq, 0, none⟩) N cq, .int .i64 M0] 37) ∧
          wx.heap[Z]? = some (.cells #[.bool pg, .int .i64 pp, .int .u64 pu] 28) ∧ Chg [] w wx)
        case first =>
          cases pg
          · go_wp2_with fail
            refine (rtell_lit HL.out HM.out pp pu _ HRa HGa.wf).mono ?_
            rintro e w3 ⟨bq, cq, rfl, R', hc'⟩
            have hM3 := hc'.at hMa (by simp)
            have hZ3 := hc'.at hZ (by simp)
            have HG3 := HGa.keep hc' (by simp) (by simp) (by simp)
            have hn1 := R'.ty.ne hM3 (by decide)
            go_upto_region 14 with fail
            have hN3 := block_new w3 (.cells #[.slice (some ⟨bq, 0, none⟩) N cq, .int .i64 M0] 37)
            have HG3 := HG3.keep ((Chg.refl [] _).alloc (.cells #[.slice (some ⟨bq, 0, none⟩) N cq, .int .i64 M0] 37)) (by simp) (by simp) (by simp)
            have R' := R'.keep ((Chg.refl [] _).alloc (.cells #[.slice (some ⟨bq, 0, none⟩) N cq, .int .i64 M0] 37)) (by simp)
            have hM3 := block_alloc (o' := .cells #[.slice (some ⟨bq, 0, none⟩) N cq, .int .i64 M0] 37) hM3
            have hZ3 := block_alloc (o' := .cells #[.slice (some ⟨bq, 0, none⟩) N cq, .int .i64 M0] 37) hZ3
            have hc' := hc'.alloc (.cells #[.slice (some ⟨bq, 0, none⟩) N cq, .int .i64 M0] 37)
            generalize w3.alloc (.cells #[.slice (some ⟨bq, 0, none⟩) N cq, .int .i64 M0] 37) = w3b at *
            have n0 : w3b.cell? ⟨M, 0, none⟩ = some (.slice (some ⟨bl, 0, none⟩) N cl) := by rw [cell_of_block hM3]; rfl
            have n1 : w3b.cell? ⟨M, 1, none⟩ = some (.int .i64 M0) := by rw [cell_of_block hM3]; rfl
            have n2 := free_of_block hM3 0
            have n3 := free_of_block hM3 1
            have n4 : w3b.cell? ⟨w3.heap.size, 0, none⟩ = some (.slice (some ⟨bq, 0, none⟩) N cq) := by rw [cell_of_block hN3]; rfl
            have n5 : w3b.cell? ⟨w3.heap.size, 1, none⟩ = some (.int .i64 M0) := by rw [cell_of_block hN3]; rfl
            go_upto_region 15 with fail
            have hM4 : ((w3b.setCell ⟨M, 0, none⟩ (.slice (some ⟨bq, 0, none⟩) N cq)).setCell ⟨M, 1, none⟩ (.int .i64 M0)).heap[M]? = some (.cells #[.slice (some ⟨bq, 0, none⟩) N cq, .int .i64 M0] 37) := by
              rw [block_set (block_set hM3)]; rfl
            have hch : Chg [M] w3b ((w3b.setCell ⟨M, 0, none⟩ (.slice (some ⟨bq, 0, none⟩) N cq)).setCell ⟨M, 1, none⟩ (.int .i64 M0)) :=
              ((Chg.refl _ _).setCell (.inl (by simp)) _).setCell (.inl (by simp)) _
            generalize (w3b.setCell ⟨M, 0, none⟩ (.slice (some ⟨bq, 0, none⟩) N cq)).setCell ⟨M, 1, none⟩ (.int .i64 M0) = W4 at *
            have hne : b ≠ M ∧ bt ≠ M ∧ bg ≠ M := by
              refine ⟨fun h => ?_, fun h => ?_, fun h => ?_⟩
              · have h0 := HG3.hb; rw [h, hM3] at h0; simp at h0
              · have h0 := HG3.ht; rw [h, hM3] at h0; simp at h0
              · have h0 := HG3.hg; rw [h, hM3] at h0; simp at h0
            obtain ⟨hne1, hne2, hne3⟩ := hne
            have HG4 := HG3.keep hch (by simpa using hne1) (by simpa using hne2) (by simpa using hne3)
            have HR4 := R'.keep hch (by simpa using hn1)
            have hZ4 := hch.at hZ3 (by simp; omega)
            have hc4 : Chg [] w W4 := (hca.trans hc').then hch (by simp; omega)
            have y1 : W4.cell? ⟨Z, 1, none⟩ = some (.int .i64 pp) := by rw [cell_of_block hZ4]; rfl
            have y2 : W4.cell? ⟨Z, 2, none⟩ = some (.int .u64 pu) := by rw [cell_of_block hZ4]; rfl
            go_wp2_with fail
            refine (tell_any pp pu _ HG4 xlo xhi).mono ?_
            rintro e w5 ⟨rfl, HG5, hc5⟩
            have hn2 := HR4.ty.ne HG4.ht (by decide)
            go_wp2_with fail
            go_meet
            exact ⟨bq, cq, HG5, HR4.keep hc5 (by simpa using hn2), hc5.at hM4 (by simp; omega), hc5.at hZ4 (by simp; omega), hc4.then hc5 (by simp; omega)⟩
          · go_wp2_with fail
            refine (rgone_lit HL.out HM.out pp _ HRa HGa.wf).mono ?_
            rintro e w3 ⟨bq, cq, rfl, R', hc'⟩
            have hM3 := hc'.at hMa (by simp)
            have hZ3 := hc'.at hZ (by simp)
            have HG3 := HGa.keep hc' (by simp) (by simp) (by simp)
            have hn1 := R'.ty.ne hM3 (by decide)
            go_upto_region 10 with fail
            have hN3 := block_new w3 (.cells #[.slice (some ⟨bq, 0, none⟩) N cq, .int .i64 M0] 37)
            have HG3 := HG3.keep ((Chg.refl [] _).alloc (.cells #[.slice (some ⟨bq, 0, none⟩) N cq, .int .i64 M0] 37)) (by simp) (by simp) (by simp)
            have R' := R'.keep ((Chg.refl [] _).alloc (.cells #[.slice (some ⟨bq, 0, none⟩) N cq, .int .i64 M0] 37)) (by simp)
            have hM3 := block_alloc (o' := .cells #[.slice (some ⟨bq, 0, none⟩) N cq, .int .i64 M0] 37) hM3
            have hZ3 := block_alloc (o' := .cells #[.slice (some ⟨bq, 0, none⟩) N cq, .int .i64 M0] 37) hZ3
            have hc' := hc'.alloc (.cells #[.slice (some ⟨bq, 0, none⟩) N cq, .int .i64 M0] 37)
            generalize w3.alloc (.cells #[.slice (some ⟨bq, 0, none⟩) N cq, .int .i64 M0] 37) = w3b at *
            have n0 : w3b.cell? ⟨M, 0, none⟩ = some (.slice (some ⟨bl, 0, none⟩) N cl) := by rw [cell_of_block hM3]; rfl
            have n1 : w3b.cell? ⟨M, 1, none⟩ = some (.int .i64 M0) := by rw [cell_of_block hM3]; rfl
            have n2 := free_of_block hM3 0
            have n3 := free_of_block hM3 1
            have n4 : w3b.cell? ⟨w3.heap.size, 0, none⟩ = some (.slice (some ⟨bq, 0, none⟩) N cq) := by rw [cell_of_block hN3]; rfl
            have n5 : w3b.cell? ⟨w3.heap.size, 1, none⟩ = some (.int .i64 M0) := by rw [cell_of_block hN3]; rfl
            go_upto_region 11 with fail
            have hM4 : ((w3b.setCell ⟨M, 0, none⟩ (.slice (some ⟨bq, 0, none⟩) N cq)).setCell ⟨M, 1, none⟩ (.int .i64 M0)).heap[M]? = some (.cells #[.slice (some ⟨bq, 0, none⟩) N cq, .int .i64 M0] 37) := by
              rw [block_set (block_set hM3)]; rfl
            have hch : Chg [M] w3b ((w3b.setCell ⟨M, 0, none⟩ (.slice (some ⟨bq, 0, none⟩) N cq)).setCell ⟨M, 1, none⟩ (.int .i64 M0)) :=
              ((Chg.refl _ _).setCell (.inl (by simp)) _).setCell (.inl (by simp)) _
            generalize (w3b.setCell ⟨M, 0, none⟩ (.slice (some ⟨bq, 0, none⟩) N cq)).setCell ⟨M, 1, none⟩ (.int .i64 M0) = W4 at *
            have hne : b ≠ M ∧ bt ≠ M ∧ bg ≠ M := by
              refine ⟨fun h => ?_, fun h => ?_, fun h => ?_⟩
              · have h0 := HG3.hb; rw [h, hM3] at h0; simp at h0
              · have h0 := HG3.ht; rw [h, hM3] at h0; simp at h0
              · have h0 := HG3.hg; rw [h, hM3] at h0; simp at h0
            obtain ⟨hne1, hne2, hne3⟩ := hne
            have HG4 := HG3.keep hch (by simpa using hne1) (by simpa using hne2) (by simpa using hne3)
            have HR4 := R'.keep hch (by simpa using hn1)
            have hZ4 := hch.at hZ3 (by simp; omega)
            have hc4 : Chg [] w W4 := (hca.trans hc').then hch (by simp; omega)
            have y1 : W4.cell? ⟨Z, 1, none⟩ = some (.int .i64 pp) := by rw [cell_of_block hZ4]; rfl
            have y2 : W4.cell? ⟨Z, 2, none⟩ = some (.int .u64 pu) := by rw [cell_of_block hZ4]; rfl
            go_wp2_with fail
            refine (gone_one pp _ _ HG4).mono ?_
            rintro e w5 ⟨rfl, HG5, hc5⟩
            have hn2 := HR4.ty.ne HG4.hg (by decide)
            go_wp2_with fail
            go_meet
            exact ⟨bq, cq, HG5, HR4.keep hc5 (by simpa using hn2), hc5.at hM4 (by simp; omega), hc5.at hZ4 (by simp; omega), hc4.then hc5 (by simp; omega)⟩
        case rest =>
          obtain ⟨bq, cq, HGx, HRx, hMx, hZx, hcx⟩ := hcut
          have HL2 := Lib.hid ((GM.act_len G (pg, pp, pu)).trans HL.out)
          have HM2 := Lib.hid ((GM.act_me G (pg, pp, pu)).trans HM.out)
          have HE2 := Lib.hid (GM.act_gme G (pg, pp, pu) HG.wf.m0 HE.out)
          generalize G.act (pg, pp, pu) = G2 at *
          clear p0 p1 p2 m0 m1
          have p1 : wc.cell? ⟨Z, 1, none⟩ = some (.int .i64 pp) := by rw [cell_of_block hZx]; rfl
          have m0 : wc.cell? ⟨M, 0, none⟩ = some (.slice (some ⟨bq, 0, none⟩) N cq) := by rw [cell_of_block hMx]; rfl
          have m1 : wc.cell? ⟨M, 1, none⟩ = some (.int .i64 M0) := by rw [cell_of_block hMx]; rfl
          have hN64 : N ≤ 64 := by have := HGx.wf.h2; have := HL2.out; omega
          go_upto_region 18 with fail
          go_cut [83] from 73 to 82 (fun s wx => s = .bool (G2.there pp) ∧ wx = wc)
          case first =>
            by_cases hp0 : 0 ≤ pp
            · go_wp2_with fail
              go_meet
              exact ⟨by simp only [GM.there, HL2.out]; congr 1; simp [hp0], rfl⟩
            · go_wp2_with fail
              go_meet
              exact ⟨by congr 1; simp [GM.there]; omega, rfl⟩
          case rest =>
            obtain ⟨rfl, rfl⟩ := hcut
            go_upto_if 83 with fail
            go_cut [17] from 83 to 90 (fun s wx => s = .int .u64 (G2.of pp) ∧ wx = wc)
            case first =>
              cases hth : G2.there pp with
              | true =>
                obtain ⟨m, rfl, hm⟩ := GM.there_yes hth
                have x0 := HRx.ct m hm
                have hmN : m < N := by have := HL2.out; omega
                generalize hxx : G2.told.getD m 0 = x at x0
                have HXX := Lib.hid hxx
                have HTH := Lib.hid hth
                clear hxx hth
                go_wp2_with fail
                go_meet
                exact ⟨by simp only [GM.of, HTH.out, if_true, Int.toNat_natCast, HXX.out], rfl⟩
              | false =>
                have HTH := Lib.hid hth
                clear hth
                go_wp2_with fail
                go_meet
                exact ⟨by simp [GM.of, HTH.out], rfl⟩
            case rest =>
              obtain ⟨rfl, rfl⟩ := hcut
              go_upto_region 20 with fail
              have hPS : PS b bt bg bq cq M N Z M0 G2 (pg, pp, pu) w wc := ⟨HGx, HRx, hMx, hZx, hcx⟩
              have HK : Hid (∀ w1 w2, (PS b bt bg bq cq M N Z M0 G2 (pg, pp, pu) w w1 ∧ w1.cell? ⟨M, 0, none⟩ = some (.slice (some ⟨bq, 0, none⟩) N cq) ∧ w1.cell? ⟨M, 1, none⟩ = some (.int .i64 M0) ∧ w1.cell? ⟨Z, 1, none⟩ = some (.int .i64 pp)) → Chg [] w1 w2 →
                (PS b bt bg bq cq M N Z M0 G2 (pg, pp, pu) w w2 ∧ w2.cell? ⟨M, 0, none⟩ = some (.slice (some ⟨bq, 0, none⟩) N cq) ∧ w2.cell? ⟨M, 1, none⟩ = some (.int .i64 M0) ∧ w2.cell? ⟨Z, 1, none⟩ = some (.int .i64 pp))) := fun w1 w2 h hc => (h.1.keep hc).cells
              have HS0 : Hid (PS b bt bg bq cq M N Z M0 G2 (pg, pp, pu) w wc.drew ∧ wc.drew.cell? ⟨M, 0, none⟩ = some (.slice (some ⟨bq, 0, none⟩) N cq) ∧ wc.drew.cell? ⟨M, 1, none⟩ = some (.int .i64 M0) ∧ wc.drew.cell? ⟨Z, 1, none⟩ = some (.int .i64 pp)) := (hPS.keep (Chg.refl [] wc).drew).cells
              have HGG : Hid (∀ w1, (PS b bt bg bq cq M N Z M0 G2 (pg, pp, pu) w w1 ∧ w1.cell? ⟨M, 0, none⟩ = some (.slice (some ⟨bq, 0, none⟩) N cq) ∧ w1.cell? ⟨M, 1, none⟩ = some (.int .i64 M0) ∧ w1.cell? ⟨Z, 1, none⟩ = some (.int .i64 pp)) → isG w1 b bt bg G2) := fun w1 h => h.1.1
              have HRR : Hid (∀ w1, (PS b bt bg bq cq M N Z M0 G2 (pg, pp, pu) w w1 ∧ w1.cell? ⟨M, 0, none⟩ = some (.slice (some ⟨bq, 0, none⟩) N cq) ∧ w1.cell? ⟨M, 1, none⟩ = some (.int .i64 M0) ∧ w1.cell? ⟨Z, 1, none⟩ = some (.int .i64 pp)) → isR w1 bq cq G2) := fun w1 h => h.1.2.1
              have HWF := Lib.hid HGx.wf
              clear HGx HRx hMx hZx hPS p1 m0 m1
              go_cut [126] from 91 to 125 (fun s wx => s = .bool false ∧ PS b bt bg bq cq M N Z M0 G2 (pg, pp, pu) w wx)
              case first =>
                by_cases hs1 : 1 ≤ seq
                · have hs2 : decide (0 < seq) = true := by simp; omega
                  go_region_held3 (fun w' => PS b bt bg bq cq M N Z M0 G2 (pg, pp, pu) w w' ∧ w'.cell? ⟨M, 0, none⟩ = some (.slice (some ⟨bq, 0, none⟩) N cq) ∧ w'.cell? ⟨M, 1, none⟩ = some (.int .i64 M0) ∧ w'.cell? ⟨Z, 1, none⟩ = some (.int .i64 pp))
                    (first | exact HS0.out | assumption | exact HK.out _ _ (by assumption) (by assumption))
                    (first
                      | (go_at_call 12; refine (of_any pp _ (HGG.out _ (by assumption))).mono ?_; rintro e w' ⟨rfl, rfl⟩)
                      | (go_at_call 11; refine (limit_any _ (HGG.out _ (by assumption))).mono ?_; rintro e w' ⟨rfl, rfl⟩)
                      | (go_at_call 17; refine (may_yes _ _ (HGG.out _ (by assumption)) hs1).mono ?_; rintro e w' ⟨rfl, rfl⟩)
                      | (go_at_call 18; refine (left_def _ _ (HGG.out _ (by assumption)) s0).mono ?_; rintro e w' ⟨rfl, rfl⟩)
                      | (go_at_call 16; refine (rlimit_lit HL2.out HM2.out _ (HRR.out _ (by assumption)) HWF.out HE2.out).mono ?_; rintro e w' ⟨rfl, hcc⟩)
                      | (go_at_call 19; refine (rleft_lit HL2.out HM2.out _ _ (HRR.out _ (by assumption)) HWF.out HE2.out s0).mono ?_; rintro e w' ⟨rfl, hcc⟩))
                  all_goals go_wp2_with fail
                  all_goals go_meet
                  all_goals exact ⟨rfl, And.left (by assumption)⟩
                · obtain rfl : seq = 0 := by omega
                  clear hs1
                  refine wp_region_held_drew (S := fun w' => PS b bt bg bq cq M N Z M0 G2 (pg, pp, pu) w w' ∧ w'.cell? ⟨M, 0, none⟩ = some (.slice (some ⟨bq, 0, none⟩) N cq) ∧ w'.cell? ⟨M, 1, none⟩ = some (.int .i64 M0) ∧ w'.cell? ⟨Z, 1, none⟩ = some (.int .i64 pp)) (by kernel_rfl) ?_ (fun hHeld => ?_)
                  · first | exact HS0.out | assumption | exact HK.out _ _ (by assumption) (by assumption)
                  refine wpAnyH_take (i := 0) (v := ?vr0) rfl (by kernel_rfl) (by kernel_rfl) (by kernel_rfl) (fun _ _ _ h => h) (Or.inl ⟨by rfl, ?yr0⟩) (by assumption) ?nr0
                  case yr0 => (intro w hSw; (try dsimp only at hSw); go_simp; (try with_reducible rfl))
                  try simp only [List.getElem_toArray, List.getElem_cons_succ, List.getElem_cons_zero, Act.put, List.setIfInBounds_toArray, List.set_cons_succ, List.set_cons_zero]
                  refine wpAnyH_take (i := 1) (v := ?vr1) rfl (by kernel_rfl) (by kernel_rfl) (by kernel_rfl) (fun _ _ _ h => h) (Or.inl ⟨by rfl, ?yr1⟩) (by assumption) ?nr1
                  case yr1 => (intro w hSw; (try dsimp only at hSw); go_simp; (try with_reducible rfl))
                  try simp only [List.getElem_toArray, List.getElem_cons_succ, List.getElem_cons_zero, Act.put, List.setIfInBounds_toArray, List.set_cons_succ, List.set_cons_zero]
                  refine wpAnyH_take (i := 2) (v := ?vr2) rfl (by kernel_rfl) (by kernel_rfl) (by kernel_rfl) (fun _ _ _ h => h) (Or.inl ⟨by rfl, ?yr2⟩) (by assumption) ?nr2
                  case yr2 => (intro w hSw; (try dsimp only at hSw); go_simp; (try with_reducible rfl))
                  try simp only [List.getElem_toArray, List.getElem_cons_succ, List.getElem_cons_zero, Act.put, List.setIfInBounds_toArray, List.set_cons_succ, List.set_cons_zero]
                  refine wpAnyH_take (i := 4) (v := ?vr4) rfl (by kernel_rfl) (by kernel_rfl) (by kernel_rfl) (fun _ _ _ h => h) (Or.inl ⟨by rfl, ?yr4⟩) (by assumption) ?nr4
                  case yr4 => (intro w hSw; (try dsimp only at hSw); go_simp; (try with_reducible rfl))
                  try simp only [List.getElem_toArray, List.getElem_cons_succ, List.getElem_cons_zero, Act.put, List.setIfInBounds_toArray, List.set_cons_succ, List.set_cons_zero]
                  refine wpAnyH_ready (rs := [3]) (by kernel_rfl) (by simp) ?_
                  refine AllReadyH.cons rfl (fun K hK => ?_) AllReadyH.nil
                  go_simp
                  refine (of_any pp _ (HGG.out _ hHeld)).mono ?_; rintro e w' ⟨rfl, rfl⟩
                  refine hK.out _ _ ?_ (fun hHeld => ?_)
                  · first | exact HS0.out | assumption | exact HK.out _ _ (by assumption) (by assumption)
                  clear hK K
                  try simp only [List.getElem_toArray, List.getElem_cons_succ, List.getElem_cons_zero, Act.put, List.setIfInBounds_toArray, List.set_cons_succ, List.set_cons_zero]
                  refine wpAnyH_take (i := 5) (v := ?vr5) rfl (by kernel_rfl) (by kernel_rfl) (by kernel_rfl) (fun _ _ _ h => h) (Or.inl ⟨by rfl, ?yr5⟩) (by assumption) ?nr5
                  case yr5 => (intro w hSw; (try dsimp only at hSw); go_simp; (try with_reducible rfl))
                  try simp only [List.getElem_toArray, List.getElem_cons_succ, List.getElem_cons_zero, Act.put, List.setIfInBounds_toArray, List.set_cons_succ, List.set_cons_zero]
                  refine wpAnyH_take (i := 6) (v := ?vr6) rfl (by kernel_rfl) (by kernel_rfl) (by kernel_rfl) (fun _ _ _ h => h) (Or.inl ⟨by rfl, ?yr6⟩) (by assumption) ?nr6
                  case yr6 => (intro w hSw; (try dsimp only at hSw); go_simp; (try with_reducible rfl))
                  try simp only [List.getElem_toArray, List.getElem_cons_succ, List.getElem_cons_zero, Act.put, List.setIfInBounds_toArray, List.set_cons_succ, List.set_cons_zero]
                  refine wpAnyH_take (i := 7) (v := ?vr7) rfl (by kernel_rfl) (by kernel_rfl) (by kernel_rfl) (fun _ _ _ h => h) (Or.inl ⟨by rfl, ?yr7⟩) (by assumption) ?nr7
                  case yr7 => (intro w hSw; (try dsimp only at hSw); go_simp; (try with_reducible rfl))
                  try simp only [List.getElem_toArray, List.getElem_cons_succ, List.getElem_cons_zero, Act.put, List.setIfInBounds_toArray, List.set_cons_succ, List.set_cons_zero]
                  refine wpAnyH_take (i := 9) (v := ?vr9) rfl (by kernel_rfl) (by kernel_rfl) (by kernel_rfl) (fun _ _ _ h => h) (Or.inl ⟨by rfl, ?yr9⟩) (by assumption) ?nr9
                  case yr9 => (intro w hSw; (try dsimp only at hSw); go_simp; (try with_reducible rfl))
                  try simp only [List.getElem_toArray, List.getElem_cons_succ, List.getElem_cons_zero, Act.put, List.setIfInBounds_toArray, List.set_cons_succ, List.set_cons_zero]
                  refine wpAnyH_ready (rs := [8]) (by kernel_rfl) (by simp) ?_
                  refine AllReadyH.cons rfl (fun K hK => ?_) AllReadyH.nil
                  go_simp
                  refine (limit_any _ (HGG.out _ hHeld)).mono ?_; rintro e w' ⟨rfl, rfl⟩
                  refine hK.out _ _ ?_ (fun hHeld => ?_)
                  · first | exact HS0.out | assumption | exact HK.out _ _ (by assumption) (by assumption)
                  clear hK K
                  try simp only [List.getElem_toArray, List.getElem_cons_succ, List.getElem_cons_zero, Act.put, List.setIfInBounds_toArray, List.set_cons_succ, List.set_cons_zero]
                  refine wpAnyH_ready (rs := [10]) (by kernel_rfl) (by simp) ?_
                  refine AllReadyH.cons rfl (fun K hK => ?_) AllReadyH.nil
                  go_simp
                  refine (rlimit_lit HL2.out HM2.out _ (HRR.out _ hHeld) HWF.out HE2.out).mono ?_; rintro e w' ⟨rfl, hcc⟩
                  refine hK.out _ _ ?_ (fun hHeld => ?_)
                  · first | exact HS0.out | assumption | exact HK.out _ _ (by assumption) (by assumption)
                  clear hK K
                  try simp only [List.getElem_toArray, List.getElem_cons_succ, List.getElem_cons_zero, Act.put, List.setIfInBounds_toArray, List.set_cons_succ, List.set_cons_zero]
                  refine wpAnyH_take (i := 11) (v := ?vr11) rfl (by kernel_rfl) (by kernel_rfl) (by kernel_rfl) (fun _ _ _ h => h) (Or.inl ⟨by rfl, ?yr11⟩) (by assumption) ?nr11
                  case yr11 => (intro w hSw; (try dsimp only at hSw); go_simp; (try with_reducible rfl))
                  try simp only [List.getElem_toArray, List.getElem_cons_succ, List.getElem_cons_zero, Act.put, List.setIfInBounds_toArray, List.set_cons_succ, List.set_cons_zero]
                  refine wpAnyH_take (i := 12) (v := ?vr12) rfl (by kernel_rfl) (by kernel_rfl) (by kernel_rfl) (fun _ _ _ h => h) (Or.inl ⟨by rfl, ?yr12⟩) (by assumption) ?nr12
                  case yr12 => (intro w hSw; (try dsimp only at hSw); go_simp; (try with_reducible rfl))
                  try simp only [List.getElem_toArray, List.getElem_cons_succ, List.getElem_cons_zero, Act.put, List.setIfInBounds_toArray, List.set_cons_succ, List.set_cons_zero]
                  refine wpAnyH_take (i := 13) (v := ?vr13) rfl (by kernel_rfl) (by kernel_rfl) (by kernel_rfl) (fun _ _ _ h => h) (Or.inl ⟨by rfl, ?yr13⟩) (by assumption) ?nr13
                  case yr13 => (intro w hSw; (try dsimp only at hSw); go_simp; (try with_reducible rfl))
                  try simp only [List.getElem_toArray, List.getElem_cons_succ, List.getElem_cons_zero, Act.put, List.setIfInBounds_toArray, List.set_cons_succ, List.set_cons_zero]
                  refine wpAnyH_take (i := 14) (v := ?vr14) rfl (by kernel_rfl) (by kernel_rfl) (by kernel_rfl) (fun _ _ _ h => h) (Or.inl ⟨by rfl, ?yr14⟩) (by assumption) ?nr14
                  case yr14 => (intro w hSw; (try dsimp only at hSw); go_simp; (try with_reducible rfl))
                  try simp only [List.getElem_toArray, List.getElem_cons_succ, List.getElem_cons_zero, Act.put, List.setIfInBounds_toArray, List.set_cons_succ, List.set_cons_zero]
                  refine wpAnyH_take (i := 15) (v := ?vr15) rfl (by kernel_rfl) (by kernel_rfl) (by kernel_rfl) (fun _ _ _ h => h) (Or.inl ⟨by rfl, ?yr15⟩) (by assumption) ?nr15
                  case yr15 => (intro w hSw; (try dsimp only at hSw); go_simp; (try with_reducible rfl))
                  try simp only [List.getElem_toArray, List.getElem_cons_succ, List.getElem_cons_zero, Act.put, List.setIfInBounds_toArray, List.set_cons_succ, List.set_cons_zero]
                  refine wpAnyH_take (i := 17) (v := ?vr17) rfl (by kernel_rfl) (by kernel_rfl) (by kernel_rfl) (fun _ _ _ h => h) (Or.inl ⟨by rfl, ?yr17⟩) (by assumption) ?nr17
                  case yr17 => (intro w hSw; (try dsimp only at hSw); go_simp; (try with_reducible rfl))
                  try simp only [List.getElem_toArray, List.getElem_cons_succ, List.getElem_cons_zero, Act.put, List.setIfInBounds_toArray, List.set_cons_succ, List.set_cons_zero]
                  refine wpAnyH_take (i := 18) (v := ?vr18) rfl (by kernel_rfl) (by kernel_rfl) (by kernel_rfl) (fun _ _ _ h => h) (Or.inl ⟨by rfl, ?yr18⟩) (by assumption) ?nr18
                  case yr18 => (intro w hSw; (try dsimp only at hSw); go_simp; (try with_reducible rfl))
                  try simp only [List.getElem_toArray, List.getElem_cons_succ, List.getElem_cons_zero, Act.put, List.setIfInBounds_toArray, List.set_cons_succ, List.set_cons_zero]
                  refine wpAnyH_ready (rs := [16]) (by kernel_rfl) (by simp) ?_
                  refine AllReadyH.cons rfl (fun K hK => ?_) AllReadyH.nil
                  go_simp
                  refine (may_no _ _ (HGG.out _ hHeld) (by omega)).mono ?_; rintro e w' ⟨rfl, rfl⟩
                  refine hK.out _ _ ?_ (fun hHeld => ?_)
                  · first | exact HS0.out | assumption | exact HK.out _ _ (by assumption) (by assumption)
                  clear hK K
                  try simp only [List.getElem_toArray, List.getElem_cons_succ, List.getElem_cons_zero, Act.put, List.setIfInBounds_toArray, List.set_cons_succ, List.set_cons_zero]
                  refine wpAnyH_take (i := 19) (v := ?vr19) rfl (by kernel_rfl) (by kernel_rfl) (by kernel_rfl) (fun _ _ _ h => h) (Or.inl ⟨by rfl, ?yr19⟩) (by assumption) ?nr19
                  case yr19 => (intro w hSw; (try dsimp only at hSw); go_simp; (try with_reducible rfl))
                  try simp only [List.getElem_toArray, List.getElem_cons_succ, List.getElem_cons_zero, Act.put, List.setIfInBounds_toArray, List.set_cons_succ, List.set_cons_zero]
                  refine wpAnyH_take (i := 20) (v := undef) rfl (by kernel_rfl) (by kernel_rfl) (by kernel_rfl) (fun _ _ _ h => h) (Or.inr ⟨by rfl, rfl⟩) (by assumption) ?_
                  try simp only [List.getElem_toArray, List.getElem_cons_succ, List.getElem_cons_zero, Act.put, List.setIfInBounds_toArray, List.set_cons_succ, List.set_cons_zero]
                  refine wpAnyH_take (i := 21) (v := undef) rfl (by kernel_rfl) (by kernel_rfl) (by kernel_rfl) (fun _ _ _ h => h) (Or.inr ⟨by rfl, rfl⟩) (by assumption) ?_
                  try simp only [List.getElem_toArray, List.getElem_cons_succ, List.getElem_cons_zero, Act.put, List.setIfInBounds_toArray, List.set_cons_succ, List.set_cons_zero]
                  refine wpAnyH_take (i := 22) (v := undef) rfl (by kernel_rfl) (by kernel_rfl) (by kernel_rfl) (fun _ _ _ h => h) (Or.inr ⟨by rfl, rfl⟩) (by assumption) ?_
                  try simp only [List.getElem_toArray, List.getElem_cons_succ, List.getElem_cons_zero, Act.put, List.setIfInBounds_toArray, List.set_cons_succ, List.set_cons_zero]
                  refine wpAnyH_take (i := 23) (v := undef) rfl (by kernel_rfl) (by kernel_rfl) (by kernel_rfl) (fun _ _ _ h => h) (Or.inr ⟨by rfl, rfl⟩) (by assumption) ?_
                  try simp only [List.getElem_toArray, List.getElem_cons_succ, List.getElem_cons_zero, Act.put, List.setIfInBounds_toArray, List.set_cons_succ, List.set_cons_zero]
                  refine wpAnyH_take (i := 24) (v := ?vr24) rfl (by kernel_rfl) (by kernel_rfl) (by kernel_rfl) (fun _ _ _ h => h) (Or.inl ⟨by rfl, ?yr24⟩) (by assumption) ?nr24
                  case yr24 => (intro w hSw; (try dsimp only at hSw); go_simp; (try with_reducible rfl))
                  try simp only [List.getElem_toArray, List.getElem_cons_succ, List.getElem_cons_zero, Act.put, List.setIfInBounds_toArray, List.set_cons_succ, List.set_cons_zero]
                  refine wpAnyH_take (i := 25) (v := ?vr25) rfl (by kernel_rfl) (by kernel_rfl) (by kernel_rfl) (fun _ _ _ h => h) (Or.inl ⟨by rfl, ?yr25⟩) (by assumption) ?nr25
                  case yr25 => (intro w hSw; (try dsimp only at hSw); go_simp; (try with_reducible rfl))
                  try simp only [List.getElem_toArray, List.getElem_cons_succ, List.getElem_cons_zero, Act.put, List.setIfInBounds_toArray, List.set_cons_succ, List.set_cons_zero]
                  refine wpAnyH_take (i := 26) (v := ?vr26) rfl (by kernel_rfl) (by kernel_rfl) (by kernel_rfl) (fun _ _ _ h => h) (Or.inl ⟨by rfl, ?yr26⟩) (by assumption) ?nr26
                  case yr26 => (intro w hSw; (try dsimp only at hSw); go_simp; (try with_reducible rfl))
                  try simp only [List.getElem_toArray, List.getElem_cons_succ, List.getElem_cons_zero, Act.put, List.setIfInBounds_toArray, List.set_cons_succ, List.set_cons_zero]
                  refine wpAnyH_take (i := 27) (v := ?vr27) rfl (by kernel_rfl) (by kernel_rfl) (by kernel_rfl) (fun _ _ _ h => h) (Or.inl ⟨by rfl, ?yr27⟩) (by assumption) ?nr27
                  case yr27 => (intro w hSw; (try dsimp only at hSw); go_simp; (try with_reducible rfl))
                  try simp only [List.getElem_toArray, List.getElem_cons_succ, List.getElem_cons_zero, Act.put, List.setIfInBounds_toArray, List.set_cons_succ, List.set_cons_zero]
                  refine wpAnyH_take (i := 28) (v := ?vr28) rfl (by kernel_rfl) (by kernel_rfl) (by kernel_rfl) (fun _ _ _ h => h) (Or.inl ⟨by rfl, ?yr28⟩) (by assumption) ?nr28
                  case yr28 => (intro w hSw; (try dsimp only at hSw); go_simp; (try with_reducible rfl))
                  try simp only [List.getElem_toArray, List.getElem_cons_succ, List.getElem_cons_zero, Act.put, List.setIfInBounds_toArray, List.set_cons_succ, List.set_cons_zero]
                  refine wpAnyH_take (i := 29) (v := ?vr29) rfl (by kernel_rfl) (by kernel_rfl) (by kernel_rfl) (fun _ _ _ h => h) (Or.inl ⟨by rfl, ?yr29⟩) (by assumption) ?nr29
                  case yr29 => (intro w hSw; (try dsimp only at hSw); go_simp; (try with_reducible rfl))
                  try simp only [List.getElem_toArray, List.getElem_cons_succ, List.getElem_cons_zero, Act.put, List.setIfInBounds_toArray, List.set_cons_succ, List.set_cons_zero]
                  refine wpAnyH_take (i := 31) (v := ?vr31) rfl (by kernel_rfl) (by kernel_rfl) (by kernel_rfl) (fun _ _ _ h => h) (Or.inl ⟨by rfl, ?yr31⟩) (by assumption) ?nr31
                  case yr31 => (intro w hSw; (try dsimp only at hSw); go_simp; (try with_reducible rfl))
                  try simp only [List.getElem_toArray, List.getElem_cons_succ, List.getElem_cons_zero, Act.put, List.setIfInBounds_toArray, List.set_cons_succ, List.set_cons_zero]
                  refine wpAnyH_take (i := 32) (v := ?vr32) rfl (by kernel_rfl) (by kernel_rfl) (by kernel_rfl) (fun _ _ _ h => h) (Or.inl ⟨by rfl, ?yr32⟩) (by assumption) ?nr32
                  case yr32 => (intro w hSw; (try dsimp only at hSw); go_simp; (try with_reducible rfl))
                  try simp only [List.getElem_toArray, List.getElem_cons_succ, List.getElem_cons_zero, Act.put, List.setIfInBounds_toArray, List.set_cons_succ, List.set_cons_zero]
                  refine wpAnyH_ready (rs := [30]) (by kernel_rfl) (by simp) ?_
                  refine AllReadyH.cons rfl (fun K hK => ?_) AllReadyH.nil
                  go_simp
                  refine (left_def _ _ (HGG.out _ hHeld) s0).mono ?_; rintro e w' ⟨rfl, rfl⟩
                  refine hK.out _ _ ?_ (fun hHeld => ?_)
                  · first | exact HS0.out | assumption | exact HK.out _ _ (by assumption) (by assumption)
                  clear hK K
                  try simp only [List.getElem_toArray, List.getElem_cons_succ, List.getElem_cons_zero, Act.put, List.setIfInBounds_toArray, List.set_cons_succ, List.set_cons_zero]
                  refine wpAnyH_ready (rs := [33]) (by kernel_rfl) (by simp) ?_
                  refine AllReadyH.cons rfl (fun K hK => ?_) AllReadyH.nil
                  go_simp
                  refine (rleft_lit HL2.out HM2.out _ _ (HRR.out _ hHeld) HWF.out HE2.out s0).mono ?_; rintro e w' ⟨rfl, hcc⟩
                  refine hK.out _ _ ?_ (fun hHeld => ?_)
                  · first | exact HS0.out | assumption | exact HK.out _ _ (by assumption) (by assumption)
                  clear hK K
                  try simp only [List.getElem_toArray, List.getElem_cons_succ, List.getElem_cons_zero, Act.put, List.setIfInBounds_toArray, List.set_cons_succ, List.set_cons_zero]
                  refine wpAnyH_take (i := 34) (v := ?vr34) rfl (by kernel_rfl) (by kernel_rfl) (by kernel_rfl) (fun _ _ _ h => h) (Or.inl ⟨by rfl, ?yr34⟩) (by assumption) ?nr34
                  case yr34 => (intro w hSw; (try dsimp only at hSw); go_simp; (try with_reducible rfl))
                  try simp only [List.getElem_toArray, List.getElem_cons_succ, List.getElem_cons_zero, Act.put, List.setIfInBounds_toArray, List.set_cons_succ, List.set_cons_zero]
                  refine wpAnyH_take (i := 35) (v := ?vr35) rfl (by kernel_rfl) (by kernel_rfl) (by kernel_rfl) (fun _ _ _ h => h) (Or.inl ⟨by rfl, ?yr35⟩) (by assumption) ?nr35
                  case yr35 => (intro w hSw; (try dsimp only at hSw); go_simp; (try with_reducible rfl))
                  try simp only [List.getElem_toArray, List.getElem_cons_succ, List.getElem_cons_zero, Act.put, List.setIfInBounds_toArray, List.set_cons_succ, List.set_cons_zero]
                  refine wpAnyH_done (by kernel_rfl) ?_ _
                  all_goals go_wp2_with fail
                  all_goals go_meet
                  all_goals exact ⟨rfl, And.left (by assumption)⟩
              case rest =>
                obtain ⟨rfl, hP⟩ := hcut
                go_wp2_with fail
                go_roundw
                case rel => exact ⟨k + 1, bq, cq, by omega, by go_num, by rw [HX.out]; exact hP.1, by rw [HX.out]; exact hP.2.1, hP.2.2.1, hP.2.2.2.2⟩
                case measure => simp [intOf]; omega
      · go_wp2_with fail
        refine (awake_any _).mono ?_
        rintro e w2 ⟨rfl, hc⟩
        go_wp2_with fail
        go_ret
        exact ⟨rfl, hcr.trans hc⟩

theorem grantPlays_lifted (os : Os) (started : os.Started) (H : Type) (enc : TypeId × Value → H) :
    ReturnsInHanded {} Try.checked os 5 .any (Rows.grantPlaysSpec.pre6 enc Try.prog Try.f5 Rows.grantPlaysRow.domain false) (Rows.grantPlaysSpec.post enc Try.prog Try.f5 false true false false) := by
  refine law_lifted (C := Try.checked) (tb := 4) (by kernel_rfl) (by kernel_rfl) Try.func5 rfl (fun H ds h => ?_) rfl Try.underlying4 (by kernel_rfl) (by decide +kernel) os started H enc
    (ChangeSpec.witness6 (enc := enc) (C := Try.checked) false ⟨#[], #[.int .i64 0, .int .i64 0, .slice none 0 0, .int .u64 0], []⟩ 8 (by kernel_rfl) (by kernel_rfl) (by kernel_rfl) (by kernel_rfl)) ?_
  · match ds, h with | [a, b, c, d], _ => rfl
  · intro W base args ha hv
    obtain ⟨v0, v1, v2, v3, rfl⟩ : ∃ v0 v1 v2 v3, args = [v0, v1, v2, v3] := by match args, ha with | [a, b, c, d], _ => exact ⟨a, b, c, d, rfl⟩
    obtain ⟨n, rfl, w0⟩ := arg_int Try.underlying3 (hv 0 3 v0 rfl rfl)
    obtain ⟨me, rfl, w1⟩ := arg_int Try.underlying3 (hv 1 3 v1 rfl rfl)
    obtain ⟨ao, l, cap, rfl, hl, hA⟩ := acts_of (hv 2 22 v2 rfl rfl)
    obtain ⟨seq, rfl, w3⟩ := arg_int Try.underlying26 (hv 3 26 v3 rfl rfl)
    exact (plays_walk n me ao l cap seq W hl (bounds_u64 w3).1 hA).mono fun e W' ⟨h1, h2⟩ => ⟨h1, h2.below⟩

theorem grantPlays_holds : Rows.GrantPlaysSaid :=
  OpenClaim.holds_of_wide 5 Try.f5 rfl rfl rfl rfl rfl rfl rfl ⟨rfl, rfl, rfl, rfl, rfl⟩ rfl rfl rfl rfl rfl (by kernel_rfl) Try.func5 (by kernel_rfl)
    (of_decide_eq_true (by kernel_rfl)) (by unfold Func.isWrapper; first | (rw [if_pos (by decide +kernel)]; kernel_rfl) | (rw [if_neg (by decide +kernel)]; exact ⟨rfl, rfl⟩))
    (fun os started H enc _ => grantPlays_lifted os started H enc)
#print axioms grantPlays_holds
end Go.Proofs.Ytdoebgbjpimkaaa
