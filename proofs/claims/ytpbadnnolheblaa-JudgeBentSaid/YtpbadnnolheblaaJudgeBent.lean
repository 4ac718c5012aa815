/-
  JudgeBent: two fronts, in one of which two neighbours were turned round, part there; one that ends in what it had ahead has that twice.
-/
import Derived.Test.YtpbadnnolheblaaJudgeBPlain
import Derived.Test.YtpbadnnolheblaaSentArg
import Derived.Test.YtpbadnnolheblaaJudgeAw
import Derived.Test.YtpbadnnolheblaaBytesArg
namespace Go.Proofs.Ytpbadnnolheblaa
open Go.ChangeShapes Go.WideShapes Go.ChangeAt Go.RowKit

theorem put3_cell {w : World} {g k T : Nat} {u0 u1 u2 v0 v1 v2 : Value} (h0 : w.cell? ⟨g, k, none⟩ = some u0) (h1 : w.cell? ⟨g, k + 1, none⟩ = some u1) (h2 : w.cell? ⟨g, k + 2, none⟩ = some u2) (hr : isRow w g T) :
    (((w.setCell ⟨g, k, none⟩ v0).setCell ⟨g, k + 1, none⟩ v1).setCell ⟨g, k + 2, none⟩ v2).cell? ⟨g, k, none⟩ = some v0 ∧
    (((w.setCell ⟨g, k, none⟩ v0).setCell ⟨g, k + 1, none⟩ v1).setCell ⟨g, k + 2, none⟩ v2).cell? ⟨g, k + 1, none⟩ = some v1 ∧
    (((w.setCell ⟨g, k, none⟩ v0).setCell ⟨g, k + 1, none⟩ v1).setCell ⟨g, k + 2, none⟩ v2).cell? ⟨g, k + 2, none⟩ = some v2 ∧
    (∀ o, o ≠ k → o ≠ k + 1 → o ≠ k + 2 → (((w.setCell ⟨g, k, none⟩ v0).setCell ⟨g, k + 1, none⟩ v1).setCell ⟨g, k + 2, none⟩ v2).cell? ⟨g, o, none⟩ = w.cell? ⟨g, o, none⟩) ∧
    Chg [g] w (((w.setCell ⟨g, k, none⟩ v0).setCell ⟨g, k + 1, none⟩ v1).setCell ⟨g, k + 2, none⟩ v2) ∧ isRow (((w.setCell ⟨g, k, none⟩ v0).setCell ⟨g, k + 1, none⟩ v1).setCell ⟨g, k + 2, none⟩ v2) g T := by
  have n01 : (⟨g, k + 1, none⟩ : Addr) ≠ ⟨g, k, none⟩ := by simp
  have n02 : (⟨g, k + 2, none⟩ : Addr) ≠ ⟨g, k, none⟩ := by simp
  have n12 : (⟨g, k + 2, none⟩ : Addr) ≠ ⟨g, k + 1, none⟩ := by simp
  refine ⟨?_, ?_, ?_, ?_, ?_, ((hr.set _ _).set _ _).set _ _⟩
  · rw [cell_set_ne n02, cell_set_ne n01, cell_set_eq h0]
  · rw [cell_set_ne n12]; exact cell_set_eq ((cell_set_ne n01.symm).trans h1)
  · exact cell_set_eq ((cell_set_ne n12.symm).trans ((cell_set_ne n02.symm).trans h2))
  · intro o a b c
    rw [cell_set_ne (by simp <;> omega), cell_set_ne (by simp <;> omega), cell_set_ne (by simp <;> omega)]
  · exact (((Chg.refl [g] w).setCell (.inl (by simp)) _).setCell (.inl (by simp)) _).setCell (.inl (by simp)) _

/-- The cells of deliveries lie in block g from its head on. -/
def cellsAt (w : World) (g : Nat) (n : Nat) (D : Nat → Dl) (V : Nat → Value) : Prop :=
  ∀ j, j < n → w.cell? ⟨g, j * 3, none⟩ = some (.int .u8 ((D j).f : Int)) ∧ w.cell? ⟨g, j * 3 + 1, none⟩ = some (.int .u64 ((D j).s : Int)) ∧ w.cell? ⟨g, j * 3 + 2, none⟩ = some (V j)
theorem cellsAt_log {w : World} {g n T : Nat} {D : Nat → Dl} {V : Nat → Value} (h : cellsAt w g n D V) (hr : isRow w g T) (hg : ∀ j, j < n → goodSl w (D j) (V j)) {l : List Dl} (hl : l.length = n) (hd : ∀ j, j < n → l.getD j Dl.z = D j) : isLog w (some ⟨g, 0, none⟩) l := by
  intro i hi
  obtain ⟨h1, h2, h3⟩ := h i (by omega)
  obtain ⟨a', ca, e, x⟩ := hg i (by omega)
  rw [hd i (by omega)]
  refine ⟨g, 0, a', ca, rfl, hr.lt, ?_, ?_, ?_, x⟩
  · rw [Nat.zero_add]; exact h1
  · rw [Nat.zero_add]; exact h2
  · rw [Nat.zero_add, h3, e]
theorem cellsAt_swap {w w1 w2 : World} {g n T i : Nat} {D : Nat → Dl} {V : Nat → Value} (h : cellsAt w g n D V) (hi : i + 1 < n) (hr : isRow w g T)
    (h1 : w1 = ((w.setCell ⟨g, i * 3, none⟩ (.int .u8 ((D (i + 1)).f : Int))).setCell ⟨g, i * 3 + 1, none⟩ (.int .u64 ((D (i + 1)).s : Int))).setCell ⟨g, i * 3 + 2, none⟩ (V (i + 1)))
    (h2 : w2 = ((w1.setCell ⟨g, (i + 1) * 3, none⟩ (.int .u8 ((D i).f : Int))).setCell ⟨g, (i + 1) * 3 + 1, none⟩ (.int .u64 ((D i).s : Int))).setCell ⟨g, (i + 1) * 3 + 2, none⟩ (V i)) :
    cellsAt w2 g n (fun j => D (sw i j)) (fun j => V (sw i j)) ∧ Chg [g] w w2 ∧ isRow w2 g T := by
  obtain ⟨a0, a1, a2⟩ := h i (by omega)
  obtain ⟨b0, b1, b2⟩ := h (i + 1) hi
  obtain ⟨p0, p1, p2, p3, p4, p5⟩ := put3_cell (v0 := .int .u8 ((D (i + 1)).f : Int)) (v1 := .int .u64 ((D (i + 1)).s : Int)) (v2 := V (i + 1)) a0 a1 a2 hr
  rw [← h1] at p0 p1 p2 p3 p4 p5
  have c0 := (p3 ((i + 1) * 3) (by omega) (by omega) (by omega)).trans b0
  have c1 := (p3 ((i + 1) * 3 + 1) (by omega) (by omega) (by omega)).trans b1
  have c2 := (p3 ((i + 1) * 3 + 2) (by omega) (by omega) (by omega)).trans b2
  obtain ⟨q0, q1, q2, q3, q4, q5⟩ := put3_cell (v0 := .int .u8 ((D i).f : Int)) (v1 := .int .u64 ((D i).s : Int)) (v2 := V i) c0 c1 c2 p5
  rw [← h2] at q0 q1 q2 q3 q4 q5
  refine ⟨fun j hj => ?_, p4.trans q4, q5⟩
  dsimp only
  by_cases e1 : j = i
  · subst e1
    have : sw j j = j + 1 := by unfold sw; rw [if_pos rfl]
    rw [this]
    exact ⟨(q3 _ (by omega) (by omega) (by omega)).trans p0, (q3 _ (by omega) (by omega) (by omega)).trans p1, (q3 _ (by omega) (by omega) (by omega)).trans p2⟩
  · by_cases e2 : j = i + 1
    · subst e2
      have : sw i (i + 1) = i := by unfold sw; rw [if_neg (by omega), if_pos rfl]
      rw [this]; exact ⟨q0, q1, q2⟩
    · have : sw i j = j := by unfold sw; rw [if_neg e1, if_neg e2]
      rw [this]
      obtain ⟨d0, d1, d2⟩ := h j hj
      exact ⟨((q3 _ (by omega) (by omega) (by omega)).trans (p3 _ (by omega) (by omega) (by omega))).trans d0, ((q3 _ (by omega) (by omega) (by omega)).trans (p3 _ (by omega) (by omega) (by omega))).trans d1,
        ((q3 _ (by omega) (by omega) (by omega)).trans (p3 _ (by omega) (by omega) (by omega))).trans d2⟩

theorem step_append_own {P : Program} (w : World) {ops : Array Oper} {o : Oper} {a : Act} {K : Act → World → Prop} {Q : Exit → Act → World → Prop} {E : Prop} (hgd : o.guard = none) (s x : Operand) (t : TypeId)
    (ho : o.op = .call { callee := .builtin .append, args := #[s, x], argTypes := #[t, t] })
    (base : Nat) (e : TypeId) (i : TypeInfo) (z : Value) (size bytes : Nat) (ht : P.underlying t = some (.slice e)) (hi : P.info? e = some i) (hz : i.zero = some z)
    (hsize : i.size = size) (hby : i.bytes = bytes) (hzs : z.cells.size = size) (hsz : 0 < size)
    (v : Value) (n : Nat) (xs : List Value) (hs : a.eval s = v) (hown : w.ownsRow base e size v n xs)
    (ad : Addr) (m c : Nat) (news : List Value) (hx : a.eval x = .slice (some ad) m c) (hl : news.length = m * size) (hnews : ∀ j u, news[j]? = some u → w.cell? (ad.add j) = some u) (h1 : ∀ u ∈ news, u.oneCell' = true)
    (h63 : n + m ≤ maxLen) (hbytes : (n + m) * bytes ≤ 140737488355328) (hbase : base ≤ w.heap.size)
    (h : ∀ v' w', w'.ownsRow base e size v' (n + m) (xs ++ news) → w.grownBy w' v.ownBlock → (v' = .slice none 0 0 ↔ v = .slice none 0 0 ∧ m = 0) → K (a.put o.dst v') w') :
    if Region.wanted o (yielded ops a.tmps) = true then Oper.wp P o a w K Q else E := by
  have hw : Region.wanted o (yielded ops a.tmps) = true := by simp [Region.wanted, hgd]
  rw [if_pos hw]
  exact wp_append_own w s x t ho base e i z size bytes ht hi hz hsize hby hzs hsz v n xs hs hown ad m c news hx hl hnews h1 h63 hbytes hbase h
theorem judged_bent {R : List Dl} (hnd : (ids R).Nodup) {i : Nat} (hi : i + 1 < R.length) {what : Nat} {p x : Int} (h : judged [R, bentOf R i] what p x) : what = 3 ∧ p = 1 ∧ x = (i : Int) := by
  have t0 : ∀ q, q < 2 → twice ([R, bentOf R i].getD q []) = none := by
    intro q hq
    match q, hq with
    | 0, _ => exact twice_none hnd
    | 1, _ => exact twice_none (bentOf_nodup hnd hi)
  have pb : partsAt ([R, bentOf R i].getD 0 []) ([R, bentOf R i].getD 1 []) = some i := parts_bent hnd hi
  rcases h with ⟨_, pn, xn, _, _, hp, ht, _⟩ | ⟨h1, _, p0, qn, xn, h2, h3, h4, h5, h6⟩ | ⟨_, _, _, _, hall⟩
  · rw [t0 pn (by simpa using hp)] at ht; cases ht
  · simp only [List.length_cons, List.length_nil] at h5
    obtain rfl : p0 = 0 := by omega
    obtain rfl : qn = 1 := by omega
    rw [pb] at h6
    cases h6
    exact ⟨h1, h2, h3⟩
  · have := hall 0 1 (by omega) (by simp)
    rw [pb] at this; cases this
theorem judged_twice {R : List Dl} (hnd : (ids R).Nodup) {d : Dl} (hd : d ∈ R) {what : Nat} {p x : Int} (h : judged [R, R ++ [d]] what p x) : what = 2 ∧ p = 1 ∧ x = (R.length : Int) := by
  have t0 : twice ([R, R ++ [d]].getD 0 []) = none := twice_none hnd
  have t1 : twice ([R, R ++ [d]].getD 1 []) = some R.length := twice_snoc hnd d hd
  rcases h with ⟨h1, pn, xn, h2, h3, hp, ht, _⟩ | ⟨_, hall, _⟩ | ⟨_, _, _, hall, _⟩
  · simp only [List.length_cons, List.length_nil] at hp
    have : pn = 0 ∨ pn = 1 := by omega
    rcases this with rfl | rfl
    · rw [t0] at ht; cases ht
    · rw [t1] at ht; cases ht; exact ⟨h1, h2, h3⟩
  · have := hall 1 (by simp); rw [t1] at this; cases this
  · have := hall 1 (by simp); rw [t1] at this; cases this

set_option maxRecDepth 100000 in
set_option maxHeartbeats 2000000 in
theorem bent_walk (w : World) (so : Option Addr) (S : List (List (List Nat))) (sc : Nat) (atv : Int) (hS : isSent w so S) (hSl : S.length ≤ maxLen) (h0 : 0 ≤ atv) (h1 : atv ≤ 65535) :
    Calls Try.prog 3 #[.slice so S.length sc, .int .u16 atv] w fun e w' => e = .returned (.bool true) ∧ Chg [] w w' := by
  have HSl := Lib.hid hSl
  unfold maxLen at hSl
  obtain ⟨i0, hi, hz0, hz1, hz2⟩ := info_parts Try.info_dl
  go_enter Try.func3, Try.ntmps3
  go_wp2_with fail
  have hc0 := (Chg.refl [] w).alloc (.cells #[] 27)
  generalize hB0 : w.heap.size = B0
  generalize w.alloc (.cells #[] 27) = W1 at *
  refine (great_any W1 so S sc (some ⟨B0, 0, none⟩) 0 (hS.keep0 hc0) HSl.out).mono ?_
  rintro e w' ⟨g, rfl, hg, rfl⟩
  cases g with
  | true =>
    go_wp2_with fail
    refine (awake_any _).mono ?_
    rintro e w2 ⟨rfl, hc⟩
    go_wp2_with fail
    go_ret
    exact ⟨rfl, hc0.trans hc⟩
  | false =>
    have hsm := hg rfl
    have hrl := row_len hsm
    have hnd := row_nodup hsm
    have hkn := row_kn hsm
    have h10 := hsm.1
    have hS1000 : S.length ≤ 1000 := by omega
    have hr1000 : ∀ r ∈ S, r.length ≤ 1000 := fun r hr => Nat.le_trans (hsm.2 r hr).1 (by omega)
    clear hg
    go_wp2_with fail
    refine (row_any w' so S sc (hS.keep0 hc0) hsm).mono ?_
    rintro e w2 ⟨ra, rc, rfl, hR, hr1, hr2, hc2⟩
    have hS2 := (hS.keep0 hc0).keep0 hc2
    have hcw2 := hc0.trans hc2
    generalize rowOf S = R at *
    unfold maxLen at hr2
    by_cases hlt : R.length < 2
    · go_wp2_with fail
      refine (awake_any _).mono ?_
      rintro e w3 ⟨rfl, hc⟩
      go_wp2_with fail
      go_ret
      exact ⟨rfl, hcw2.trans hc⟩
    · obtain ⟨rb, roff, rfl⟩ := hR.addr (show 0 < R.length by omega)
      have hmod : 0 ≤ atv % ((R.length : Int) - 1) ∧ atv % ((R.length : Int) - 1) < (R.length : Int) - 1 := ⟨Int.emod_nonneg _ (by omega), Int.emod_lt_of_pos _ (by omega)⟩
      obtain ⟨i, hiv⟩ : ∃ i : Nat, atv % ((R.length : Int) - 1) = (i : Int) := ⟨(atv % ((R.length : Int) - 1)).toNat, by omega⟩
      rw [hiv] at hmod
      have hi1 : i + 1 < R.length := by omega
      obtain ⟨ds, hds, hgd, hcell⟩ := log_cells hR
      have hdl : ds.length = R.length := by rw [← hds]; simp
      have hne : ¬ (R.length : Int) - 1 = 0 := by omega
      clear hmod
      go_upto_region 7 with fail
      rw [hiv]
      have hown : (w2.alloc (.cells #[] 34)).ownsRow w2.heap.size 34 3 (.slice (some ⟨w2.heap.size, 0, none⟩) 0 0) 0 (dcells []) :=
        ⟨by simp [dcells], .inr ⟨w2.heap.size, 0, #[], rfl, Nat.le_refl _, block_new _ _, Nat.le_refl _, by unfold maxLen; omega, rfl, rfl⟩⟩
      have hce := (Chg.refl [] w2).alloc (.cells #[] 34)
      have hcell2 : ∀ j u, (dcells ds)[j]? = some u → (w2.alloc (.cells #[] 34)).cell? ((⟨rb, roff, none⟩ : Addr).add j) = some u := fun j u hj => by
        have := hcell j u hj
        rw [Addr.add_mid] at this ⊢
        exact (hce.cell (p := ⟨rb, roff + j, none⟩) (cell_lt this).2 (by simp)).trans this
      have hone := dcells_one w2 ds hgd
      have hlen := (dcells_len ds).trans (by rw [hdl] : ds.length * 3 = R.length * 3)
      have HDS := Lib.hid hds
      have HIV := Lib.hid hiv
      clear hds hiv hne
      go_wp2_with (at_builtin; refine wpList_append_own _ rfl (.tmp 30) (.tmp 31) 27 rfl w2.heap.size 34 i0 (.agg #[.int .u8 0, .int .u64 0, .slice none 0 0]) 3 40 Try.underlying27 hi hz0 hz1 hz2 rfl (by decide) _ 0 (dcells []) rfl hown ⟨rb, roff, none⟩ R.length rc (dcells ds) rfl hlen hcell2 hone ?c3 ?c4 ?c5 ?_)
      case c3 => unfold maxLen; omega
      case c4 => omega
      case c5 => simp
      intro v' w4 hown' hgrow _
      have hgr := Chg.of_grown (S := (Value.slice (some ⟨w2.heap.size, 0, none⟩) 0 0).ownBlock.toList) hgrow (by simp)
      have hc24 : Chg [] w2 w4 := hce.then hgr (by
        intro q hq; right
        have : q = w2.heap.size := by simpa [Value.ownBlock] using hq
        omega)
      obtain ⟨go, gcap, rfl, -, hlg, hgc1, hgc2, hgo⟩ := owned_log hown' (fun x hx => (hgd x hx).keep0 hc24)
      rw [HDS.out] at hlg
      have hmapl : (ds.map (·.1)).length = R.length := by rw [HDS.out]
      rw [hmapl] at hown' ⊢
      obtain ⟨g, goff, rfl⟩ := hlg.addr (show 0 < R.length by omega)
      obtain ⟨hgb, rfl, hgrow2⟩ := hgo g goff rfl
      have hca : cellsAt w4 g R.length (fun j => R.getD j Dl.z) (fun j => (ds.getD j (Dl.z, .int .u8 0)).2) := by
        intro j hj
        have hjd : j < ds.length := by omega
        obtain ⟨e1, e2, e3⟩ := dcells_get ds j hjd
        have hx := fun o ho => hown'.cellAt o ho
        have hR2 : R.getD j Dl.z = ds[j].1 := by rw [← HDS.out]; simp [List.getD, hjd]
        have hV : (ds.getD j (Dl.z, .int .u8 0)).2 = ds[j].2 := by simp [List.getD, hjd]
        dsimp only
        rw [hR2, hV]
        exact ⟨(hx _ (by omega)).trans e1, (hx _ (by omega)).trans e2, (hx _ (by omega)).trans e3⟩
      have hgood : ∀ j, j < R.length → goodSl w2 (R.getD j Dl.z) (ds.getD j (Dl.z, .int .u8 0)).2 := by
        intro j hj
        have hjd : j < ds.length := by omega
        have hR2 : R.getD j Dl.z = ds[j].1 := by rw [← HDS.out]; simp [List.getD, hjd]
        have hV : (ds.getD j (Dl.z, .int .u8 0)).2 = ds[j].2 := by simp [List.getD, hjd]
        rw [hR2, hV]
        exact hgd _ (List.getElem_mem hjd)
      have hR4 := hR.keep0 hc24
      have hS4 := hS2.keep0 hc24
      have hcw4 := hcw2.trans hc24
      have hgw : w.heap.size ≤ g := Nat.le_trans (Nat.le_trans hcw2.size (Nat.le_refl _)) hgb
      clear hown hown' hgrow hgr hcell hcell2 hone hlen hce hgo hlg
      have HCA := Lib.hid hca
      obtain ⟨a0, a1, a2⟩ := hca i (by omega)
      obtain ⟨b0, b1, b2⟩ := hca (i + 1) hi1
      dsimp only at a0 a1 a2 b0 b1 b2
      obtain ⟨cs, hcs⟩ := hgrow2
      have hfr := fun o => free_of_block hcs o
      have hgi := hgood i (by omega)
      have hgj := hgood (i + 1) hi1
      generalize hDi : R.getD i Dl.z = Di at *
      generalize hDj : R.getD (i + 1) Dl.z = Dj at *
      generalize hVi : (ds.getD i (Dl.z, .int .u8 0)).2 = Vi at *
      generalize hVj : (ds.getD (i + 1) (Dl.z, .int .u8 0)).2 = Vj at *
      have HE := Lib.hid (And.intro hDi (And.intro hDj (And.intro hVi hVj)))
      clear hDi hDj hVi hVj hca
      have hf0 := hfr (i * 3)
      have hf1 := hfr (i * 3 + 1)
      have hf2 := hfr (i * 3 + 2)
      have hf3 := hfr ((i + 1) * 3)
      have hf4 := hfr ((i + 1) * 3 + 1)
      have hf5 := hfr ((i + 1) * 3 + 2)
      have hid1 : (i : Int) < (R.length : Int) := by omega
      have hid2 : (i : Int) + 1 < (R.length : Int) := by omega
      clear hfr
      have HDL := Lib.hid hdl
      clear hdl hmapl
      obtain ⟨ai, ci, rfl, _⟩ := hgi
      obtain ⟨aj, cj, rfl, _⟩ := hgj
      go_upto_region 8 with fail
      go_region
      have hsw := cellsAt_swap (w1 := _) (w2 := _) HCA.out hi1 ⟨cs, hcs⟩ rfl rfl
      rw [HE.out.1, HE.out.2.1, HE.out.2.2.1, HE.out.2.2.2] at hsw
      generalize (((((w4.setCell ⟨g, i * 3, none⟩ (.int .u8 (Dj.f : Int))).setCell ⟨g, i * 3 + 1, none⟩ (.int .u64 (Dj.s : Int))).setCell ⟨g, i * 3 + 2, none⟩ (.slice aj Dj.p.length cj)).setCell ⟨g, (i + 1) * 3, none⟩ (.int .u8 (Di.f : Int))).setCell ⟨g, (i + 1) * 3 + 1, none⟩ (.int .u64 (Di.s : Int))).setCell ⟨g, (i + 1) * 3 + 2, none⟩ (.slice ai Di.p.length ci) = w5 at *
      obtain ⟨hs1, hs2, hs3⟩ := hsw
      have hc25 : Chg [] w2 w5.drew := (hc24.then hs2 (by simp; exact hgb)).drew
      have hbent : isLog w5.drew (some ⟨g, 0, none⟩) (bentOf R i) := (cellsAt_log hs1 hs3 (fun j hj => (hgood _ (sw_lt hi1 hj)).keep0 (hc24.then hs2 (by simp; exact hgb))) (bentOf_len R i) (fun j hj => bentOf_get R hi1 j)).keep0 (Chg.refl [] _).drew
      have hR5 := hR.keep0 hc25
      have hS5 := hS2.keep0 hc25
      have hcw5 := hcw2.trans hc25
      have hDiR : Di ∈ R := by rw [← HE.out.1]; simp [List.getD, show i < R.length by omega]
      clear a0 a1 a2 b0 b1 b2 hf0 hf1 hf2 hf3 hf4 hf5 hcs hs1 hs2 hs3 hR4 hS4 hcw4 hc24
      generalize w5.drew = w5 at *
      have hkn1 : ∀ l ∈ [R, bentOf R i], ∀ d ∈ l, kn S d ∧ d.wf := by
        intro l hl d hd
        simp only [List.mem_cons, List.not_mem_nil, or_false] at hl
        rcases hl with rfl | rfl
        · exact hkn d hd
        · exact hkn d (bentOf_mem hi1 hd)
      have hkn2 : ∀ l ∈ [R, R ++ [Di]], ∀ d ∈ l, kn S d := by
        intro l hl d hd
        simp only [List.mem_cons, List.not_mem_nil, or_false] at hl
        rcases hl with rfl | rfl
        · exact (hkn d hd).1
        · rcases List.mem_append.1 hd with h | h
          · exact (hkn d h).1
          · simp only [List.mem_singleton] at h; subst h; exact (hkn _ hDiR).1
      have hwf2 : ∀ l ∈ [R, R ++ [Di]], ∀ d ∈ l, d.wf := by
        intro l hl d hd
        simp only [List.mem_cons, List.not_mem_nil, or_false] at hl
        rcases hl with rfl | rfl
        · exact (hkn d hd).2
        · rcases List.mem_append.1 hd with h | h
          · exact (hkn d h).2
          · simp only [List.mem_singleton] at h; subst h; exact (hkn _ hDiR).2
      have hlens1 : ∀ l ∈ [R, bentOf R i], l.length ≤ 100000 := by intro l hl; simp only [List.mem_cons, List.not_mem_nil, or_false] at hl; rcases hl with rfl | rfl; omega; rw [bentOf_len]; omega
      have hlens2 : ∀ l ∈ [R, R ++ [Di]], l.length ≤ 100000 := by intro l hl; simp only [List.mem_cons, List.not_mem_nil, or_false] at hl; rcases hl with rfl | rfl; omega; simp; omega
      have HKN1 := Lib.hid hkn1
      clear hkn1
      go_wp2_with fail
      have k9 := block_new w5 (.cells #[.slice (some ⟨rb, roff, none⟩) R.length rc, .slice (some ⟨g, 0, none⟩) R.length gcap] 27)
      have c9 := (Chg.refl [] w5).alloc (.cells #[.slice (some ⟨rb, roff, none⟩) R.length rc, .slice (some ⟨g, 0, none⟩) R.length gcap] 27)
      generalize w5.alloc (.cells #[.slice (some ⟨rb, roff, none⟩) R.length rc, .slice (some ⟨g, 0, none⟩) R.length gcap] 27) = w6 at *
      refine (judge_known w6 so S sc _ [R, bentOf R i] 2 (hS5.keep0 c9) hS1000 hr1000 (two_logs k9 rfl (bentOf_len R i) (hR5.keep0 c9) (hbent.keep0 c9)) (by simp) hlens1 (fun l hl d hd => (HKN1.out l hl d hd).1) (fun l hl d hd => (HKN1.out l hl d hd).2)).mono ?_
      rintro e w7 ⟨what, pp, xx, rfl, hjd, hc7⟩
      obtain ⟨rfl, rfl, rfl⟩ := judged_bent hnd hi1 hjd
      have hc57 := c9.trans hc7
      have hR7 := hR5.keep0 hc57
      have hS7 := hS5.keep0 hc57
      have hbent7 := hbent.keep0 hc57
      have hcw7 := hcw5.trans hc57
      clear hjd k9 c9 hc7 hbent hR5 hS5
      obtain ⟨ds7, hds7, hgd7, hcell7⟩ := log_cells hR7
      have hdl7 : ds7.length = R.length := by rw [← hds7]; simp
      have hlen7 : (dcells ds7).length = R.length * 3 := by rw [dcells_len, hdl7]
      have hone7 := dcells_one w7 ds7 hgd7
      clear HDS
      have HDS := Lib.hid hds7
      obtain ⟨ai, ci, hb7, l0, l1, l2, l3, l4, l5, l6⟩ := hR7.at (show i < R.length by omega)
      rw [HE.out.1] at l0 l1 l2 l3 l4
      have hgood7 : goodSl w7 Di (.slice ai Di.p.length ci) := ⟨ai, ci, rfl, l3, l4, l5, l6⟩
      have hdc1 : dcells [(Di, Value.slice ai Di.p.length ci)] = [Value.int .u8 (Di.f : Int), .int .u64 (Di.s : Int), .slice ai Di.p.length ci] := rfl
      have hsrc : ∀ wx, Chg [] w7 wx → ∀ j u, (dcells ds7)[j]? = some u → wx.cell? ((⟨rb, roff, none⟩ : Addr).add j) = some u := fun wx hc j u hj => by
        have := hcell7 j u hj
        rw [Addr.add_mid] at this ⊢
        exact (hc.cell (p := ⟨rb, roff + j, none⟩) (cell_lt this).2 (by simp)).trans this
      have HK10 := Lib.hid (show ∀ w', Chg [] w7 w' → (w'.cell? ⟨rb, roff + i * 3, none⟩ = some (.int .u8 (Di.f : Int)) ∧ w'.cell? ⟨rb, roff + i * 3 + 1, none⟩ = some (.int .u64 (Di.s : Int)) ∧ w'.cell? ⟨rb, roff + i * 3 + 2, none⟩ = some (.slice ai Di.p.length ci)) ∧ Chg [] w7 w' from
        fun w' hc => ⟨⟨(hc.cell (p := ⟨rb, roff + i * 3, none⟩) hb7 (by simp)).trans l0, (hc.cell (p := ⟨rb, roff + i * 3 + 1, none⟩) hb7 (by simp)).trans l1, (hc.cell (p := ⟨rb, roff + i * 3 + 2, none⟩) hb7 (by simp)).trans l2⟩, hc⟩)
      clear hds7 hcell7 hdl7 l0 l1 l2
      go_upto_region 10 with fail
      go_cut [11, 12, 13] from 58 to 74 (fun s11 s12 s13 wx => s11 = .int .u8 2 ∧ s12 = .int .i64 1 ∧ s13 = .int .i64 (R.length : Int) ∧ Chg [] w7 wx)
      case first =>
        have C0 : Chg [] w7 w7.drew := (Chg.refl _ _).drew
        refine wp_region_held_drew (S := fun w' => (w'.cell? ⟨rb, roff + i * 3, none⟩ = some (.int .u8 (Di.f : Int)) ∧ w'.cell? ⟨rb, roff + i * 3 + 1, none⟩ = some (.int .u64 (Di.s : Int)) ∧ w'.cell? ⟨rb, roff + i * 3 + 2, none⟩ = some (.slice ai Di.p.length ci)) ∧ Chg [] w7 w') (by kernel_rfl) ?_ (fun hHeld => ?_)
        · exact HK10.out _ C0
        refine wpAnyH_take (i := 0) (v := ?vt1_0) rfl (by kernel_rfl) (by kernel_rfl) (by kernel_rfl) (fun _ _ _ h => h) (Or.inl ⟨by rfl, ?yt1_0⟩) (by assumption) ?nt1_0
        case yt1_0 => (intro w hSw; (try dsimp only at hSw); go_simp; (try with_reducible rfl))
        try simp only [List.getElem_toArray, List.getElem_cons_succ, List.getElem_cons_zero, Act.put, List.setIfInBounds_toArray, List.set_cons_succ, List.set_cons_zero]
        refine wpAnyH_take (i := 1) (v := ?vt2_1) rfl (by kernel_rfl) (by kernel_rfl) (by kernel_rfl) (fun _ _ _ h => h) (Or.inl ⟨by rfl, ?yt2_1⟩) (by assumption) ?nt2_1
        case yt2_1 => (intro w hSw; (try dsimp only at hSw); go_simp; (try with_reducible rfl))
        try simp only [List.getElem_toArray, List.getElem_cons_succ, List.getElem_cons_zero, Act.put, List.setIfInBounds_toArray, List.set_cons_succ, List.set_cons_zero]
        refine wpAnyH_take (i := 3) (v := ?vt3_3) rfl (by kernel_rfl) (by kernel_rfl) (by kernel_rfl) (fun _ _ _ h => h) (Or.inl ⟨by rfl, ?yt3_3⟩) (by assumption) ?nt3_3
        case yt3_3 => (intro w hSw; (try dsimp only at hSw); go_simp; (try with_reducible rfl))
        try simp only [List.getElem_toArray, List.getElem_cons_succ, List.getElem_cons_zero, Act.put, List.setIfInBounds_toArray, List.set_cons_succ, List.set_cons_zero]
        refine wpAnyH_take (i := 5) (v := ?vt4_5) rfl (by kernel_rfl) (by kernel_rfl) (by kernel_rfl) (fun _ _ _ h => h) (Or.inl ⟨by rfl, ?yt4_5⟩) (by assumption) ?nt4_5
        case yt4_5 => (intro w hSw; (try dsimp only at hSw); go_simp; (try with_reducible rfl))
        try simp only [List.getElem_toArray, List.getElem_cons_succ, List.getElem_cons_zero, Act.put, List.setIfInBounds_toArray, List.set_cons_succ, List.set_cons_zero]
        refine wpAnyH_take (i := 6) (v := ?vt5_6) rfl (by kernel_rfl) (by kernel_rfl) (by kernel_rfl) (fun _ _ _ h => h) (Or.inl ⟨by rfl, ?yt5_6⟩) (by assumption) ?nt5_6
        case yt5_6 => (intro w hSw; (try dsimp only at hSw); go_simp; (try with_reducible rfl))
        try simp only [List.getElem_toArray, List.getElem_cons_succ, List.getElem_cons_zero, Act.put, List.setIfInBounds_toArray, List.set_cons_succ, List.set_cons_zero]
        refine wpAnyH_take (i := 7) (v := ?vt6_7) rfl (by kernel_rfl) (by kernel_rfl) (by kernel_rfl) (fun _ _ _ h => h) (Or.inl ⟨by rfl, ?yt6_7⟩) (by assumption) ?nt6_7
        case yt6_7 => (intro w hSw; (try dsimp only at hSw); go_simp; (try with_reducible rfl))
        try simp only [List.getElem_toArray, List.getElem_cons_succ, List.getElem_cons_zero, Act.put, List.setIfInBounds_toArray, List.set_cons_succ, List.set_cons_zero]
        refine wpAnyH_take (i := 8) (v := ?vt7_8) rfl (by kernel_rfl) (by kernel_rfl) (by kernel_rfl) (fun _ _ _ h => h) (Or.inl ⟨by rfl, ?yt7_8⟩) (by assumption) ?nt7_8
        case yt7_8 => (intro w hSw; (try dsimp only at hSw); go_simp; (try with_reducible rfl))
        try simp only [List.getElem_toArray, List.getElem_cons_succ, List.getElem_cons_zero, Act.put, List.setIfInBounds_toArray, List.set_cons_succ, List.set_cons_zero]
        refine wpAnyH_ready (rs := [2, 9]) (by kernel_rfl) (by simp) ?_
        refine (AllReadyH.cons rfl (fun K hK => ?_) (AllReadyH.cons rfl (fun K hK => ?_) AllReadyH.nil))
        · go_simp
          have hix2 : (w7.drew).heap.size = w7.heap.size := by simp
          have hnew2 : ((w7.drew).alloc (.cells #[] 34)).heap[w7.heap.size]? = some (.cells #[] 34) := hix2 ▸ block_new (w7.drew) (.cells #[] 34)
          have own0 : ((w7.drew).alloc (.cells #[] 34)).ownsRow w7.heap.size 34 3 (.slice (some ⟨w7.heap.size, 0, none⟩) 0 0) 0 (dcells []) := ⟨by simp [dcells], .inr ⟨w7.heap.size, 0, #[], rfl, by omega, hnew2, Nat.le_refl _, by unfold maxLen; omega, rfl, rfl⟩⟩
          have CE := C0.alloc (.cells #[] 34)
          have hszE : w7.heap.size ≤ w7.heap.size := by omega
          refine hK.out _ _ ?_ (fun hHeld => ?_)
          · exact HK10.out _ CE
          clear hK K
          try simp only [List.getElem_toArray, List.getElem_cons_succ, List.getElem_cons_zero, Act.put, List.setIfInBounds_toArray, List.set_cons_succ, List.set_cons_zero]
          refine wpAnyH_ready (rs := [4, 9]) (by kernel_rfl) (by simp) ?_
          refine (AllReadyH.cons rfl (fun K hK => ?_) (AllReadyH.cons rfl (fun K hK => ?_) AllReadyH.nil))
          · have src4 := hsrc _ CE
            refine step_append_own _ rfl (.tmp 61) (.tmp 62) 27 rfl w7.heap.size 34 i0 (.agg #[.int .u8 0, .int .u64 0, .slice none 0 0]) 3 40 Try.underlying27 hi hz0 hz1 hz2 rfl (by decide) (.slice (some ⟨w7.heap.size, 0, none⟩) 0 0) 0 (dcells []) rfl own0 ⟨rb, roff, none⟩ R.length rc (dcells ds7) rfl hlen7 src4 hone7 (by unfold maxLen; omega) (by omega) CE.size ?_
            intro v1 w8 own1 hgrow1 _
            have hgr1 := Chg.of_grown (S := [w7.heap.size]) hgrow1 (by simp [Value.ownBlock])
            have C4 : Chg [] w7 w8 := CE.then hgr1 (by intro q hq; right; simp only [List.mem_singleton] at hq; subst hq; assumption)
            have own1 : w8.ownsRow w7.heap.size 34 3 v1 R.length (dcells ds7) := by simpa [dcells] using own1
            refine hK.out _ _ ?_ (fun hHeld => ?_)
            · exact HK10.out _ C4
            clear hK K
            try simp only [List.getElem_toArray, List.getElem_cons_succ, List.getElem_cons_zero, Act.put, List.setIfInBounds_toArray, List.set_cons_succ, List.set_cons_zero]
            refine wpAnyH_ready (rs := [9]) (by kernel_rfl) (by simp) ?_
            refine AllReadyH.cons rfl (fun K hK => ?_) AllReadyH.nil
            go_simp
            have hix9 : (w8).heap.size = (w8).heap.size := by rfl
            have blk9 : ((w8).alloc (.cells #[.int .u8 (Di.f : Int), .int .u64 (Di.s : Int), .slice ai Di.p.length ci] 34)).heap[(w8).heap.size]? = some (.cells #[.int .u8 (Di.f : Int), .int .u64 (Di.s : Int), .slice ai Di.p.length ci] 34) := hix9 ▸ block_new (w8) (.cells #[.int .u8 (Di.f : Int), .int .u64 (Di.s : Int), .slice ai Di.p.length ci] 34)
            have C9 := C4.alloc (.cells #[.int .u8 (Di.f : Int), .int .u64 (Di.s : Int), .slice ai Di.p.length ci] 34)
            have hsz9 : w7.heap.size ≤ (w8).heap.size := C4.size
            have own9 := own1.alloc (.cells #[.int .u8 (Di.f : Int), .int .u64 (Di.s : Int), .slice ai Di.p.length ci] 34)
            refine hK.out _ _ ?_ (fun hHeld => ?_)
            · exact HK10.out _ C9
            clear hK K
            try simp only [List.getElem_toArray, List.getElem_cons_succ, List.getElem_cons_zero, Act.put, List.setIfInBounds_toArray, List.set_cons_succ, List.set_cons_zero]
            refine wpAnyH_ready (rs := [10]) (by kernel_rfl) (by simp) ?_
            refine AllReadyH.cons rfl (fun K hK => ?_) AllReadyH.nil
            have hnews : ∀ j u, [Value.int .u8 (Di.f : Int), .int .u64 (Di.s : Int), .slice ai Di.p.length ci][j]? = some u → World.cell? ((w8).alloc (.cells #[.int .u8 (Di.f : Int), .int .u64 (Di.s : Int), .slice ai Di.p.length ci] 34)) ((⟨(w8).heap.size, 0, none⟩ : Addr).add j) = some u := by
              intro j u hj
              match j, hj with
              | 0, hj => simp at hj; subst hj; rw [Addr.add_mid]; exact (cell_of_block blk9 0).trans rfl
              | 1, hj => simp at hj; subst hj; rw [Addr.add_mid]; exact (cell_of_block blk9 1).trans rfl
              | 2, hj => simp at hj; subst hj; rw [Addr.add_mid]; exact (cell_of_block blk9 2).trans rfl
            refine step_append_own _ rfl (.tmp 63) (.tmp 68) 27 rfl w7.heap.size 34 i0 (.agg #[.int .u8 0, .int .u64 0, .slice none 0 0]) 3 40 Try.underlying27 hi hz0 hz1 hz2 rfl (by decide) v1 R.length (dcells ds7) rfl own9 ⟨(w8).heap.size, 0, none⟩ 1 1 [Value.int .u8 (Di.f : Int), .int .u64 (Di.s : Int), .slice ai Di.p.length ci] rfl rfl hnews (by intro u hu; simp at hu; rcases hu with rfl | rfl | rfl <;> rfl) (by unfold maxLen; omega) (by omega) C9.size ?_
            intro v2 w9 own2 hgrow2 _
            have hgr2 := Chg.of_grown (S := v1.ownBlock.toList) hgrow2 (by simp)
            have C10 : Chg [] w7 w9 := C9.then hgr2 (by
              intro q hq; right
              have : v1.ownBlock = some q := by simpa using hq
              exact (own9.lt q this).1)
            rw [← hdc1, ← dcells_append] at own2
            obtain ⟨ao9, cap9, hv2, -, hlg9, -, -, -⟩ := owned_log own2 (fun x hx => (List.mem_append.1 hx).elim (fun h => (hgd7 x h).keep0 C10) (fun h => by simp only [List.mem_singleton] at h; subst h; exact hgood7.keep0 C10))
            rw [List.map_append, HDS.out] at hlg9 hv2
            subst hv2
            have hlg9' : isLog w9 ao9 (R ++ [Di]) := hlg9
            have hlen9 : (R ++ List.map (fun x => x.1) [(Di, Value.slice ai Di.p.length ci)]).length = R.length + 1 := by simp
            refine hK.out _ _ ?_ (fun hHeld => ?_)
            · exact HK10.out _ C10
            clear hK K
            try simp only [List.getElem_toArray, List.getElem_cons_succ, List.getElem_cons_zero, Act.put, List.setIfInBounds_toArray, List.set_cons_succ, List.set_cons_zero]
            refine wpAnyH_ready (rs := [11]) (by kernel_rfl) (by simp) ?_
            refine AllReadyH.cons rfl (fun K hK => ?_) AllReadyH.nil
            go_simp
            have k11 := block_new w9 (.cells #[.slice (some ⟨rb, roff, none⟩) R.length rc, .slice ao9 (R.length + 1) cap9] 27)
            have c11 := (Chg.refl [] w9).alloc (.cells #[.slice (some ⟨rb, roff, none⟩) R.length rc, .slice ao9 (R.length + 1) cap9] 27)
            have C11 := C10.alloc (.cells #[.slice (some ⟨rb, roff, none⟩) R.length rc, .slice ao9 (R.length + 1) cap9] 27)
            refine hK.out _ _ ?_ (fun hHeld => ?_)
            · exact HK10.out _ C11
            clear hK K
            try simp only [List.getElem_toArray, List.getElem_cons_succ, List.getElem_cons_zero, Act.put, List.setIfInBounds_toArray, List.set_cons_succ, List.set_cons_zero]
            refine wpAnyH_ready (rs := [12]) (by kernel_rfl) (by simp) ?_
            refine AllReadyH.cons rfl (fun K hK => ?_) AllReadyH.nil
            go_simp
            have hlogs := two_logs (l := R) (m := R ++ [Di]) k11 rfl (by simp) ((hR7.keep0 C10).keep0 c11) (hlg9'.keep0 c11)
            refine (judge_known _ so S sc _ [R, R ++ [Di]] 2 ((hS7.keep0 C10).keep0 c11) hS1000 hr1000 hlogs (by simp) hlens2 hkn2 hwf2).mono ?_
            rintro e w10 ⟨what, pp, xx, rfl, hjd, hc10⟩
            obtain ⟨rfl, rfl, rfl⟩ := judged_twice hnd hDiR hjd
            have C12 := C11.trans hc10
            refine hK.out _ _ ?_ (fun hHeld => ?_)
            · exact HK10.out _ C12
            clear hK K
            try simp only [List.getElem_toArray, List.getElem_cons_succ, List.getElem_cons_zero, Act.put, List.setIfInBounds_toArray, List.set_cons_succ, List.set_cons_zero]
            refine wpAnyH_take (i := 13) (v := ?vt8_13) rfl (by kernel_rfl) (by kernel_rfl) (by kernel_rfl) (fun _ _ _ h => h) (Or.inl ⟨by rfl, ?yt8_13⟩) (by assumption) ?nt8_13
            case yt8_13 => (intro w hSw; (try dsimp only at hSw); go_simp; (try with_reducible rfl))
            try simp only [List.getElem_toArray, List.getElem_cons_succ, List.getElem_cons_zero, Act.put, List.setIfInBounds_toArray, List.set_cons_succ, List.set_cons_zero]
            refine wpAnyH_take (i := 14) (v := ?vt9_14) rfl (by kernel_rfl) (by kernel_rfl) (by kernel_rfl) (fun _ _ _ h => h) (Or.inl ⟨by rfl, ?yt9_14⟩) (by assumption) ?nt9_14
            case yt9_14 => (intro w hSw; (try dsimp only at hSw); go_simp; (try with_reducible rfl))
            try simp only [List.getElem_toArray, List.getElem_cons_succ, List.getElem_cons_zero, Act.put, List.setIfInBounds_toArray, List.set_cons_succ, List.set_cons_zero]
            refine wpAnyH_take (i := 15) (v := ?vt10_15) rfl (by kernel_rfl) (by kernel_rfl) (by kernel_rfl) (fun _ _ _ h => h) (Or.inl ⟨by rfl, ?yt10_15⟩) (by assumption) ?nt10_15
            case yt10_15 => (intro w hSw; (try dsimp only at hSw); go_simp; (try with_reducible rfl))
            try simp only [List.getElem_toArray, List.getElem_cons_succ, List.getElem_cons_zero, Act.put, List.setIfInBounds_toArray, List.set_cons_succ, List.set_cons_zero]
            refine wpAnyH_take (i := 16) (v := ?vt11_16) rfl (by kernel_rfl) (by kernel_rfl) (by kernel_rfl) (fun _ _ _ h => h) (Or.inl ⟨by rfl, ?yt11_16⟩) (by assumption) ?nt11_16
            case yt11_16 => (intro w hSw; (try dsimp only at hSw); go_simp; (try with_reducible rfl))
            try simp only [List.getElem_toArray, List.getElem_cons_succ, List.getElem_cons_zero, Act.put, List.setIfInBounds_toArray, List.set_cons_succ, List.set_cons_zero]
            refine wpAnyH_take (i := 17) (v := ?vt12_17) rfl (by kernel_rfl) (by kernel_rfl) (by kernel_rfl) (fun _ _ _ h => h) (Or.inl ⟨by rfl, ?yt12_17⟩) (by assumption) ?nt12_17
            case yt12_17 => (intro w hSw; (try dsimp only at hSw); go_simp; (try with_reducible rfl))
            try simp only [List.getElem_toArray, List.getElem_cons_succ, List.getElem_cons_zero, Act.put, List.setIfInBounds_toArray, List.set_cons_succ, List.set_cons_zero]
            refine wpAnyH_take (i := 18) (v := ?vt13_18) rfl (by kernel_rfl) (by kernel_rfl) (by kernel_rfl) (fun _ _ _ h => h) (Or.inl ⟨by rfl, ?yt13_18⟩) (by assumption) ?nt13_18
            case yt13_18 => (intro w hSw; (try dsimp only at hSw); go_simp; (try with_reducible rfl))
            try simp only [List.getElem_toArray, List.getElem_cons_succ, List.getElem_cons_zero, Act.put, List.setIfInBounds_toArray, List.set_cons_succ, List.set_cons_zero]
            refine wpAnyH_take (i := 19) (v := ?vt14_19) rfl (by kernel_rfl) (by kernel_rfl) (by kernel_rfl) (fun _ _ _ h => h) (Or.inl ⟨by rfl, ?yt14_19⟩) (by assumption) ?nt14_19
            case yt14_19 => (intro w hSw; (try dsimp only at hSw); go_simp; (try with_reducible rfl))
            try simp only [List.getElem_toArray, List.getElem_cons_succ, List.getElem_cons_zero, Act.put, List.setIfInBounds_toArray, List.set_cons_succ, List.set_cons_zero]
            refine wpAnyH_done (by kernel_rfl) ?_ _
            go_wp2_with fail
            go_meet
            exact ⟨rfl, rfl, rfl, C12⟩
          · go_simp
            have hix9 : (((w7.drew).alloc (.cells #[] 34))).heap.size = w7.heap.size + 1 := by simp
            have blk9 : ((((w7.drew).alloc (.cells #[] 34))).alloc (.cells #[.int .u8 (Di.f : Int), .int .u64 (Di.s : Int), .slice ai Di.p.length ci] 34)).heap[w7.heap.size + 1]? = some (.cells #[.int .u8 (Di.f : Int), .int .u64 (Di.s : Int), .slice ai Di.p.length ci] 34) := hix9 ▸ block_new (((w7.drew).alloc (.cells #[] 34))) (.cells #[.int .u8 (Di.f : Int), .int .u64 (Di.s : Int), .slice ai Di.p.length ci] 34)
            have C9 := CE.alloc (.cells #[.int .u8 (Di.f : Int), .int .u64 (Di.s : Int), .slice ai Di.p.length ci] 34)
            have hsz9 : w7.heap.size ≤ (((w7.drew).alloc (.cells #[] 34))).heap.size := CE.size
            have own9 := own0.alloc (.cells #[.int .u8 (Di.f : Int), .int .u64 (Di.s : Int), .slice ai Di.p.length ci] 34)
            refine hK.out _ _ ?_ (fun hHeld => ?_)
            · exact HK10.out _ C9
            clear hK K
            try simp only [List.getElem_toArray, List.getElem_cons_succ, List.getElem_cons_zero, Act.put, List.setIfInBounds_toArray, List.set_cons_succ, List.set_cons_zero]
            refine wpAnyH_ready (rs := [4]) (by kernel_rfl) (by simp) ?_
            refine AllReadyH.cons rfl (fun K hK => ?_) AllReadyH.nil
            have src4 := hsrc _ C9
            refine step_append_own _ rfl (.tmp 61) (.tmp 62) 27 rfl w7.heap.size 34 i0 (.agg #[.int .u8 0, .int .u64 0, .slice none 0 0]) 3 40 Try.underlying27 hi hz0 hz1 hz2 rfl (by decide) (.slice (some ⟨w7.heap.size, 0, none⟩) 0 0) 0 (dcells []) rfl own9 ⟨rb, roff, none⟩ R.length rc (dcells ds7) rfl hlen7 src4 hone7 (by unfold maxLen; omega) (by omega) C9.size ?_
            intro v1 w8 own1 hgrow1 _
            have hgr1 := Chg.of_grown (S := [w7.heap.size]) hgrow1 (by simp [Value.ownBlock])
            have C4 : Chg [] w7 w8 := C9.then hgr1 (by intro q hq; right; simp only [List.mem_singleton] at hq; subst hq; assumption)
            have own1 : w8.ownsRow w7.heap.size 34 3 v1 R.length (dcells ds7) := by simpa [dcells] using own1
            have blk4 := hgr1.at blk9 (by simp)
            refine hK.out _ _ ?_ (fun hHeld => ?_)
            · exact HK10.out _ C4
            clear hK K
            try simp only [List.getElem_toArray, List.getElem_cons_succ, List.getElem_cons_zero, Act.put, List.setIfInBounds_toArray, List.set_cons_succ, List.set_cons_zero]
            refine wpAnyH_ready (rs := [10]) (by kernel_rfl) (by simp) ?_
            refine AllReadyH.cons rfl (fun K hK => ?_) AllReadyH.nil
            have hnews : ∀ j u, [Value.int .u8 (Di.f : Int), .int .u64 (Di.s : Int), .slice ai Di.p.length ci][j]? = some u → World.cell? w8 ((⟨w7.heap.size + 1, 0, none⟩ : Addr).add j) = some u := by
              intro j u hj
              match j, hj with
              | 0, hj => simp at hj; subst hj; rw [Addr.add_mid]; exact (cell_of_block blk4 0).trans rfl
              | 1, hj => simp at hj; subst hj; rw [Addr.add_mid]; exact (cell_of_block blk4 1).trans rfl
              | 2, hj => simp at hj; subst hj; rw [Addr.add_mid]; exact (cell_of_block blk4 2).trans rfl
            refine step_append_own _ rfl (.tmp 63) (.tmp 68) 27 rfl w7.heap.size 34 i0 (.agg #[.int .u8 0, .int .u64 0, .slice none 0 0]) 3 40 Try.underlying27 hi hz0 hz1 hz2 rfl (by decide) v1 R.length (dcells ds7) rfl own1 ⟨w7.heap.size + 1, 0, none⟩ 1 1 [Value.int .u8 (Di.f : Int), .int .u64 (Di.s : Int), .slice ai Di.p.length ci] rfl rfl hnews (by intro u hu; simp at hu; rcases hu with rfl | rfl | rfl <;> rfl) (by unfold maxLen; omega) (by omega) C4.size ?_
            intro v2 w9 own2 hgrow2 _
            have hgr2 := Chg.of_grown (S := v1.ownBlock.toList) hgrow2 (by simp)
            have C10 : Chg [] w7 w9 := C4.then hgr2 (by
              intro q hq; right
              have : v1.ownBlock = some q := by simpa using hq
              exact (own1.lt q this).1)
            rw [← hdc1, ← dcells_append] at own2
            obtain ⟨ao9, cap9, hv2, -, hlg9, -, -, -⟩ := owned_log own2 (fun x hx => (List.mem_append.1 hx).elim (fun h => (hgd7 x h).keep0 C10) (fun h => by simp only [List.mem_singleton] at h; subst h; exact hgood7.keep0 C10))
            rw [List.map_append, HDS.out] at hlg9 hv2
            subst hv2
            have hlg9' : isLog w9 ao9 (R ++ [Di]) := hlg9
            have hlen9 : (R ++ List.map (fun x => x.1) [(Di, Value.slice ai Di.p.length ci)]).length = R.length + 1 := by simp
            refine hK.out _ _ ?_ (fun hHeld => ?_)
            · exact HK10.out _ C10
            clear hK K
            try simp only [List.getElem_toArray, List.getElem_cons_succ, List.getElem_cons_zero, Act.put, List.setIfInBounds_toArray, List.set_cons_succ, List.set_cons_zero]
            refine wpAnyH_ready (rs := [11]) (by kernel_rfl) (by simp) ?_
            refine AllReadyH.cons rfl (fun K hK => ?_) AllReadyH.nil
            go_simp
            have k11 := block_new w9 (.cells #[.slice (some ⟨rb, roff, none⟩) R.length rc, .slice ao9 (R.length + 1) cap9] 27)
            have c11 := (Chg.refl [] w9).alloc (.cells #[.slice (some ⟨rb, roff, none⟩) R.length rc, .slice ao9 (R.length + 1) cap9] 27)
            have C11 := C10.alloc (.cells #[.slice (some ⟨rb, roff, none⟩) R.length rc, .slice ao9 (R.length + 1) cap9] 27)
            refine hK.out _ _ ?_ (fun hHeld => ?_)
            · exact HK10.out _ C11
            clear hK K
            try simp only [List.getElem_toArray, List.getElem_cons_succ, List.getElem_cons_zero, Act.put, List.setIfInBounds_toArray, List.set_cons_succ, List.set_cons_zero]
            refine wpAnyH_ready (rs := [12]) (by kernel_rfl) (by simp) ?_
            refine AllReadyH.cons rfl (fun K hK => ?_) AllReadyH.nil
            go_simp
            have hlogs := two_logs (l := R) (m := R ++ [Di]) k11 rfl (by simp) ((hR7.keep0 C10).keep0 c11) (hlg9'.keep0 c11)
            refine (judge_known _ so S sc _ [R, R ++ [Di]] 2 ((hS7.keep0 C10).keep0 c11) hS1000 hr1000 hlogs (by simp) hlens2 hkn2 hwf2).mono ?_
            rintro e w10 ⟨what, pp, xx, rfl, hjd, hc10⟩
            obtain ⟨rfl, rfl, rfl⟩ := judged_twice hnd hDiR hjd
            have C12 := C11.trans hc10
            refine hK.out _ _ ?_ (fun hHeld => ?_)
            · exact HK10.out _ C12
            clear hK K
            try simp only [List.getElem_toArray, List.getElem_cons_succ, List.getElem_cons_zero, Act.put, List.setIfInBounds_toArray, List.set_cons_succ, List.set_cons_zero]
            refine wpAnyH_take (i := 13) (v := ?vt15_13) rfl (by kernel_rfl) (by kernel_rfl) (by kernel_rfl) (fun _ _ _ h => h) (Or.inl ⟨by rfl, ?yt15_13⟩) (by assumption) ?nt15_13
            case yt15_13 => (intro w hSw; (try dsimp only at hSw); go_simp; (try with_reducible rfl))
            try simp only [List.getElem_toArray, List.getElem_cons_succ, List.getElem_cons_zero, Act.put, List.setIfInBounds_toArray, List.set_cons_succ, List.set_cons_zero]
            refine wpAnyH_take (i := 14) (v := ?vt16_14) rfl (by kernel_rfl) (by kernel_rfl) (by kernel_rfl) (fun _ _ _ h => h) (Or.inl ⟨by rfl, ?yt16_14⟩) (by assumption) ?nt16_14
            case yt16_14 => (intro w hSw; (try dsimp only at hSw); go_simp; (try with_reducible rfl))
            try simp only [List.getElem_toArray, List.getElem_cons_succ, List.getElem_cons_zero, Act.put, List.setIfInBounds_toArray, List.set_cons_succ, List.set_cons_zero]
            refine wpAnyH_take (i := 15) (v := ?vt17_15) rfl (by kernel_rfl) (by kernel_rfl) (by kernel_rfl) (fun _ _ _ h => h) (Or.inl ⟨by rfl, ?yt17_15⟩) (by assumption) ?nt17_15
            case yt17_15 => (intro w hSw; (try dsimp only at hSw); go_simp; (try with_reducible rfl))
            try simp only [List.getElem_toArray, List.getElem_cons_succ, List.getElem_cons_zero, Act.put, List.setIfInBounds_toArray, List.set_cons_succ, List.set_cons_zero]
            refine wpAnyH_take (i := 16) (v := ?vt18_16) rfl (by kernel_rfl) (by kernel_rfl) (by kernel_rfl) (fun _ _ _ h => h) (Or.inl ⟨by rfl, ?yt18_16⟩) (by assumption) ?nt18_16
            case yt18_16 => (intro w hSw; (try dsimp only at hSw); go_simp; (try with_reducible rfl))
            try simp only [List.getElem_toArray, List.getElem_cons_succ, List.getElem_cons_zero, Act.put, List.setIfInBounds_toArray, List.set_cons_succ, List.set_cons_zero]
            refine wpAnyH_take (i := 17) (v := ?vt19_17) rfl (by kernel_rfl) (by kernel_rfl) (by kernel_rfl) (fun _ _ _ h => h) (Or.inl ⟨by rfl, ?yt19_17⟩) (by assumption) ?nt19_17
            case yt19_17 => (intro w hSw; (try dsimp only at hSw); go_simp; (try with_reducible rfl))
            try simp only [List.getElem_toArray, List.getElem_cons_succ, List.getElem_cons_zero, Act.put, List.setIfInBounds_toArray, List.set_cons_succ, List.set_cons_zero]
            refine wpAnyH_take (i := 18) (v := ?vt20_18) rfl (by kernel_rfl) (by kernel_rfl) (by kernel_rfl) (fun _ _ _ h => h) (Or.inl ⟨by rfl, ?yt20_18⟩) (by assumption) ?nt20_18
            case yt20_18 => (intro w hSw; (try dsimp only at hSw); go_simp; (try with_reducible rfl))
            try simp only [List.getElem_toArray, List.getElem_cons_succ, List.getElem_cons_zero, Act.put, List.setIfInBounds_toArray, List.set_cons_succ, List.set_cons_zero]
            refine wpAnyH_take (i := 19) (v := ?vt21_19) rfl (by kernel_rfl) (by kernel_rfl) (by kernel_rfl) (fun _ _ _ h => h) (Or.inl ⟨by rfl, ?yt21_19⟩) (by assumption) ?nt21_19
            case yt21_19 => (intro w hSw; (try dsimp only at hSw); go_simp; (try with_reducible rfl))
            try simp only [List.getElem_toArray, List.getElem_cons_succ, List.getElem_cons_zero, Act.put, List.setIfInBounds_toArray, List.set_cons_succ, List.set_cons_zero]
            refine wpAnyH_done (by kernel_rfl) ?_ _
            go_wp2_with fail
            go_meet
            exact ⟨rfl, rfl, rfl, C12⟩
        · go_simp
          have hix9 : (w7.drew).heap.size = w7.heap.size := by simp
          have blk9 : ((w7.drew).alloc (.cells #[.int .u8 (Di.f : Int), .int .u64 (Di.s : Int), .slice ai Di.p.length ci] 34)).heap[w7.heap.size]? = some (.cells #[.int .u8 (Di.f : Int), .int .u64 (Di.s : Int), .slice ai Di.p.length ci] 34) := hix9 ▸ block_new (w7.drew) (.cells #[.int .u8 (Di.f : Int), .int .u64 (Di.s : Int), .slice ai Di.p.length ci] 34)
          have C9 := C0.alloc (.cells #[.int .u8 (Di.f : Int), .int .u64 (Di.s : Int), .slice ai Di.p.length ci] 34)
          have hsz9 : w7.heap.size ≤ (w7.drew).heap.size := C0.size
          refine hK.out _ _ ?_ (fun hHeld => ?_)
          · exact HK10.out _ C9
          clear hK K
          try simp only [List.getElem_toArray, List.getElem_cons_succ, List.getElem_cons_zero, Act.put, List.setIfInBounds_toArray, List.set_cons_succ, List.set_cons_zero]
          refine wpAnyH_ready (rs := [2]) (by kernel_rfl) (by simp) ?_
          refine AllReadyH.cons rfl (fun K hK => ?_) AllReadyH.nil
          go_simp
          have hix2 : (((w7.drew).alloc (.cells #[.int .u8 (Di.f : Int), .int .u64 (Di.s : Int), .slice ai Di.p.length ci] 34))).heap.size = w7.heap.size + 1 := by simp
          have hnew2 : ((((w7.drew).alloc (.cells #[.int .u8 (Di.f : Int), .int .u64 (Di.s : Int), .slice ai Di.p.length ci] 34))).alloc (.cells #[] 34)).heap[w7.heap.size + 1]? = some (.cells #[] 34) := hix2 ▸ block_new (((w7.drew).alloc (.cells #[.int .u8 (Di.f : Int), .int .u64 (Di.s : Int), .slice ai Di.p.length ci] 34))) (.cells #[] 34)
          have own0 : ((((w7.drew).alloc (.cells #[.int .u8 (Di.f : Int), .int .u64 (Di.s : Int), .slice ai Di.p.length ci] 34))).alloc (.cells #[] 34)).ownsRow w7.heap.size 34 3 (.slice (some ⟨w7.heap.size + 1, 0, none⟩) 0 0) 0 (dcells []) := ⟨by simp [dcells], .inr ⟨w7.heap.size + 1, 0, #[], rfl, by omega, hnew2, Nat.le_refl _, by unfold maxLen; omega, rfl, rfl⟩⟩
          have CE := C9.alloc (.cells #[] 34)
          have hszE : w7.heap.size ≤ w7.heap.size + 1 := by omega
          have blkE := ((Chg.refl [] (((w7.drew).alloc (.cells #[.int .u8 (Di.f : Int), .int .u64 (Di.s : Int), .slice ai Di.p.length ci] 34)))).alloc (.cells #[] 34)).at blk9 (by simp)
          refine hK.out _ _ ?_ (fun hHeld => ?_)
          · exact HK10.out _ CE
          clear hK K
          try simp only [List.getElem_toArray, List.getElem_cons_succ, List.getElem_cons_zero, Act.put, List.setIfInBounds_toArray, List.set_cons_succ, List.set_cons_zero]
          refine wpAnyH_ready (rs := [4]) (by kernel_rfl) (by simp) ?_
          refine AllReadyH.cons rfl (fun K hK => ?_) AllReadyH.nil
          have src4 := hsrc _ CE
          refine step_append_own _ rfl (.tmp 61) (.tmp 62) 27 rfl w7.heap.size 34 i0 (.agg #[.int .u8 0, .int .u64 0, .slice none 0 0]) 3 40 Try.underlying27 hi hz0 hz1 hz2 rfl (by decide) (.slice (some ⟨w7.heap.size + 1, 0, none⟩) 0 0) 0 (dcells []) rfl own0 ⟨rb, roff, none⟩ R.length rc (dcells ds7) rfl hlen7 src4 hone7 (by unfold maxLen; omega) (by omega) CE.size ?_
          intro v1 w8 own1 hgrow1 _
          have hgr1 := Chg.of_grown (S := [w7.heap.size + 1]) hgrow1 (by simp [Value.ownBlock])
          have C4 : Chg [] w7 w8 := CE.then hgr1 (by intro q hq; right; simp only [List.mem_singleton] at hq; subst hq; assumption)
          have own1 : w8.ownsRow w7.heap.size 34 3 v1 R.length (dcells ds7) := by simpa [dcells] using own1
          have blk4 := hgr1.at blkE (by simp)
          refine hK.out _ _ ?_ (fun hHeld => ?_)
          · exact HK10.out _ C4
          clear hK K
          try simp only [List.getElem_toArray, List.getElem_cons_succ, List.getElem_cons_zero, Act.put, List.setIfInBounds_toArray, List.set_cons_succ, List.set_cons_zero]
          refine wpAnyH_ready (rs := [10]) (by kernel_rfl) (by simp) ?_
          refine AllReadyH.cons rfl (fun K hK => ?_) AllReadyH.nil
          have hnews : ∀ j u, [Value.int .u8 (Di.f : Int), .int .u64 (Di.s : Int), .slice ai Di.p.length ci][j]? = some u → World.cell? w8 ((⟨w7.heap.size, 0, none⟩ : Addr).add j) = some u := by
            intro j u hj
            match j, hj with
            | 0, hj => simp at hj; subst hj; rw [Addr.add_mid]; exact (cell_of_block blk4 0).trans rfl
            | 1, hj => simp at hj; subst hj; rw [Addr.add_mid]; exact (cell_of_block blk4 1).trans rfl
            | 2, hj => simp at hj; subst hj; rw [Addr.add_mid]; exact (cell_of_block blk4 2).trans rfl
          refine step_append_own _ rfl (.tmp 63) (.tmp 68) 27 rfl w7.heap.size 34 i0 (.agg #[.int .u8 0, .int .u64 0, .slice none 0 0]) 3 40 Try.underlying27 hi hz0 hz1 hz2 rfl (by decide) v1 R.length (dcells ds7) rfl own1 ⟨w7.heap.size, 0, none⟩ 1 1 [Value.int .u8 (Di.f : Int), .int .u64 (Di.s : Int), .slice ai Di.p.length ci] rfl rfl hnews (by intro u hu; simp at hu; rcases hu with rfl | rfl | rfl <;> rfl) (by unfold maxLen; omega) (by omega) C4.size ?_
          intro v2 w9 own2 hgrow2 _
          have hgr2 := Chg.of_grown (S := v1.ownBlock.toList) hgrow2 (by simp)
          have C10 : Chg [] w7 w9 := C4.then hgr2 (by
            intro q hq; right
            have : v1.ownBlock = some q := by simpa using hq
            exact (own1.lt q this).1)
          rw [← hdc1, ← dcells_append] at own2
          obtain ⟨ao9, cap9, hv2, -, hlg9, -, -, -⟩ := owned_log own2 (fun x hx => (List.mem_append.1 hx).elim (fun h => (hgd7 x h).keep0 C10) (fun h => by simp only [List.mem_singleton] at h; subst h; exact hgood7.keep0 C10))
          rw [List.map_append, HDS.out] at hlg9 hv2
          subst hv2
          have hlg9' : isLog w9 ao9 (R ++ [Di]) := hlg9
          have hlen9 : (R ++ List.map (fun x => x.1) [(Di, Value.slice ai Di.p.length ci)]).length = R.length + 1 := by simp
          refine hK.out _ _ ?_ (fun hHeld => ?_)
          · exact HK10.out _ C10
          clear hK K
          try simp only [List.getElem_toArray, List.getElem_cons_succ, List.getElem_cons_zero, Act.put, List.setIfInBounds_toArray, List.set_cons_succ, List.set_cons_zero]
          refine wpAnyH_ready (rs := [11]) (by kernel_rfl) (by simp) ?_
          refine AllReadyH.cons rfl (fun K hK => ?_) AllReadyH.nil
          go_simp
          have k11 := block_new w9 (.cells #[.slice (some ⟨rb, roff, none⟩) R.length rc, .slice ao9 (R.length + 1) cap9] 27)
          have c11 := (Chg.refl [] w9).alloc (.cells #[.slice (some ⟨rb, roff, none⟩) R.length rc, .slice ao9 (R.length + 1) cap9] 27)
          have C11 := C10.alloc (.cells #[.slice (some ⟨rb, roff, none⟩) R.length rc, .slice ao9 (R.length + 1) cap9] 27)
          refine hK.out _ _ ?_ (fun hHeld => ?_)
          · exact HK10.out _ C11
          clear hK K
          try simp only [List.getElem_toArray, List.getElem_cons_succ, List.getElem_cons_zero, Act.put, List.setIfInBounds_toArray, List.set_cons_succ, List.set_cons_zero]
          refine wpAnyH_ready (rs := [12]) (by kernel_rfl) (by simp) ?_
          refine AllReadyH.cons rfl (fun K hK => ?_) AllReadyH.nil
          go_simp
          have hlogs := two_logs (l := R) (m := R ++ [Di]) k11 rfl (by simp) ((hR7.keep0 C10).keep0 c11) (hlg9'.keep0 c11)
          refine (judge_known _ so S sc _ [R, R ++ [Di]] 2 ((hS7.keep0 C10).keep0 c11) hS1000 hr1000 hlogs (by simp) hlens2 hkn2 hwf2).mono ?_
          rintro e w10 ⟨what, pp, xx, rfl, hjd, hc10⟩
          obtain ⟨rfl, rfl, rfl⟩ := judged_twice hnd hDiR hjd
          have C12 := C11.trans hc10
          refine hK.out _ _ ?_ (fun hHeld => ?_)
          · exact HK10.out _ C12
          clear hK K
          try simp only [List.getElem_toArray, List.getElem_cons_succ, List.getElem_cons_zero, Act.put, List.setIfInBounds_toArray, List.set_cons_succ, List.set_cons_zero]
          refine wpAnyH_take (i := 13) (v := ?vt22_13) rfl (by kernel_rfl) (by kernel_rfl) (by kernel_rfl) (fun _ _ _ h => h) (Or.inl ⟨by rfl, ?yt22_13⟩) (by assumption) ?nt22_13
          case yt22_13 => (intro w hSw; (try dsimp only at hSw); go_simp; (try with_reducible rfl))
          try simp only [List.getElem_toArray, List.getElem_cons_succ, List.getElem_cons_zero, Act.put, List.setIfInBounds_toArray, List.set_cons_succ, List.set_cons_zero]
          refine wpAnyH_take (i := 14) (v := ?vt23_14) rfl (by kernel_rfl) (by kernel_rfl) (by kernel_rfl) (fun _ _ _ h => h) (Or.inl ⟨by rfl, ?yt23_14⟩) (by assumption) ?nt23_14
          case yt23_14 => (intro w hSw; (try dsimp only at hSw); go_simp; (try with_reducible rfl))
          try simp only [List.getElem_toArray, List.getElem_cons_succ, List.getElem_cons_zero, Act.put, List.setIfInBounds_toArray, List.set_cons_succ, List.set_cons_zero]
          refine wpAnyH_take (i := 15) (v := ?vt24_15) rfl (by kernel_rfl) (by kernel_rfl) (by kernel_rfl) (fun _ _ _ h => h) (Or.inl ⟨by rfl, ?yt24_15⟩) (by assumption) ?nt24_15
          case yt24_15 => (intro w hSw; (try dsimp only at hSw); go_simp; (try with_reducible rfl))
          try simp only [List.getElem_toArray, List.getElem_cons_succ, List.getElem_cons_zero, Act.put, List.setIfInBounds_toArray, List.set_cons_succ, List.set_cons_zero]
          refine wpAnyH_take (i := 16) (v := ?vt25_16) rfl (by kernel_rfl) (by kernel_rfl) (by kernel_rfl) (fun _ _ _ h => h) (Or.inl ⟨by rfl, ?yt25_16⟩) (by assumption) ?nt25_16
          case yt25_16 => (intro w hSw; (try dsimp only at hSw); go_simp; (try with_reducible rfl))
          try simp only [List.getElem_toArray, List.getElem_cons_succ, List.getElem_cons_zero, Act.put, List.setIfInBounds_toArray, List.set_cons_succ, List.set_cons_zero]
          refine wpAnyH_take (i := 17) (v := ?vt26_17) rfl (by kernel_rfl) (by kernel_rfl) (by kernel_rfl) (fun _ _ _ h => h) (Or.inl ⟨by rfl, ?yt26_17⟩) (by assumption) ?nt26_17
          case yt26_17 => (intro w hSw; (try dsimp only at hSw); go_simp; (try with_reducible rfl))
          try simp only [List.getElem_toArray, List.getElem_cons_succ, List.getElem_cons_zero, Act.put, List.setIfInBounds_toArray, List.set_cons_succ, List.set_cons_zero]
          refine wpAnyH_take (i := 18) (v := ?vt27_18) rfl (by kernel_rfl) (by kernel_rfl) (by kernel_rfl) (fun _ _ _ h => h) (Or.inl ⟨by rfl, ?yt27_18⟩) (by assumption) ?nt27_18
          case yt27_18 => (intro w hSw; (try dsimp only at hSw); go_simp; (try with_reducible rfl))
          try simp only [List.getElem_toArray, List.getElem_cons_succ, List.getElem_cons_zero, Act.put, List.setIfInBounds_toArray, List.set_cons_succ, List.set_cons_zero]
          refine wpAnyH_take (i := 19) (v := ?vt28_19) rfl (by kernel_rfl) (by kernel_rfl) (by kernel_rfl) (fun _ _ _ h => h) (Or.inl ⟨by rfl, ?yt28_19⟩) (by assumption) ?nt28_19
          case yt28_19 => (intro w hSw; (try dsimp only at hSw); go_simp; (try with_reducible rfl))
          try simp only [List.getElem_toArray, List.getElem_cons_succ, List.getElem_cons_zero, Act.put, List.setIfInBounds_toArray, List.set_cons_succ, List.set_cons_zero]
          refine wpAnyH_done (by kernel_rfl) ?_ _
          go_wp2_with fail
          go_meet
          exact ⟨rfl, rfl, rfl, C12⟩
      case rest =>
        obtain ⟨rfl, rfl, rfl, hcx⟩ := hcut
        have hpb := Lib.hid (parts_bent hnd hi1)
        have hpa := fun wy (hc : Chg [] w7 wy) => parts_any wy (some ⟨rb, roff, none⟩) (some ⟨g, 0, none⟩) R (bentOf R i) rc gcap (hR7.keep0 hc) (hbent7.keep0 hc) (by omega) (by rw [bentOf_len]; omega)
        have hpa2 := hpa _ hcx
        rw [hpb.out, bentOf_len] at hpa2
        unfold partsI at hpa2
        clear hpa hsrc
        go_wp2_with fail
        refine hpa2.mono ?_
        rintro e w11 ⟨rfl, hc11⟩
        go_wp2_with fail
        refine (awake_any _).mono ?_
        rintro e w12 ⟨rfl, hc12⟩
        go_wp2_with fail
        go_ret
        exact ⟨rfl, ((hcw7.trans hcx).trans hc11).trans hc12⟩

theorem judgeBent_lifted (os : Os) (started : os.Started) (H : Type) (enc : TypeId × Value → H) :
    ReturnsInHanded {} Try.checked os 3 .any (Rows.judgeBentSpec.pre6 enc Try.prog Try.f3 Rows.judgeBentRow.domain false) (Rows.judgeBentSpec.post enc Try.prog Try.f3 false true false false) := by
  refine law_lifted (C := Try.checked) (tb := 4) (by kernel_rfl) (by kernel_rfl) Try.func3 rfl (fun H ds h => ?_) rfl Try.underlying4 (by kernel_rfl) (by decide +kernel) os started H enc
    (ChangeSpec.witness6 (enc := enc) (C := Try.checked) false ⟨#[], #[.slice none 0 0, .int .u16 0], []⟩ 8 (by kernel_rfl) (by kernel_rfl) (by kernel_rfl) (by kernel_rfl)) ?_
  · match ds, h with | [a, b], _ => rfl
  · intro W base args ha hv
    obtain ⟨v0, v1, rfl⟩ : ∃ v0 v1, args = [v0, v1] := by match args, ha with | [a, b], _ => exact ⟨a, b, rfl⟩
    obtain ⟨ao, S, cap, rfl, h1, h2, h3⟩ := arg_sent (hv 0 22 v0 rfl rfl)
    obtain ⟨n, rfl, w1⟩ := arg_int Try.underlying23 (hv 1 23 v1 rfl rfl)
    have b1 := bounds_u16 w1
    exact (bent_walk W ao S cap n h1 (by omega) (by omega) (by omega)).mono fun e W' ⟨h1, h2⟩ => ⟨h1, h2.below⟩

theorem judgeBent_holds : Rows.JudgeBentSaid :=
  OpenClaim.holds_of_wide 3 Try.f3 rfl rfl rfl rfl rfl rfl rfl ⟨rfl, rfl, rfl, rfl, rfl⟩ rfl rfl rfl rfl rfl (by kernel_rfl) Try.func3 (by kernel_rfl)
    (of_decide_eq_true (by kernel_rfl)) (by unfold Func.isWrapper; first | (rw [if_pos (by decide +kernel)]; kernel_rfl) | (rw [if_neg (by decide +kernel)]; exact ⟨rfl, rfl⟩))
    (fun os started H enc _ => judgeBent_lifted os started H enc)
#print axioms judgeBent_holds
end Go.Proofs.Ytpbadnnolheblaa
