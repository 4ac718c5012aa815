/-
  Package grant: each function's contract: what it does to a Grants in memory is what a plain function does to (told, gone, me).
-/
import Derived.Test.YtdoebgbjpimkaaaKit
namespace Go.Proofs.Ytdoebgbjpimkaaa
open Go.RowKit

/-- A Grants, plainly. -/
structure GM where
  told : List Int
  gone : List Bool
  me : Int

def GM.there (g : GM) (p : Int) : Bool := decide (0 ≤ p ∧ p < g.told.length)
def GM.of (g : GM) (p : Int) : Int := if g.there p then g.told.getD p.toNat 0 else 0
def GM.tells (g : GM) (p u : Int) : Bool := g.there p && decide (g.told.getD p.toNat 0 < u)
def GM.tell (g : GM) (p u : Int) : GM := if g.tells p u then { g with told := g.told.set p.toNat u } else g
def GM.goes (g : GM) (p : Int) : Bool := g.there p && (p != g.me) && !g.gone.getD p.toNat false
def GM.go (g : GM) (p : Int) : GM := if g.goes p then { g with gone := g.gone.set p.toNat true } else g
/-- The least of those that aren't gone, of the first k. -/
def limK (told : List Int) (gone : List Bool) : Nat → Int
  | 0 => 18446744073709551615
  | k + 1 => if gone.getD k false then limK told gone k else (if told.getD k 0 < limK told gone k then told.getD k 0 else limK told gone k)
def GM.lim (g : GM) : Int := limK g.told g.gone g.told.length

structure GM.wf (g : GM) : Prop where
  hl : g.gone.length = g.told.length
  h1 : 1 ≤ g.told.length
  h2 : g.told.length ≤ 64
  m0 : 0 ≤ g.me
  m1 : g.me < g.told.length
  lo : ∀ i, 0 ≤ g.told.getD i 0
  hi : ∀ i, g.told.getD i 0 < 18446744073709551616

/-- A Grants in memory. -/
structure isG (w : World) (b bt bg : Nat) (g : GM) : Prop where
  hb : w.heap[b]? = some (.cells #[.slice (some ⟨bt,0,none⟩) g.told.length g.told.length, .slice (some ⟨bg,0,none⟩) g.told.length g.told.length, .int .i64 g.me] 50)
  ht : w.heap[bt]? = some (.cells (g.told.map (Value.int .u64)).toArray 26)
  hg : w.heap[bg]? = some (.cells (g.gone.map Value.bool).toArray 4)
  wf : g.wf
  d1 : b ≠ bt
  d2 : b ≠ bg
  d3 : bt ≠ bg

theorem isG.keep {w w' : World} {b bt bg : Nat} {g : GM} {S : List Nat} (H : isG w b bt bg g) (h : Chg S w w') (n1 : b ∉ S) (n2 : bt ∉ S) (n3 : bg ∉ S) : isG w' b bt bg g :=
  ⟨h.at H.hb n1, h.at H.ht n2, h.at H.hg n3, H.wf, H.d1, H.d2, H.d3⟩

theorem isG.tell {w : World} {b bt bg n : Nat} {g : GM} (H : isG w b bt bg g) (hn : n < g.told.length) (u : Int) (h0 : 0 ≤ u) (h1 : u < 18446744073709551616) :
    isG (w.setCell ⟨bt, n, none⟩ (.int .u64 u)) b bt bg { g with told := g.told.set n u } := by
  refine ⟨?_, ?_, ?_, ?_, H.d1, H.d2, H.d3⟩
  · rw [block_set_ne H.d1]; simpa using H.hb
  · rw [block_set H.ht, map_set]
  · rw [block_set_ne (Ne.symm H.d3)]; exact H.hg
  · obtain ⟨hl, a1, a2, m0, m1, lo, hi⟩ := H.wf
    refine ⟨by simpa using hl, by simpa using a1, by simpa using a2, m0, by simpa using m1, fun i => ?_, fun i => ?_⟩
    · have := lo i; simp only [List.getD, List.getElem?_set] at *; split <;> simp_all
    · have := hi i; simp only [List.getD, List.getElem?_set] at *; split <;> simp_all

theorem isG.go {w : World} {b bt bg n : Nat} {g : GM} (H : isG w b bt bg g) :
    isG (w.setCell ⟨bg, n, none⟩ (.bool true)) b bt bg { g with gone := g.gone.set n true } := by
  refine ⟨?_, ?_, ?_, ?_, H.d1, H.d2, H.d3⟩
  · rw [block_set_ne H.d2]; exact H.hb
  · rw [block_set_ne H.d3]; exact H.ht
  · rw [block_set H.hg, map_set]
  · obtain ⟨hl, a1, a2, m0, m1, lo, hi⟩ := H.wf
    exact ⟨by simpa using hl, a1, a2, m0, m1, lo, hi⟩

section facts
variable {w : World} {b bt bg : Nat} {g : GM} (H : isG w b bt bg g)
include H
theorem isG.c0 : w.cell? ⟨b, 0, none⟩ = some (.slice (some ⟨bt,0,none⟩) g.told.length g.told.length) := by rw [cell_of_block H.hb]; rfl
theorem isG.c1 : w.cell? ⟨b, 1, none⟩ = some (.slice (some ⟨bg,0,none⟩) g.told.length g.told.length) := by rw [cell_of_block H.hb]; rfl
theorem isG.c2 : w.cell? ⟨b, 2, none⟩ = some (.int .i64 g.me) := by rw [cell_of_block H.hb]; rfl
theorem isG.ct {n : Nat} (hn : n < g.told.length) : w.cell? ⟨bt, n, none⟩ = some (.int .u64 (g.told.getD n 0)) := by rw [cell_of_block H.ht, map_get _ _ _ 0 hn]
theorem isG.cg {n : Nat} (hn : n < g.told.length) : w.cell? ⟨bg, n, none⟩ = some (.bool (g.gone.getD n false)) := by
  rw [cell_of_block H.hg, map_get _ _ _ false (by rw [H.wf.hl]; exact hn)]
theorem isG.ft (n : Nat) : w.frozen? ⟨bt, n, none⟩ = false := free_of_block H.ht n
theorem isG.fg (n : Nat) : w.frozen? ⟨bg, n, none⟩ = false := free_of_block H.hg n
theorem isG.len : g.told.length ≤ 64 := H.wf.h2
end facts

set_option maxHeartbeats 400000 in
theorem there_any {b bt bg : Nat} {g : GM} (p : Int) (w : World) (H : isG w b bt bg g) :
    Calls Try.prog 20 #[.pointer (some ⟨b,0,none⟩), .int .i64 p] w fun e w' => e = .returned (.bool (g.there p)) ∧ w = w' := by
  have h0 := H.c0
  have h2 := H.len
  unfold GM.there
  by_cases hp : 0 ≤ p
  · by_cases hq : p < g.told.length
    all_goals
      go_enter Try.func20, Try.ntmps20
      go_wp2
      go_ret
      simp [hp, hq, go_sem]
  · go_enter Try.func20, Try.ntmps20
    go_wp2
    go_ret
    simp [go_sem]; omega

theorem there_nil (p : Int) (w : World) :
    Calls Try.prog 20 #[.pointer none, .int .i64 p] w fun e w' => e = .returned (.bool false) ∧ w = w' := by
  go_enter Try.func20, Try.ntmps20
  go_wp2
  go_ret
  simp [go_sem]

theorem GM.there_yes {g : GM} {p : Int} (h : g.there p = true) : ∃ n : Nat, p = n ∧ n < g.told.length := by
  simp only [GM.there, decide_eq_true_eq] at h
  exact ⟨p.toNat, by omega, by omega⟩

set_option maxHeartbeats 400000 in
theorem of_any {b bt bg : Nat} {g : GM} (p : Int) (w : World) (H : isG w b bt bg g) :
    Calls Try.prog 12 #[.pointer (some ⟨b,0,none⟩), .int .i64 p] w fun e w' => e = .returned (.int .u64 (g.of p)) ∧ w = w' := by
  have h0 := H.c0
  have h2 := H.len
  cases hth : g.there p with
  | false =>
    go_enter Try.func12, Try.ntmps12
    go_wp2_with (go_at_call 20; refine (there_any p _ H).mono ?_; rintro e w' ⟨rfl, rfl⟩)
    go_ret
    simp [GM.of, hth, go_sem]
  | true =>
    obtain ⟨n, rfl, hn⟩ := GM.there_yes hth
    have hc := H.ct hn
    go_enter Try.func12, Try.ntmps12
    go_wp2_with (go_at_call 20; refine (there_any _ _ H).mono ?_; rintro e w' ⟨rfl, rfl⟩)
    go_ret
    simp [GM.of, hth, hn, go_sem]


set_option maxHeartbeats 400000 in
theorem tell_any {b bt bg : Nat} {g : GM} (p u : Int) (w : World) (H : isG w b bt bg g) (u0 : 0 ≤ u) (u1 : u < 18446744073709551616) :
    Calls Try.prog 10 #[.pointer (some ⟨b,0,none⟩), .int .i64 p, .int .u64 u] w fun e w' =>
      e = .returned (.bool (g.tells p u)) ∧ isG w' b bt bg (g.tell p u) ∧ Chg [bt] w w' := by
  have h0 := H.c0
  have h2 := H.len
  cases hth : g.there p with
  | false =>
    go_enter Try.func10, Try.ntmps10
    go_wp2_with (go_at_call 20; refine (there_any p _ H).mono ?_; rintro e w' ⟨rfl, rfl⟩)
    go_ret
    exact ⟨by simp [GM.tells, hth, go_sem], by simpa [GM.tell, GM.tells, hth] using H, Chg.refl _ _⟩
  | true =>
    obtain ⟨n, rfl, hn⟩ := GM.there_yes hth
    have hc := H.ct hn
    have hf := H.ft n
    have hT := H.tell hn u u0 u1
    generalize hx : g.told.getD n 0 = x at hc
    have HX := Lib.hid hx
    clear hx
    by_cases hu : x < u
    · go_enter Try.func10, Try.ntmps10
      go_wp2_with (go_at_call 20; refine (there_any _ _ H).mono ?_; rintro e w' ⟨rfl, rfl⟩)
      go_ret
      have ht : g.tells n u = true := by simp [GM.tells, hth, -List.getD_eq_getElem?_getD, HX.out, hu]
      refine ⟨by simp [ht, go_sem], ?_, (Chg.refl _ _).setCell (.inl (by simp)) _⟩
      simpa [GM.tell, ht] using hT
    · go_enter Try.func10, Try.ntmps10
      go_wp2_with (go_at_call 20; refine (there_any _ _ H).mono ?_; rintro e w' ⟨rfl, rfl⟩)
      go_ret
      have ht : g.tells n u = false := by simp [GM.tells, hth, -List.getD_eq_getElem?_getD, HX.out]; omega
      exact ⟨by simp [ht, go_sem], by simpa [GM.tell, ht] using H, Chg.refl _ _⟩
theorem tell_nil (p u : Int) (w : World) :
    Calls Try.prog 10 #[.pointer none, .int .i64 p, .int .u64 u] w fun e w' => e = .returned (.bool false) ∧ w = w' := by
  go_enter Try.func10, Try.ntmps10
  go_wp2_with (go_at_call 20; refine (there_nil _ _).mono ?_; rintro e w' ⟨rfl, rfl⟩)
  go_ret
  simp [go_sem]
theorem of_nil (p : Int) (w : World) :
    Calls Try.prog 12 #[.pointer none, .int .i64 p] w fun e w' => e = .returned (.int .u64 0) ∧ w = w' := by
  go_enter Try.func12, Try.ntmps12
  go_wp2_with (go_at_call 20; refine (there_nil _ _).mono ?_; rintro e w' ⟨rfl, rfl⟩)
  go_ret
  simp [go_sem]
theorem limit_nil (w : World) :
    Calls Try.prog 11 #[.pointer none] w fun e w' => e = .returned (.int .u64 0) ∧ w = w' := by
  go_enter Try.func11, Try.ntmps11
  go_wp2
  go_ret
  simp [go_sem]

set_option maxHeartbeats 400000 in
theorem limit_any {b bt bg : Nat} {g : GM} (w : World) (H : isG w b bt bg g) :
    Calls Try.prog 11 #[.pointer (some ⟨b,0,none⟩)] w fun e w' => e = .returned (.int .u64 g.lim) ∧ w = w' := by
  have h0 := H.c0
  have h1 := H.c1
  have h2 := H.len
  go_enter Try.func11, Try.ntmps11
  go_wp2
  go_loop [3, 13] (fun l i => ∃ k : Nat, k ≤ g.told.length ∧ i = .int .i64 k ∧ l = .int .u64 (limK g.told g.gone k)) (fun _ i => g.told.length - (intOf i).toNat)
  case atStart => exact ⟨0, Nat.zero_le _, rfl, rfl⟩
  case round =>
    obtain ⟨k, hk, rfl, rfl⟩ := hrel
    by_cases hlt : k < g.told.length
    · have hct := H.ct hlt
      have hcg := H.cg hlt
      have hstep : Hid (limK g.told g.gone (k+1) = if g.gone.getD k false then limK g.told g.gone k else (if g.told.getD k 0 < limK g.told g.gone k then g.told.getD k 0 else limK g.told g.gone k)) := rfl
      cases hgk : g.gone.getD k false
      all_goals
        rw [hgk] at hcg hstep
        go_wp2
        all_goals
          go_round
          case rel => exact ⟨k + 1, by omega, by go_num, by rw [hstep.out]; simp_all⟩
          case measure => simp [intOf]; omega
    · go_wp2
      go_ret
      obtain rfl : k = g.told.length := by omega
      simp [GM.lim, go_sem]

theorem may_any {b bt bg : Nat} {g : GM} (u : Int) (w : World) (H : isG w b bt bg g) :
    Calls Try.prog 17 #[.pointer (some ⟨b,0,none⟩), .int .u64 u] w fun e w' => e = .returned (.bool (decide (1 ≤ u ∧ u ≤ g.lim))) ∧ w = w' := by
  by_cases h1 : 1 ≤ u
  all_goals
    go_enter Try.func17, Try.ntmps17
    go_wp2_with (go_at_call 11; refine (limit_any _ H).mono ?_; rintro e w' ⟨rfl, rfl⟩)
    go_ret
    simp [go_sem]
    try omega
theorem may_nil (u : Int) (w : World) :
    Calls Try.prog 17 #[.pointer none, .int .u64 u] w fun e w' => e = .returned (.bool false) ∧ w = w' := by
  by_cases h1 : 1 ≤ u
  all_goals
    go_enter Try.func17, Try.ntmps17
    go_wp2_with (go_at_call 11; refine (limit_nil _).mono ?_; rintro e w' ⟨rfl, rfl⟩)
    go_ret
    simp [go_sem]
    try omega

theorem limK_bd {told : List Int} {gone : List Bool} (lo : ∀ i, 0 ≤ told.getD i 0) : ∀ k, 0 ≤ limK told gone k ∧ limK told gone k ≤ 18446744073709551615
  | 0 => by simp [limK]
  | k + 1 => by
    have := limK_bd (gone := gone) lo k
    have := lo k
    unfold limK
    split
    · omega
    · split <;> omega
theorem GM.wf.lim {g : GM} (h : g.wf) : 0 ≤ g.lim ∧ g.lim ≤ 18446744073709551615 := limK_bd h.lo _

set_option maxHeartbeats 400000 in
theorem left_any {b bt bg : Nat} {g : GM} (u : Int) (w : World) (H : isG w b bt bg g) (h0 : 0 ≤ u) :
    Calls Try.prog 18 #[.pointer (some ⟨b,0,none⟩), .int .u64 u] w fun e w' => e = .returned (.int .u64 (if u < g.lim then g.lim - u else 0)) ∧ w = w' := by
  have hl := H.wf.lim
  have hN : ∀ a b : Int, 0 ≤ a → a ≤ b → b ≤ 18446744073709551615 → IntKind.u64.wrap (b - a) = b - a := fun a b _ _ _ => by simp [IntKind.wrap_u64]; omega
  by_cases hu : u < g.lim
  · have h1 := hN u g.lim h0 (by omega) hl.2
    have H1 := Lib.hid h1
    clear h1 hN hl
    go_enter Try.func18, Try.ntmps18
    go_wp2_with (go_at_call 11; refine (limit_any _ H).mono ?_; rintro e w' ⟨rfl, rfl⟩)
    all_goals go_ret
    all_goals exact ⟨by simp [go_sem, hu]; first | exact H1.out | omega, rfl⟩
  · clear hN
    go_enter Try.func18, Try.ntmps18
    go_wp2_with (go_at_call 11; refine (limit_any _ H).mono ?_; rintro e w' ⟨rfl, rfl⟩)
    all_goals go_ret
    all_goals exact ⟨by simp [go_sem, hu]; try omega, rfl⟩

def GM.goStep (s : GM × Int) (p : Int) : GM × Int := (s.1.go p, s.2 + if s.1.goes p then 1 else 0)
def GM.gos (g : GM) (l : List Int) : GM × Int := l.foldl GM.goStep (g, 0)
theorem GM.gos_snoc (g : GM) (l : List Int) (k : Nat) (h : k < l.length) : g.gos (l.take (k + 1)) = GM.goStep (g.gos (l.take k)) (l.getD k 0) := by
  unfold GM.gos
  rw [List.take_succ_eq_append_getElem h, List.foldl_append]
  simp [h]
theorem GM.go_told (g : GM) (p : Int) : (g.go p).told = g.told := by unfold GM.go; split <;> rfl
theorem GM.go_me (g : GM) (p : Int) : (g.go p).me = g.me := by unfold GM.go; split <;> rfl
theorem GM.gosN (g : GM) (l : List Int) (k : Nat) : 0 ≤ (g.gos (l.take k)).2 ∧ (g.gos (l.take k)).2 ≤ k := by
  induction k with
  | zero => simp [GM.gos]
  | succ k ih =>
    by_cases h : k < l.length
    · rw [GM.gos_snoc g l k h]; unfold GM.goStep; dsimp only; split <;> omega
    · rw [List.take_of_length_le (by omega)] at ih ⊢; omega

set_option maxHeartbeats 1000000 in
theorem gone_any {b bt bg bl off cap : Nat} {g : GM} (l : List Int) (w : World) (H : isG w b bt bg g) (hlen : l.length ≤ 1000000) (hbl : bl < w.heap.size)
    (hc : ∀ j, j < l.length → w.cell? ⟨bl, off + j, none⟩ = some (.int .i64 (l.getD j 0))) (n1 : bl ≠ bg) :
    Calls Try.prog 9 #[.pointer (some ⟨b,0,none⟩), .slice (some ⟨bl, off, none⟩) l.length cap] w fun e w' =>
      e = .returned (.int .i64 (g.gos l).2) ∧ isG w' b bt bg (g.gos l).1 ∧ Chg [bg] w w' := by
  go_enter Try.func9, Try.ntmps9
  go_wp2_with fail
  go_loopw [5, 10] (fun n i wr => ∃ k : Nat, k ≤ l.length ∧ i = .int .i64 k ∧ n = .int .i64 (g.gos (l.take k)).2 ∧ isG wr b bt bg (g.gos (l.take k)).1 ∧ Chg [bg] w wr)
    (fun _ i _ => l.length - (intOf i).toNat)
  case atStart => exact ⟨0, Nat.zero_le _, rfl, by simp [GM.gos], by simpa [GM.gos] using H, Chg.refl _ _⟩
  case round =>
    obtain ⟨k, hk, rfl, rfl, HG, hchg⟩ := hrel
    have hcnt := GM.gosN g l k
    by_cases hlt : k < l.length
    · have hcx := (hchg.cell (p := ⟨bl, off + k, none⟩) hbl (by simpa using n1)).trans (hc k hlt)
      have hst := Lib.hid (GM.gos_snoc g l k hlt)
      have HS : Hid (GM.goStep (g.gos (l.take k)) (l.getD k 0) = ((g.gos (l.take k)).1.go (l.getD k 0), (g.gos (l.take k)).2 + if (g.gos (l.take k)).1.goes (l.getD k 0) then 1 else 0)) := rfl
      generalize (g.gos (l.take k)).1 = G at *
      generalize (g.gos (l.take k)).2 = N at *
      generalize l.getD k 0 = p at *
      have h0 := HG.c0
      have h1 := HG.c1
      have h2 := HG.c2
      have h3 := HG.len
      cases hth : G.there p with
      | false =>
        have Hgs := Lib.hid (show G.goes p = false by simp [GM.goes, hth])
        go_wp2_with (go_at_call 20; refine (there_any p _ HG).mono ?_; rintro e w' ⟨rfl, rfl⟩)
        go_roundw
        case rel => exact ⟨k + 1, by omega, by go_num, by rw [hst.out, HS.out]; simp [Hgs.out], by rw [hst.out, HS.out]; simpa [GM.go, Hgs.out] using HG, hchg⟩
        case measure => simp [intOf]; omega
      | true =>
        obtain ⟨n, rfl, hn⟩ := GM.there_yes hth
        have hcg := HG.cg hn
        have hf := HG.fg n
        have hT := HG.go (n := n)
        by_cases hme : (n : Int) = G.me
        · have hme' : ((n : Int) != G.me) = false := by simpa using hme
          have Hgs := Lib.hid (show G.goes n = false by simp [GM.goes, hth, hme])
          clear hme
          go_wp2_with (go_at_call 20; refine (there_any _ _ HG).mono ?_; rintro e w' ⟨rfl, rfl⟩)
          go_roundw
          case rel => exact ⟨k + 1, by omega, by go_num, by rw [hst.out, HS.out]; simp [Hgs.out], by rw [hst.out, HS.out]; simpa [GM.go, Hgs.out] using HG, hchg⟩
          case measure => simp [intOf]; omega
        · have hme' : ((n : Int) != G.me) = true := by simpa using hme
          cases hgo : G.gone.getD n false
          · have Hgs := Lib.hid (show G.goes n = true by simp [GM.goes, hth, hme, hgo, -List.getD_eq_getElem?_getD])
            rw [hgo] at hcg
            clear hgo hme
            go_wp2_with (go_at_call 20; refine (there_any _ _ HG).mono ?_; rintro e w' ⟨rfl, rfl⟩)
            go_roundw
            case rel => exact ⟨k + 1, by omega, by go_num, by rw [hst.out, HS.out]; simp [Hgs.out], by rw [hst.out, HS.out]; simpa [GM.go, Hgs.out] using hT, hchg.setCell (.inl (by simp)) _⟩
            case measure => simp [intOf]; omega
          · have Hgs := Lib.hid (show G.goes n = false by simp [GM.goes, hth, hme, hgo, -List.getD_eq_getElem?_getD])
            rw [hgo] at hcg
            clear hgo hme
            go_wp2_with (go_at_call 20; refine (there_any _ _ HG).mono ?_; rintro e w' ⟨rfl, rfl⟩)
            go_roundw
            case rel => exact ⟨k + 1, by omega, by go_num, by rw [hst.out, HS.out]; simp [Hgs.out], by rw [hst.out, HS.out]; simpa [GM.go, Hgs.out] using HG, hchg⟩
            case measure => simp [intOf]; omega
    · go_wp2_with fail
      go_ret
      obtain rfl : k = l.length := by omega
      rw [List.take_length] at *
      exact ⟨rfl, HG, hchg⟩

theorem Try.info_u64 : (Try.prog.info? 26).map (fun i => (i.zero, i.size, i.bytes)) = some (some (.int .u64 0), 1, 8) := by kernel_rfl
theorem Try.info_bool : (Try.prog.info? 4).map (fun i => (i.zero, i.size, i.bytes)) = some (some (.bool false), 1, 1) := by kernel_rfl
def clampN (n : Int) : Int := max 1 (min n 64)
def clampM (N : Nat) (me : Int) : Int := max 0 (min me (N - 1))
theorem clampN_lo (n : Int) : 1 ≤ clampN n := by unfold clampN; omega
theorem clampN_hi (n : Int) : clampN n ≤ 64 := by unfold clampN; omega
def newG (n me : Int) : GM := ⟨List.replicate (clampN n).toNat 0, List.replicate (clampN n).toNat false, clampM (clampN n).toNat me⟩
theorem newG_wf (n me : Int) : (newG n me).wf := by
  have := clampN_lo n; have := clampN_hi n
  refine ⟨by simp [newG], by simp [newG]; omega, by simp [newG]; omega, by simp [newG, clampM]; omega, by simp [newG, clampM]; omega, fun i => ?_, fun i => ?_⟩
  · simp [newG, List.getD, List.getElem?_replicate]; split <;> simp
  · simp [newG, List.getD, List.getElem?_replicate]; split <;> simp

def NewPost (n me : Int) (w : World) (e : Ending) (w' : World) : Prop := ∃ b bt bg, e = .returned (.pointer (some ⟨b,0,none⟩)) ∧ isG w' b bt bg (newG n me) ∧ Chg [] w w' ∧ w.heap.size ≤ b ∧ w.heap.size ≤ bt ∧ w.heap.size ≤ bg
theorem newPost_tg {n me M : Int} {N : Nat} {w : World} (hN : clampN n = N) (hM : M = clampM N me) :
    NewPost n me w (.returned (.pointer (some ⟨w.heap.size + 1 + 1, 0, none⟩))) (((w.alloc (.cells (madeCells #[.int .u64 0] N) 26)).alloc (.cells (madeCells #[.bool false] N) 4)).alloc
      (.cells #[.slice (some ⟨w.heap.size, 0, none⟩) N N, .slice (some ⟨w.heap.size + 1, 0, none⟩) N N, .int .i64 M] 50)).drew := by
  obtain ⟨h1, h2, h3⟩ := three_blocks w (.cells (madeCells #[.int .u64 0] N) 26) (.cells (madeCells #[.bool false] N) 4) (.cells #[.slice (some ⟨w.heap.size, 0, none⟩) N N, .slice (some ⟨w.heap.size + 1, 0, none⟩) N N, .int .i64 M] 50)
  refine ⟨_, w.heap.size, w.heap.size + 1, rfl, ⟨?_, ?_, ?_, newG_wf n me, by omega, by omega, by omega⟩, ((((Chg.refl _ _).alloc _).alloc _).alloc _).drew, by omega, by omega, by omega⟩
  · refine Eq.trans h3 ?_; rw [hM]; simp [newG, hN]
  · refine Eq.trans h1 ?_; rw [madeCells_one]; simp [newG, hN]
  · refine Eq.trans h2 ?_; rw [madeCells_one]; simp [newG, hN]
theorem newPost_gt {n me M : Int} {N : Nat} {w : World} (hN : clampN n = N) (hM : M = clampM N me) :
    NewPost n me w (.returned (.pointer (some ⟨w.heap.size + 1 + 1, 0, none⟩))) (((w.alloc (.cells (madeCells #[.bool false] N) 4)).alloc (.cells (madeCells #[.int .u64 0] N) 26)).alloc
      (.cells #[.slice (some ⟨w.heap.size + 1, 0, none⟩) N N, .slice (some ⟨w.heap.size, 0, none⟩) N N, .int .i64 M] 50)).drew := by
  obtain ⟨h1, h2, h3⟩ := three_blocks w (.cells (madeCells #[.bool false] N) 4) (.cells (madeCells #[.int .u64 0] N) 26) (.cells #[.slice (some ⟨w.heap.size + 1, 0, none⟩) N N, .slice (some ⟨w.heap.size, 0, none⟩) N N, .int .i64 M] 50)
  refine ⟨_, w.heap.size + 1, w.heap.size, rfl, ⟨?_, ?_, ?_, newG_wf n me, by omega, by omega, by omega⟩, ((((Chg.refl _ _).alloc _).alloc _).alloc _).drew, by omega, by omega, by omega⟩
  · refine Eq.trans h3 ?_; rw [hM]; simp [newG, hN]
  · refine Eq.trans h2 ?_; rw [madeCells_one]; simp [newG, hN]
  · refine Eq.trans h1 ?_; rw [madeCells_one]; simp [newG, hN]

set_option maxHeartbeats 400000 in
theorem new_any (n me : Int) (w : World)  :
    Calls Try.prog 8 #[.int .i64 n, .int .i64 me] w (NewPost n me w) := by
  have hlo := clampN_lo n
  have hhi := clampN_hi n
  go_enter Try.func8, Try.ntmps8
  go_upto_region 1 with fail
  go_cut [0] from 5 to 7 (fun s0 wx => s0 = .int .i64 (clampN n) ∧ wx = w)
  case first =>
    go_wp2_with fail
    all_goals (go_meet; refine ⟨?_, rfl⟩; unfold clampN; congr 1; omega)
  case rest =>
    obtain ⟨rfl, rfl⟩ := hcut
    obtain ⟨N, hN⟩ : ∃ N : Nat, clampN n = N := ⟨(clampN n).toNat, by omega⟩
    obtain ⟨i0, hi, hz0, hz1, hz2⟩ := info_parts Try.info_u64
    obtain ⟨j0, gi, gz0, gz1, gz2⟩ := info_parts Try.info_bool
    rw [hN] at hlo hhi ⊢
    have HN := Lib.hid hN
    clear hN
    have r1 := fun wx => run_make (P := Try.prog) wx 48 26 i0 _ Try.underlying48 hi hz0 .i64 .i64 N N (by omega) (by omega) (by rw [hz2]; omega) (by omega)
    have r2 := fun wx => run_make (P := Try.prog) wx 33 4 j0 _ Try.underlying33 gi gz0 .i64 .i64 N N (by omega) (by omega) (by rw [gz2]; omega) (by omega)
    rw [hz1] at r1
    rw [gz1] at r2
    go_wp2_with fail
    go_region
    all_goals go_wp2
    all_goals go_ret
    all_goals show NewPost n me wc (.returned (.pointer (some ⟨wc.heap.size + 1 + 1, 0, none⟩))) _
    all_goals first
      | (with_reducible refine newPost_tg HN.out ?_)
      | (with_reducible refine newPost_gt HN.out ?_)
    all_goals (unfold clampM; omega)
end Go.Proofs.Ytdoebgbjpimkaaa
