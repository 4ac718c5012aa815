/-
  Package beat: Gone, Heard.
-/
import Derived.Test.YtjindkkdgjeppaaBeat2
import Derived.Test.YtjindkkdgjeppaaInts
namespace Go.Proofs.Ytjindkkdgjeppaa
open Go.RowKit

def BD.goes (d : BD) (p : Int) : Bool := d.there p && !(d.at p.toNat).gone
def BD.gone2 (s : BD × Int) (p : Int) : BD × Int := if s.1.goes p then (s.1.put p.toNat { s.1.at p.toNat with gone := true }, s.2 + 1) else s
def BD.goneL (d : BD) (ps : List Int) : BD × Int := ps.foldl BD.gone2 (d, 0)

theorem goneL_bound (d : BD) (ps : List Int) : ∀ k, k ≤ ps.length → 0 ≤ ((ps.take k).foldl BD.gone2 (d, 0)).2 ∧ ((ps.take k).foldl BD.gone2 (d, 0)).2 ≤ k
  | 0, _ => by simp
  | k + 1, h => by
    have := goneL_bound d ps k (by omega)
    rw [foldl_take BD.gone2 _ ps 0 (by omega)]
    generalize (ps.take k).foldl BD.gone2 (d, 0) = s at *
    unfold BD.gone2
    split <;> simp <;> omega

set_option maxRecDepth 100000 in
set_option maxHeartbeats 1000000 in
theorem gone_any {b bt : Nat} {d : BD} (ao : Option Addr) (ps : List Int) (cap : Nat) (w : World) (H : isB w b bt d) (hp : isInts .i64 w ao ps) (hl : ps.length ≤ 1000) (hsep : ∀ x off, ao = some ⟨x, off, none⟩ → x ≠ b ∧ x ≠ bt) :
    Calls Try.prog 16 #[.pointer (some ⟨b,0,none⟩), .slice ao ps.length cap] w fun e w' => e = .returned (.int .i64 (d.goneL ps).2) ∧ isB w' b bt (d.goneL ps).1 ∧ Chg [bt] w w' := by
  go_enter Try.func16, Try.ntmps16
  go_wp2_with fail
  go_loopw [5, 11] (fun n i wr => ∃ k : Nat, k ≤ ps.length ∧ i = .int .i64 k ∧ n = .int .i64 ((ps.take k).foldl BD.gone2 (d, 0)).2 ∧ isB wr b bt ((ps.take k).foldl BD.gone2 (d, 0)).1 ∧ Chg [bt] w wr) (fun _ i _ => ps.length - (intOf i).toNat)
  case atStart => exact ⟨0, by omega, rfl, rfl, H, Chg.refl _ _⟩
  case round =>
    obtain ⟨k, hk, rfl, rfl, HH, hcr⟩ := hrel
    have hbd := goneL_bound d ps k hk
    by_cases hlt : k < ps.length
    · have hst := Lib.hid (foldl_take BD.gone2 (d, 0) ps 0 hlt)
      obtain ⟨x, off, rfl⟩ := hp.addr hlt
      obtain ⟨_, hcell⟩ := (hp.keep hcr (fun x off e => by simp; exact (hsep x off e).2)).at hlt
      generalize ps.getD k 0 = p at *
      generalize (ps.take k).foldl BD.gone2 (d, 0) = s at *
      obtain ⟨s1, s2⟩ := s
      dsimp only at hbd HH ⊢
      cases hth : s1.there p with
      | false =>
        have hgo := Lib.hid (show BD.gone2 (s1, s2) p = (s1, s2) by simp [BD.gone2, BD.goes, hth])
        go_wp2_with fail
        refine (of_no p wr HH hth).mono ?_
        rintro e w' ⟨rfl, rfl⟩
        go_wp2_with fail
        go_roundw
        case rel => exact ⟨k + 1, by omega, by go_num, by rw [hst.out, hgo.out], by rw [hst.out, hgo.out]; exact HH, hcr⟩
        case measure => simp [intOf]; omega
      | true =>
        obtain ⟨n, rfl, hn, hm⟩ := BD.there_yes hth
        have hcg := HH.cg n hn
        have hff := HH.ft (n * 3 + 2)
        cases hg : (s1.at n).gone with
        | true =>
          rw [hg] at hcg
          have hgo := Lib.hid (show BD.gone2 (s1, s2) n = (s1, s2) by simp [BD.gone2, BD.goes, hth, hg])
          go_wp2_with fail
          refine (of_yes wr HH hn hm).mono ?_
          rintro e w' ⟨rfl, rfl⟩
          go_wp2_with fail
          go_roundw
          case rel => exact ⟨k + 1, by omega, by go_num, by rw [hst.out, hgo.out], by rw [hst.out, hgo.out]; exact HH, hcr⟩
          case measure => simp [intOf]; omega
        | false =>
          rw [hg] at hcg
          have hgo := Lib.hid (show BD.gone2 (s1, s2) n = (s1.put n { s1.at n with gone := true }, s2 + 1) by simp [BD.gone2, BD.goes, hth, hg])
          have hsg := Lib.hid (HH.setGone hn true)
          go_wp2_with fail
          refine (of_yes wr HH hn hm).mono ?_
          rintro e w' ⟨rfl, rfl⟩
          go_wp2_with fail
          go_roundw
          case rel => exact ⟨k + 1, by omega, by go_num, by rw [hst.out, hgo.out], by rw [hst.out, hgo.out]; exact hsg.out, hcr.setCell (.inl (by simp)) _⟩
          case measure => simp [intOf]; omega
    · obtain rfl : k = ps.length := by omega
      have he := Lib.hid (show d.goneL ps = (ps.take ps.length).foldl BD.gone2 (d, 0) by rw [List.take_length]; rfl)
      generalize (ps.take ps.length).foldl BD.gone2 (d, 0) = s at *
      go_wp2_with fail
      go_ret
      rw [he.out]
      exact ⟨rfl, HH, hcr⟩
theorem gone_nil (ao : Option Addr) (ps : List Int) (cap : Nat) (w : World) (hp : isInts .i64 w ao ps) (hl : ps.length ≤ 1000) :
    Calls Try.prog 16 #[.pointer none, .slice ao ps.length cap] w fun e w' => e = .returned (.int .i64 0) ∧ w' = w := by
  go_enter Try.func16, Try.ntmps16
  go_wp2_with fail
  go_loop [5, 11] (fun n i => ∃ k : Nat, k ≤ ps.length ∧ i = .int .i64 k ∧ n = .int .i64 0) (fun _ i => ps.length - (intOf i).toNat)
  case atStart => exact ⟨0, by omega, rfl, rfl⟩
  case round =>
    obtain ⟨k, hk, rfl, rfl⟩ := hrel
    by_cases hlt : k < ps.length
    · obtain ⟨x, off, rfl⟩ := hp.addr hlt
      obtain ⟨_, hcell⟩ := hp.at hlt
      generalize ps.getD k 0 = p at *
      go_wp2_with fail
      refine (of_nil p w).mono ?_
      rintro e w' ⟨rfl, rfl⟩
      go_wp2_with fail
      go_round
      case rel => exact ⟨k + 1, by omega, by go_num, rfl⟩
      case measure => simp [intOf]; omega
    · obtain rfl : k = ps.length := by omega
      go_wp2_with fail
      go_ret
      exact ⟨rfl, rfl⟩
end Go.Proofs.Ytjindkkdgjeppaa
