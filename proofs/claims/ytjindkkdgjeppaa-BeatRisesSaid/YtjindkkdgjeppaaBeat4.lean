/-
  Package beat: Heard.
-/
import Derived.Test.YtjindkkdgjeppaaBeat3
namespace Go.Proofs.Ytjindkkdgjeppaa
open Go.RowKit

def BD.hears (d : BD) (p : Int) : Bool := d.there p && !(d.at p.toNat).gone
def BD.hear2 (s : BD × Int) (p : Int) : BD × Int :=
  if s.1.hears p then
    (if s.1.susp (s.1.at p.toNat) then (s.1.put p.toNat { s.1.at p.toNat with wait := min ((s.1.at p.toNat).wait + s.1.more) s.1.most, heard := s.1.now }, s.2 + 1)
      else (s.1.put p.toNat { s.1.at p.toNat with heard := s.1.now }, s.2))
  else s
def BD.hearK (d : BD) (now : Int) (ps : List Int) : BD × Int := ps.foldl BD.hear2 (d.tell now, 0)
def BD.heardL (d : BD) (now : Int) (ps : List Int) : BD × Int := ({ (d.hearK now ps).1 with wrong := (d.hearK now ps).1.wrong + (d.hearK now ps).2 }, (d.hearK now ps).2)

theorem BD.put_put (d : BD) (i : Nat) (x y : BO) : (d.put i x).put i y = d.put i y := by simp [BD.put]
theorem hear2_wrong (s : BD × Int) (p : Int) : (BD.hear2 s p).1.wrong = s.1.wrong ∧ s.2 ≤ (BD.hear2 s p).2 ∧ (BD.hear2 s p).2 ≤ s.2 + 1 := by
  unfold BD.hear2
  split
  · split
    · exact ⟨rfl, by dsimp only; omega, by dsimp only; omega⟩
    · exact ⟨rfl, by dsimp only; omega, by dsimp only; omega⟩
  · exact ⟨rfl, by omega, by omega⟩
theorem hearK_bound (s : BD × Int) (ps : List Int) : ∀ k, k ≤ ps.length → ((ps.take k).foldl BD.hear2 s).1.wrong = s.1.wrong ∧ s.2 ≤ ((ps.take k).foldl BD.hear2 s).2 ∧ ((ps.take k).foldl BD.hear2 s).2 ≤ s.2 + k
  | 0, _ => by simp
  | k + 1, h => by
    obtain ⟨h1, h2, h3⟩ := hearK_bound s ps k (by omega)
    rw [foldl_take BD.hear2 _ ps 0 (by omega)]
    generalize (ps.take k).foldl BD.hear2 s = t at *
    obtain ⟨g1, g2, g3⟩ := hear2_wrong t (ps.getD k 0)
    exact ⟨g1.trans h1, by omega, by omega⟩

set_option maxRecDepth 100000 in
set_option maxHeartbeats 2000000 in
theorem heard_any {b bt : Nat} {d : BD} (now : Int) (ao : Option Addr) (ps : List Int) (cap : Nat) (w : World) (H : isB w b bt d) (hp : isInts .i64 w ao ps) (hl : ps.length ≤ 1000) (hsep : ∀ x off, ao = some ⟨x, off, none⟩ → x ≠ b ∧ x ≠ bt)
    (hw0 : 0 ≤ d.wrong) (hw1 : d.wrong ≤ 1000000000) :
    Calls Try.prog 14 #[.pointer (some ⟨b,0,none⟩), .int .i64 now, .slice ao ps.length cap] w fun e w' => e = .returned (.int .i64 (d.heardL now ps).2) ∧ isB w' b bt (d.heardL now ps).1 ∧ Chg [b, bt] w w' := by
  go_enter Try.func14, Try.ntmps14
  go_wp2_with fail
  refine (tell_any now w H).mono ?_
  rintro e w1 ⟨rfl, H1, hc1⟩
  have hc1' : Chg [b, bt] w w1 := hc1.mono (by simp)
  have hwr : (d.tell now).wrong = d.wrong := rfl
  have hdef := Lib.hid (show d.hearK now ps = ps.foldl BD.hear2 (d.tell now, 0) from rfl)
  have hdef2 := Lib.hid (show d.heardL now ps = ({ (d.hearK now ps).1 with wrong := (d.hearK now ps).1.wrong + (d.hearK now ps).2 }, (d.hearK now ps).2) from rfl)
  generalize d.tell now = d1 at *
  go_wp2_with fail
  go_loopw [7, 19] (fun n i wr => ∃ k : Nat, k ≤ ps.length ∧ i = .int .i64 k ∧ n = .int .i64 ((ps.take k).foldl BD.hear2 (d1, 0)).2 ∧ isB wr b bt ((ps.take k).foldl BD.hear2 (d1, 0)).1 ∧ Chg [b, bt] w wr) (fun _ i _ => ps.length - (intOf i).toNat)
  case atStart => exact ⟨0, by omega, rfl, rfl, H1, hc1'⟩
  case round =>
    obtain ⟨k, hk, rfl, rfl, HH, hcr⟩ := hrel
    obtain ⟨hb0, hb1, hb2⟩ := hearK_bound (d1, 0) ps k hk
    by_cases hlt : k < ps.length
    · have hst := Lib.hid (foldl_take BD.hear2 (d1, 0) ps 0 hlt)
      obtain ⟨x, off, rfl⟩ := hp.addr hlt
      obtain ⟨_, hcell⟩ := (hp.keep hcr (fun x off e => by simp; exact hsep x off e)).at hlt
      generalize ps.getD k 0 = p at *
      generalize (ps.take k).foldl BD.hear2 (d1, 0) = s at *
      obtain ⟨s1, s2⟩ := s
      dsimp only at hb0 hb1 hb2 HH ⊢
      cases hth : s1.there p with
      | false =>
        have hgo := Lib.hid (show BD.hear2 (s1, s2) p = (s1, s2) by simp [BD.hear2, BD.hears, hth])
        go_wp2_with fail
        refine (of_no p wr HH hth).mono ?_
        rintro e w' ⟨rfl, rfl⟩
        go_wp2_with fail
        go_roundw
        case rel => exact ⟨k + 1, by omega, by go_num, by rw [hst.out, hgo.out], by rw [hst.out, hgo.out]; exact HH, hcr⟩
        case measure => simp [intOf]; omega
      | true =>
        obtain ⟨n, rfl, hn, hm⟩ := BD.there_yes hth
        have hcg := HH.cg n hn
        cases hg : (s1.at n).gone with
        | true =>
          rw [hg] at hcg
          have hgo := Lib.hid (show BD.hear2 (s1, s2) n = (s1, s2) by simp [BD.hear2, BD.hears, hth, hg])
          go_wp2_with fail
          refine (of_yes wr HH hn hm).mono ?_
          rintro e w' ⟨rfl, rfl⟩
          go_wp2_with fail
          go_roundw
          case rel => exact ⟨k + 1, by omega, by go_num, by rw [hst.out, hgo.out], by rw [hst.out, hgo.out]; exact HH, hcr⟩
          case measure => simp [intOf]; omega
        | false =>
          rw [hg] at hcg
          cases hsu : s1.susp (s1.at n) with
          | false =>
            have hgo := Lib.hid (show BD.hear2 (s1, s2) n = (s1.put n { s1.at n with heard := s1.now }, s2) by simp [BD.hear2, BD.hears, hth, hg, hsu])
            go_wp2_with fail
            refine (of_yes wr HH hn hm).mono ?_
            rintro e w' ⟨rfl, rfl⟩
            go_wp2_with fail
            refine (susp_any wr HH hn).mono ?_
            rintro e w' ⟨rfl, hcs⟩
            rw [hsu]
            have HS := HH.keep0 hcs
            have h4 := HS.c4
            have hch := HS.ch n hn
            have hff := HS.ft (n * 3)
            have hsg := Lib.hid (HS.setHeard hn s1.now HS.wf.n0 (Int.le_refl _))
            have hcc := hcr.trans (hcs.mono (by simp))
            go_wp2_with fail
            go_roundw
            case rel => exact ⟨k + 1, by omega, by go_num, by rw [hst.out, hgo.out], by rw [hst.out, hgo.out]; exact hsg.out, hcc.setCell (.inl (by simp)) _⟩
            case measure => simp [intOf]; omega
          | true =>
            have hgo := Lib.hid (show BD.hear2 (s1, s2) n = (s1.put n { s1.at n with wait := min ((s1.at n).wait + s1.more) s1.most, heard := s1.now }, s2 + 1) by simp [BD.hear2, BD.hears, hth, hg, hsu])
            go_wp2_with fail
            refine (of_yes wr HH hn hm).mono ?_
            rintro e w' ⟨rfl, rfl⟩
            go_wp2_with fail
            refine (susp_any wr HH hn).mono ?_
            rintro e w' ⟨rfl, hcs⟩
            rw [hsu]
            have HS := HH.keep0 hcs
            have h2 := HS.c2
            have h3 := HS.c3
            have hcw := HS.cw n hn
            have hff := HS.ft (n * 3 + 1)
            have r0 := HS.wf.r0
            have r1 := HS.wf.r1
            have t1 := HS.wf.t1
            have w0 := HS.wf.w0 n hn
            have w1 := HS.wf.w1 n hn
            have hcc := hcr.trans (hcs.mono (S' := [b, bt]) (by simp))
            have key : ∀ v, v = min ((s1.at n).wait + s1.more) s1.most → isB (w'.setCell ⟨bt, n * 3 + 1, none⟩ (.int .i64 v)) b bt (s1.put n { s1.at n with wait := min ((s1.at n).wait + s1.more) s1.most }) := by
              rintro _ rfl
              exact HS.setWait hn _ (by omega) (by omega)
            have KEY := Lib.hid key
            clear key
            go_upto_region 13 with (first | (go_at_call 99; fail) | go_region)
            obtain ⟨v, hv⟩ : ∃ v, (if s1.most < (s1.at n).wait + s1.more then s1.most else (s1.at n).wait + s1.more) = v := ⟨_, rfl⟩
            rw [hv]
            have HW := (KEY.out v (by rw [← hv]; split <;> omega)).keep0 (Chg.refl [] _).drew
            have hcw2 := (hcc.setCell (p := ⟨bt, n * 3 + 1, none⟩) (.inl (by simp)) (.int .i64 v)).drew
            clear hv KEY
            generalize (w'.setCell ⟨bt, n * 3 + 1, none⟩ (.int .i64 v)).drew = W2 at *
            have hn2 : n < (s1.put n { s1.at n with wait := min ((s1.at n).wait + s1.more) s1.most }).len := by rw [BD.put_len]; exact hn
            have hch := HW.ch n hn2
            have h4 := HW.c4
            have hff2 := HW.ft (n * 3)
            have hsg := HW.setHeard hn2 s1.now HW.wf.n0 (Int.le_refl _)
            rw [BD.put_put, BD.put_at s1 hn, if_pos rfl] at hsg
            have HSG := Lib.hid hsg
            rw [show (s1.put n { s1.at n with wait := min ((s1.at n).wait + s1.more) s1.most }).now = s1.now from rfl] at h4
            clear hsg HW
            go_wp2_with fail
            go_roundw
            case rel => exact ⟨k + 1, by omega, by go_num, by rw [hst.out, hgo.out], by rw [hst.out, hgo.out]; exact HSG.out, hcw2.setCell (.inl (by simp)) _⟩
            case measure => simp [intOf]; omega
    · obtain rfl : k = ps.length := by omega
      rw [List.take_length] at HH hb0 hb1 hb2
      rw [List.take_length]
      have he := Lib.hid (show d.hearK now ps = ps.foldl BD.hear2 (d1, 0) from hdef.out)
      generalize ps.foldl BD.hear2 (d1, 0) = s at *
      have h5 := HH.c5
      have hf5 := HH.fb 5
      have hs5 := Lib.hid (HH.setWrong (s.1.wrong + s.2))
      dsimp only at hb0 hb1 hb2
      have hwb : 0 ≤ s.1.wrong ∧ s.1.wrong ≤ 1000000000 := by rw [hb0, hwr]; exact ⟨hw0, hw1⟩
      clear hb0 hwr
      go_wp2_with fail
      go_ret
      rw [hdef2.out, he.out]
      exact ⟨rfl, hs5.out, hcr.setCell (.inl (by simp)) _⟩
end Go.Proofs.Ytjindkkdgjeppaa
