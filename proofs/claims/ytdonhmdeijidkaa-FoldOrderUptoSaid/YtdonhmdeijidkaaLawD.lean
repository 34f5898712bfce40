/-
  Walk: FoldLatest.
-/
import Derived.Test.YtdonhmdeijidkaaLawC
namespace Go.Proofs.Ytdonhmdeijidkaa
open Go.RowKit Go.Maps

theorem evts_at {w : World} {B : Nat} {A : Option Addr} {l : List Ev} (h : Evts w B A l) {k : Nat} {x : Ev} (hx : l[k]? = some x) : ∃ b off tA tc fA fc, A = some ⟨b, off, none⟩ ∧ b < B ∧
    (w.cell? ⟨b, off + k * 4, none⟩ = some (vS x.stream) ∧ w.cell? ⟨b, off + k * 4 + 1, none⟩ = some (vS x.typ) ∧ w.cell? ⟨b, off + k * 4 + 2, none⟩ = some (.slice tA x.tags.length tc) ∧ w.cell? ⟨b, off + k * 4 + 3, none⟩ = some (.slice fA x.flds.length fc)) ∧
    Strs w B tA x.tags ∧ Flds w B fA x.flds := by
  obtain ⟨b, off, rfl, hb, hc⟩ := h (fun e => by rw [e] at hx; simp at hx)
  obtain ⟨tA, tc, fA, fc, h1, h2, h3, h4, h5, h6⟩ := hc k x hx
  exact ⟨b, off, tA, tc, fA, fc, rfl, hb, ⟨h1, h2, h3, h4⟩, h5, h6⟩

theorem any_succ {E : Ents} {s : Str} {k : Nat} {x : Str × Int} (hx : E[k]? = some x) : ((E.take (k + 1)).any fun x => x.1 == s) = (((E.take k).any fun x => x.1 == s) || (x.1 == s)) := by
  rw [List.take_add_one, hx]; simp

set_option maxRecDepth 100000 in
set_option maxHeartbeats 4000000 in
theorem latest_law_calls (w : World) (A : Option Addr) (c : Nat) (l : List Ev) (s : Str) (h : Evts w w.heap.size A l) (hn : l.length ≤ 1048576) (hs : ∀ e ∈ l, e.Small) (hsl : s.length ≤ 1048576) :
    Calls Try.prog 5 #[.slice A l.length c, vS s] w fun e w' => e = .returned (.bool true) ∧ Below w.heap.size w w' := by
  have HE := Lib.hid h
  have HS := Lib.hid hs
  have HGO := Lib.hid (few_good hs)
  have HLE := Lib.hid (few_len l)
  clear h hs
  go_enter Try.func5, Try.ntmps5
  go_wp2_with fail
  refine (shown_calls w).mono ?_
  rintro e w0 ⟨rfl, hb0⟩
  go_wp2_with fail
  refine (all_calls w0).mono ?_
  rintro e w1 ⟨⟨A1, c1, rfl, hq1⟩, hb1⟩
  go_wp2_with fail
  refine (new_all w1 A1 c1 3 [110] hq1 (df_small 3 [110] (by decide) (by decide) (by decide)) may_latest).mono ?_
  rintro e w2 ⟨⟨sb, mb, rfl, hst, hsb, hmb⟩, hb2⟩
  have hbw1 := hb0.trans (hb1.mono hb0.size)
  have hbw2 := hbw1.trans (hb2.mono hbw1.size)
  have HBW2 := Lib.hid hbw2
  have HST := Lib.hid hst
  have hmw : w.heap.size ≤ mb := Nat.le_trans hbw1.size hmb
  have HMW := Lib.hid hmw
  have hel := Lib.hid (few_calls w2 A c l ((HE.out.same (same_below hbw2)).more hbw2.size) hn HS.out)
  clear hq1 hb1 hb2 hst hsb hmb hmw hb0 hbw1 hbw2
  go_wp2_with fail
  refine hel.out.mono ?_
  rintro e w3 ⟨⟨A3, c3, rfl, hev⟩, hb3⟩
  generalize hL : fewE l = L at hev HGO HLE
  have HST3 := Lib.hid (HST.out.below hb3)
  have hbw3 := Lib.hid (HBW2.out.trans (hb3.mono HBW2.out.size))
  have HEV := Lib.hid hev
  have hLn := HLE.out
  have hsb3 : sb < w3.heap.size := by obtain ⟨_, _, b1, _⟩ := HST3.out.cells; exact b1.lt
  have hmb3 : mb < w3.heap.size := HST3.out.map.lt
  clear hb3 hev hel hL
  go_wp2_with fail
  go_loopw [9, 10, 11, 12] (fun fnd i _ _ wr => (∃ k : Nat, k ≤ L.length ∧ i = .int .i64 k ∧ fnd = .bool (lastN [110] s (L.take k)).isSome ∧ Blk wr w3.heap.size 53 #[vS s, .int .i64 ((lastN [110] s (L.take k)).getD 0)] ∧ St wr sb mb 3 [110] allQ (foldE 3 [110] allQ (L.take k))) ∧ Same w3.heap.size w3 wr ∧ Below w.heap.size w wr) (fun _ i _ _ _ => L.length - (intOf i).toNat)
  case atStart =>
    have hal := alloc_below w3 (.cells #[vS s, .int .i64 0] 53)
    exact ⟨⟨0, Nat.zero_le _, rfl, rfl, Blk.new _ _ _, HST3.out.below hal⟩, same_below hal, hbw3.out.trans (hal.mono hbw3.out.size)⟩
  case round =>
    obtain ⟨⟨k, hk, rfl, rfl, hBk, hSt⟩, hsm, hbr⟩ := hrel
    by_cases hlt : k < L.length
    · obtain ⟨x, hx⟩ := at_some hlt
      obtain ⟨b, off, tA, tc, fA, fc, rfl, hbb, ⟨q1, q2, q3, q4⟩, q5, q6⟩ := evts_at (HEV.out.same hsm) hx
      have HX := Lib.hid hx
      have HBk := Lib.hid hBk
      have HSt := Lib.hid hSt
      have HSM := Lib.hid hsm
      have HBR := Lib.hid hbr
      have hgood := HGO.out x (List.mem_of_getElem? hx)
      have HG := Lib.hid hgood
      have hwz : w3.heap.size < wr.heap.size := hBk.lt
      have hq5 := Lib.hid (q5.more (Nat.le_of_lt hwz))
      have hq6 := Lib.hid (q6.more (Nat.le_of_lt hwz))
      have hok := foldE_ok 3 [110] allQ (L.take k) (take_good HGO.out k)
      have hlk : (L.take k).length ≤ 10000 := by simp; omega
      have HSTEP := Lib.hid (step_to wr sb mb 3 [110] allQ (foldE 3 [110] allQ (L.take k)) (L.take k).length x tA fA tc fc 0 0 hSt allQ_small hok.1 hlk hq5.out hq6.out hgood)
      have Q1 := Lib.hid q1
      have Q2 := Lib.hid q2
      have Q3 := Lib.hid q3
      have Q4 := Lib.hid q4
      clear hx hBk hSt hsm hbr hgood hok hlk q5 q6
      go_wp2_with fail
      refine HSTEP.out.mono ?_
      rintro e w4 ⟨rfl, hst4, hm0, hg4⟩
      have hsm4 := same_turn hg4 hm0 hst4.map
      have q1 := (hsm4 b (off + k * 4) (Nat.lt_trans hbb hwz)).trans Q1.out
      have q2 := (hsm4 b (off + k * 4 + 1) (Nat.lt_trans hbb hwz)).trans Q2.out
      have q3 := (hsm4 b (off + k * 4 + 2) (Nat.lt_trans hbb hwz)).trans Q3.out
      have q4 := (hsm4 b (off + k * 4 + 3) (Nat.lt_trans hbb hwz)).trans Q4.out
      have HBk4 := Lib.hid (HBk.out.turn hm0 hg4)
      have HST4 := Lib.hid hst4
      have hb4 := below_grown HBR.out hg4 HMW.out
      have HB4 := Lib.hid hb4
      have hz4 := hg4.size
      have HSM4 := Lib.hid (HSM.out.trans (hsm4.mono (Nat.le_of_lt hwz)))
      have HVAL := Lib.hid (value04_calls w4 x.stream x.typ [110] tA fA x.tags.length tc fc x.flds ((hq6.out.same hsm4).more hz4) HG.out.2.2.2.1)
      clear hst4 hm0 hg4 hb4 hsm4
      go_wp2_with fail
      refine HVAL.out.mono ?_
      rintro e w5 ⟨rfl, hb5⟩
      have hb45 : b < w4.heap.size := by omega
      have q1 := (hb5.cell (p := ⟨b, off + k * 4, none⟩) hb45).trans q1
      have HBk5 := Lib.hid (HBk4.out.kept hb5)
      have HST5 := Lib.hid (HST4.out.below hb5)
      have HB5 := Lib.hid (HB4.out.trans (hb5.mono HB4.out.size))
      have HSM5 := Lib.hid (HSM4.out.trans ((same_below hb5).mono (by omega)))
      have hf5 := HBk5.out.frozen 1
      have hc5 := HBk5.out.two.2
      clear hb5
      generalize hfo : fieldOf x.flds [110] = o
      have HFO := Lib.hid hfo
      clear hfo
      cases o with
      | none =>
        go_wp2
        go_roundw
        case rel =>
          refine ⟨⟨k + 1, by omega, by go_num, ?_, ?_, ?_⟩, HSM5.out, HB5.out⟩
          · rw [lastN_succ HX.out, HFO.out]; simp
          · rw [lastN_succ HX.out, HFO.out]; simpa using HBk5.out
          · rw [foldE_succ HX.out]; exact HST5.out
        case measure => simp [intOf]; omega
      | some v =>
        go_wp2
        · go_roundw
          case rel =>
            have he : x.stream = s := beq_iff_eq.1 (by assumption)
            have hl1 : lastN [110] s (L.take (k + 1)) = some v := by rw [lastN_succ HX.out, HFO.out, if_pos ⟨rfl, he⟩]
            refine ⟨⟨k + 1, by omega, by go_num, ?_, ?_, ?_⟩, HSM5.out.trans ?_, HB5.out.setCell (p := ⟨w3.heap.size, 1, none⟩) hbw3.out.size _⟩
            · rw [hl1]; rfl
            · rw [hl1]; exact HBk5.out.set_ 1 _
            · rw [foldE_succ HX.out]; exact HST5.out.far (p := ⟨w3.heap.size, 1, none⟩) hsb3 (by simp only; omega) _
            · intro b o hb; exact World.cell?_of_block (Below.heap_setCell _ _ _ b (by simp only; omega))
          case measure => simp [intOf]; omega
        · go_roundw
          case rel =>
            have he : ¬ x.stream = s := beq_eq_false_iff_ne.1 (by assumption)
            have hl1 : lastN [110] s (L.take (k + 1)) = lastN [110] s (L.take k) := by rw [lastN_succ HX.out, if_neg (fun h => he h.2)]
            refine ⟨⟨k + 1, by omega, by go_num, ?_, ?_, ?_⟩, HSM5.out, HB5.out⟩
            · rw [hl1]
            · rw [hl1]; exact HBk5.out
            · rw [foldE_succ HX.out]; exact HST5.out
          case measure => simp [intOf]; omega
    · obtain rfl : k = L.length := by omega
      rw [List.take_length] at hBk hSt
      rw [List.take_length]
      obtain ⟨hok, hkey⟩ := foldE_ok 3 [110] allQ L HGO.out
      have hri := hSt.map.2.1
      have hEn : (foldE 3 [110] allQ L).length ≤ 240 := by have := hok.1; omega
      have HENT := Lib.hid (entries_calls wr sb mb 3 [110] allQ (foldE 3 [110] allQ L) hSt (by omega) hkey)
      have hla := latest_last [110] s L
      generalize foldE 3 [110] allQ L = E at hEn HENT hla hri
      generalize lastN [110] s L = o at hla hBk ⊢
      have HLA := Lib.hid hla
      have HRI := Lib.hid hri
      have HBk := Lib.hid hBk
      have HBR := Lib.hid hbr
      clear hla hri hBk hbr hSt hok hkey hsm
      go_wp2_with fail
      refine HENT.out.mono ?_
      rintro e w6 ⟨⟨A6, c6, rfl, hfl⟩, hb6⟩
      have HFL := Lib.hid hfl
      obtain ⟨d0, d1⟩ := (HBk.out.kept hb6).two
      have HB6 := Lib.hid (HBR.out.trans (hb6.mono HBR.out.size))
      clear hfl hb6
      go_wp2_with fail
      go_loopw [14, 15] (fun is i wr => (∃ k : Nat, k ≤ E.length ∧ i = .int .i64 k ∧ is = .bool ((E.take k).any fun x => x.1 == s)) ∧ ∃ n, wr = w6.drewN n) (fun _ i _ => E.length - (intOf i).toNat)
      case atStart => exact ⟨⟨0, Nat.zero_le _, rfl, rfl⟩, 0, rfl⟩
      case round =>
        obtain ⟨⟨k, hk, rfl, rfl⟩, n, rfl⟩ := hrel
        by_cases hlt : k < E.length
        · obtain ⟨x, hx⟩ := at_some hlt
          obtain ⟨b, off, rfl, hbb, hc⟩ := HFL.out (ne_nil_of hlt)
          obtain ⟨q1, q2⟩ := hc k x hx
          have hgm := HRI.out.get_mem (List.mem_of_getElem? hx)
          have HGM := Lib.hid hgm
          have HX := Lib.hid hx
          clear hc hx hgm
          generalize hbi : (E.take k).any (fun x => x.1 == s) = bi
          have HBI := Lib.hid hbi
          clear hbi
          by_cases hxs : x.1 = s
          · have ho : o = some x.2 := by rw [← HLA.out, ← hxs]; exact HGM.out
            rw [hxs] at q1
            rw [ho] at d1
            have HXS := Lib.hid hxs
            clear hxs ho
            cases bi
            all_goals
              go_wp2_with fail
              go_quiet (fail)
              go_wp2
              go_roundw
              case rel => exact ⟨⟨k + 1, by omega, by go_num, by rw [any_succ HX.out, HBI.out, HXS.out]; simp⟩, _, rfl⟩
              case measure => simp [intOf]; omega
          · have hz : (x.1 == s) = false := beq_eq_false_iff_ne.2 hxs
            have HZ := Lib.hid hz
            cases bi
            all_goals
              go_wp2_with fail
              go_quiet (fail)
              go_wp2
              go_roundw
              case rel => exact ⟨⟨k + 1, by omega, by go_num, by rw [any_succ HX.out, HBI.out, HZ.out]; simp⟩, _, rfl⟩
              case measure => simp [intOf]; omega
        · obtain rfl : k = E.length := by omega
          rw [List.take_length, any_field, HLA.out]
          go_wp2
          go_ret
          exact ⟨by simp, below_drewN HB6.out _⟩
end Go.Proofs.Ytdonhmdeijidkaa
