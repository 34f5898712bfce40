/-
  Walk: the reference's May of a query (layer 6).
-/
import Derived.Test.YtdonhmdeijidkaaGreatQueC
import Derived.Test.YtdonhmdeijidkaaGreatRefD
namespace Go.Proofs.YtdonhmdeijidkaaGreat
open Go.RowKit

theorem qMay_big {q : List Cl} (h : 4 < q.length ∨ q.any bigC = true) : qMay q = 3 := by unfold qMay; rw [if_pos h]
theorem qMay_none {q : List Cl} (h1 : ¬ 4 < q.length) (h2 : q.any bigC = false) (h3 : q.any noneC = true) : qMay q = 5 := by
  unfold qMay; rw [if_neg (by rw [h2]; simpa using h1), if_pos h3]
theorem qMay_rest {q : List Cl} (h1 : ¬ 4 < q.length) (h2 : q.any bigC = false) (h3 : q.any noneC = false) : qMay q = if q.any badC = true then 1 else 0 := by
  unfold qMay; rw [if_neg (by rw [h2]; simpa using h1), if_neg (by rw [h3]; simp)]
theorem any_take {α : Type} {p : α → Bool} {l : List α} {k : Nat} {x : α} (hx : l[k]? = some x) : (l.take (k + 1)).any p = ((l.take k).any p || p x) := by
  rw [List.take_add_one, hx]; simp
theorem cls_at {w : World} {B : Nat} {A : Option Addr} {q : List Cl} (h : Cls w B A q) {k : Nat} {x : Cl} (hx : q[k]? = some x) : ∃ b off tA tc yA yc, A = some ⟨b, off, none⟩ ∧ b < B ∧
    (w.cell? ⟨b, off + k * 2, none⟩ = some (.slice tA x.tags.length tc) ∧ w.cell? ⟨b, off + k * 2 + 1, none⟩ = some (.slice yA x.types.length yc)) ∧ Strs w B tA x.tags ∧ Strs w B yA x.types := by
  obtain ⟨b, off, rfl, hb, hc⟩ := h (fun e => by rw [e] at hx; simp at hx)
  obtain ⟨tA, tc, yA, yc, h1, h2, h3, h4⟩ := hc k x hx
  exact ⟨b, off, tA, tc, yA, yc, rfl, hb, ⟨h1, h2⟩, h3, h4⟩

set_option maxRecDepth 100000 in
set_option maxHeartbeats 8000000 in
theorem may06_calls (w : World) (A : Option Addr) (c : Nat) (q : List Cl) (h : Cls w w.heap.size A q) (hs : SmallQ q) :
    Calls Tryz.prog 86 #[.agg #[.slice A q.length c]] w fun e w' => e = .returned (.int .i64 (qMay q)) ∧ Below w.heap.size w w' := by
  obtain ⟨w1, hw1⟩ : ∃ y, y = w.alloc (.cells #[.slice A q.length c] 24) := ⟨_, rfl⟩
  have hb1 : Below w.heap.size w w1 := hw1 ▸ (Below.refl w.heap.size w).alloc (Nat.le_refl _) _
  have hBk : Blk w1 w.heap.size 24 #[.slice A q.length c] := hw1 ▸ Blk.new _ _ _
  have HQ := Lib.hid ((h.same (same_below hb1)).more hb1.size)
  have HB1 := Lib.hid hb1
  have HBk := Lib.hid hBk
  have HS := Lib.hid hs
  have hqn : q.length ≤ 1048576 := hs.1
  generalize hv : qMay q = v
  have HV := Lib.hid hv
  clear h hs hb1 hBk hv
  by_cases h4 : 4 < q.length
  · have HX := Lib.hid (show v = 3 by rw [← HV.out]; exact qMay_big (.inl h4))
    have k0 := HBk.out.one
    go_enter Tryz.func86, Tryz.ntmps86
    go_wp2_with fail
    rw [← hw1]
    clear hw1
    go_wp2
    go_ret
    exact ⟨ret_int HX.out.symm, HB1.out⟩
  · have H4 := Lib.hid h4
    go_enter Tryz.func86, Tryz.ntmps86
    have k0 := HBk.out.one
    go_wp2_with fail
    rw [← hw1]
    clear hw1
    go_loopw [3] (fun i wr => (∃ k : Nat, k ≤ q.length ∧ i = .int .i64 k ∧ ∀ j y, q[j]? = some y → j < k → bigC y = false) ∧ wr = w1) (fun i _ => q.length - (intOf i).toNat)
    case atStart => exact ⟨⟨0, Nat.zero_le _, rfl, by simp⟩, rfl⟩
    case round =>
      obtain ⟨⟨k, hk, rfl, hno⟩, rfl⟩ := hrel
      have HN := Lib.hid hno
      clear hno
      by_cases hlt : k < q.length
      · obtain ⟨x, hx⟩ := at_some hlt
        obtain ⟨b, off, tA, tc, yA, yc, rfl, hbb, ⟨q1, q2⟩, -, -⟩ := cls_at HQ.out hx
        have HX := Lib.hid hx
        clear hx
        by_cases hb4 : 4 < x.tags.length
        · have HB4 := Lib.hid (show bigC x = true by unfold bigC; simp [hb4])
          go_wp2
          go_ret
          exact ⟨ret_int (by rw [← HV.out]; exact (qMay_big (.inr (any_hit HX.out HB4.out))).symm), HB1.out⟩
        · by_cases hb5 : 4 < x.types.length
          · have HB4 := Lib.hid (show bigC x = true by unfold bigC; simp [hb5])
            go_wp2
            go_ret
            exact ⟨ret_int (by rw [← HV.out]; exact (qMay_big (.inr (any_hit HX.out HB4.out))).symm), HB1.out⟩
          · have HB4 := Lib.hid (show bigC x = false by unfold bigC; simp [hb4, hb5])
            go_wp2
            go_roundw
            case rel => exact ⟨⟨k + 1, by omega, by go_num, no_succ HN.out HX.out HB4.out⟩, trivial⟩
            case measure => simp [intOf]; omega
      · obtain rfl : k = q.length := by omega
        have HBIG := Lib.hid (any_miss HN.out)
        clear HN
        go_wp2_with fail
        go_loopw [4, 5, 6, 7, 8, 9, 10, 11, 12, 13, 14] (fun rs i _ _ _ _ _ _ _ _ _ w2 => (∃ k : Nat, k ≤ q.length ∧ i = .int .i64 k ∧ rs = .bool (!(q.take k).any badC) ∧ ∀ j y, q[j]? = some y → j < k → noneC y = false) ∧ Below wr.heap.size wr w2) (fun _ i _ _ _ _ _ _ _ _ _ _ => q.length - (intOf i).toNat)
        case atStart => exact ⟨⟨0, Nat.zero_le _, rfl, rfl, by simp⟩, Below.refl _ _⟩
        case round =>
          rename World => w2
          obtain ⟨⟨k, hk, rfl, rfl, hno⟩, hbr⟩ := hrel
          have HN := Lib.hid hno
          have HBR := Lib.hid hbr
          have k1 := (HBk.out.kept hbr).one
          clear hno
          by_cases hlt : k < q.length
          · obtain ⟨x, hx⟩ := at_some hlt
            obtain ⟨b, off, tA, tc, yA, yc, rfl, hbb, ⟨q1, q2⟩, s1, s2⟩ := cls_at HQ.out hx
            have r1 := (hbr.cell (p := ⟨b, off + k * 2, none⟩) hbb).trans q1
            have r2 := (hbr.cell (p := ⟨b, off + k * 2 + 1, none⟩) hbb).trans q2
            have HX := Lib.hid hx
            have hxs := HS.out.2 x (List.mem_of_getElem? hx)
            have htn := hxs.1.1
            have hyn := hxs.2.1
            have HXS := Lib.hid hxs
            obtain ⟨w3, hw3⟩ : ∃ y, y = w2.alloc (.cells #[.slice tA x.tags.length tc, .slice yA x.types.length yc] 115) := ⟨_, rfl⟩
            have hb3 : Below w2.heap.size w2 w3 := hw3 ▸ (Below.refl w2.heap.size w2).alloc (Nat.le_refl _) _
            have HBx : Hid (Blk w3 w2.heap.size 115 #[.slice tA x.tags.length tc, .slice yA x.types.length yc]) := Lib.hid (hw3 ▸ Blk.new _ _ _)
            have HB3 := Lib.hid (HBR.out.trans (hb3.mono HBR.out.size))
            have HT := Lib.hid ((s1.same (same_below HB3.out)).more HB3.out.size)
            have HY := Lib.hid ((s2.same (same_below HB3.out)).more HB3.out.size)
            have HW3 := Lib.hid hw3
            clear hx q1 q2 s1 s2 hbr hxs hb3 hw3
            go_wp2_with fail
            rw [← HW3.out]
            clear r1 r2
            go_loopw [7, 8, 9, 10] (fun i _ _ _ w4 => (∃ m : Nat, m ≤ x.tags.length ∧ i = .int .i64 m ∧ ∀ j y, x.tags[j]? = some y → j < m → (!tagB y) = false) ∧ Below w3.heap.size w3 w4) (fun i _ _ _ _ => x.tags.length - (intOf i).toNat)
            case atStart => exact ⟨⟨0, Nat.zero_le _, rfl, by simp⟩, Below.refl _ _⟩
            case round =>
              rename World => w4
              obtain ⟨⟨m, hm, rfl, hno⟩, hb4⟩ := hrel
              have HM := Lib.hid hno
              have HB4 := Lib.hid hb4
              obtain ⟨d0, d1⟩ := (HBx.out.kept hb4).two
              clear hno
              by_cases hltm : m < x.tags.length
              · obtain ⟨t, ht⟩ := at_some hltm
                obtain ⟨b2, off2, rfl, hbb2, hc2⟩ := HT.out (ne_nil_of hltm)
                have r1 := (hb4.cell (p := ⟨b2, off2 + m, none⟩) hbb2).trans (hc2 m t ht)
                have hts := HXS.out.1.2 t (List.mem_of_getElem? ht)
                have HTX := Lib.hid ht
                clear hc2 ht hb4
                generalize htg : tagB t = tg
                have HTG := Lib.hid htg
                clear htg
                go_wp2_with fail
                refine (parts03_calls _ hts _).mono ?_
                rintro e w5 ⟨⟨a5, b5, rfl⟩, hb5⟩
                rw [HTG.out]
                have hbz := HB4.out.trans (hb5.mono HB4.out.size)
                cases tg
                · go_wp2
                  go_ret
                  have hnc : noneC x = true := by unfold noneC; rw [any_hit (p := fun s => !tagB s) HTX.out (by simp [HTG.out])]; rfl
                  exact ⟨ret_int (by rw [← HV.out]; exact (qMay_none H4.out HBIG.out (any_hit HX.out hnc)).symm), HB1.out.trans ((HB3.out.trans (hbz.mono HB3.out.size)).mono HB1.out.size)⟩
                · go_wp2
                  go_roundw
                  case rel => exact ⟨⟨m + 1, by omega, by go_num, no_succ (p := fun y => !tagB y) HM.out HTX.out (by simp [HTG.out])⟩, hbz⟩
                  case measure => simp [intOf]; omega
              · obtain rfl : m = x.tags.length := by omega
                have HT1 := Lib.hid (any_miss (p := fun y => !tagB y) HM.out)
                clear HM hb4
                go_wp2_with fail
                go_loopw [11, 12] (fun i _ w5 => (∃ m : Nat, m ≤ x.types.length ∧ i = .int .i64 m ∧ ∀ j y, x.types[j]? = some y → j < m → (!mayB y) = false) ∧ Below w3.heap.size w3 w5) (fun i _ _ => x.types.length - (intOf i).toNat)
                case atStart => exact ⟨⟨0, Nat.zero_le _, rfl, by simp⟩, HB4.out⟩
                case round =>
                  rename World => w5
                  obtain ⟨⟨m, hm, rfl, hno⟩, hb5⟩ := hrel
                  have HM := Lib.hid hno
                  have HB5 := Lib.hid hb5
                  obtain ⟨d0, d1⟩ := (HBx.out.kept hb5).two
                  clear hno
                  by_cases hltm : m < x.types.length
                  · obtain ⟨t, ht⟩ := at_some hltm
                    obtain ⟨b2, off2, rfl, hbb2, hc2⟩ := HY.out (ne_nil_of hltm)
                    have r1 := (hb5.cell (p := ⟨b2, off2 + m, none⟩) hbb2).trans (hc2 m t ht)
                    have hts := HXS.out.2.2 t (List.mem_of_getElem? ht)
                    have HTX := Lib.hid ht
                    clear hc2 ht hb5
                    generalize htg : mayB t = tg
                    have HTG := Lib.hid htg
                    clear htg
                    go_wp2_with fail
                    refine (may03_calls _ hts _).mono ?_
                    rintro e w6 ⟨rfl, hb6⟩
                    rw [HTG.out]
                    have hbz := HB5.out.trans (hb6.mono HB5.out.size)
                    cases tg
                    · go_wp2
                      go_ret
                      have hnc : noneC x = true := by unfold noneC; rw [any_hit (p := fun s => !mayB s) HTX.out (by simp [HTG.out])]; simp
                      exact ⟨ret_int (by rw [← HV.out]; exact (qMay_none H4.out HBIG.out (any_hit HX.out hnc)).symm), HB1.out.trans ((HB3.out.trans (hbz.mono HB3.out.size)).mono HB1.out.size)⟩
                    · go_wp2
                      go_roundw
                      case rel => exact ⟨⟨m + 1, by omega, by go_num, no_succ (p := fun y => !mayB y) HM.out HTX.out (by simp [HTG.out])⟩, hbz⟩
                      case measure => simp [intOf]; omega
                  · obtain rfl : m = x.types.length := by omega
                    have hnc : noneC x = false := by unfold noneC; rw [HT1.out, any_miss (p := fun y => !mayB y) HM.out]; rfl
                    have HNC := Lib.hid hnc
                    have HRT := Lib.hid (rise04_calls w5 tA tc x.tags ((HT.out.same (same_below hb5)).more hb5.size) htn)
                    clear HM hnc
                    have HANY := Lib.hid (any_take (p := badC) HX.out)
                    have hbd : badC x = (!riseB x.tags || !riseB x.types) := rfl
                    generalize riseB x.tags = g1 at HRT hbd
                    generalize hg2 : riseB x.types = g2 at hbd
                    generalize hg3 : (q.take k).any badC = g3 at HANY
                    have HBD := Lib.hid hbd
                    have HG2 := Lib.hid hg2
                    have HG3 := Lib.hid hg3
                    clear hbd hg2 hg3 hb5
                    go_wp2_with fail
                    refine HRT.out.mono ?_
                    rintro e w6 ⟨rfl, hb6⟩
                    obtain ⟨d0, d1⟩ := ((HBx.out.kept HB5.out).kept hb6).two
                    have HB6 := Lib.hid (HB5.out.trans (hb6.mono HB5.out.size))
                    clear hb6
                    go_wp2_with fail
                    refine (rise04_calls w6 yA yc x.types ((HY.out.same (same_below HB6.out)).more HB6.out.size) hyn).mono ?_
                    rintro e w7 ⟨rfl, hb7⟩
                    rw [HG2.out]
                    have HB7 := Lib.hid (HB6.out.trans (hb7.mono HB6.out.size))
                    clear hb7
                    cases g1 <;> cases g2 <;> cases g3
                    all_goals
                      go_wp2
                      go_roundw
                      case rel => exact ⟨⟨k + 1, by omega, by go_num, by rw [HANY.out, HBD.out]; rfl, no_succ HN.out HX.out HNC.out⟩, HB3.out.trans (HB7.out.mono HB3.out.size)⟩
                      case measure => simp [intOf]; omega
          · obtain rfl : k = q.length := by omega
            have HNONE := Lib.hid (any_miss HN.out)
            rw [List.take_length]
            have hr := qMay_rest H4.out HBIG.out HNONE.out
            rw [HV.out] at hr
            generalize q.any badC = g at hr
            have HR := Lib.hid hr
            clear HN hr hbr
            cases g
            all_goals
              go_wp2
              go_ret
              exact ⟨ret_int HR.out.symm, HB1.out.trans (HBR.out.mono HB1.out.size)⟩
end Go.Proofs.YtdonhmdeijidkaaGreat
