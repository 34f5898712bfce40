/-
  Walks: the reference's 'may an event be' (registrarref04.May).
-/
import Derived.Test.YtdonhmdeijidkaaGreatRefC
import Derived.Deep.DeepMust
namespace Go.Proofs.YtdonhmdeijidkaaGreat
open Go.RowKit

theorem info_str : (Tryz.prog.info? 9).map (fun i => (i.zero, i.size, i.bytes)) = some (some (.string .empty), 1, 16) := by kernel_rfl

def fitB (l : List Fld) : Bool := l.all fun x => decide (-1099511627776 ≤ x.2) && decide (x.2 ≤ 1099511627776)
def evMay (e : Ev) : Int :=
  if mayB e.stream = false ∨ mayB e.typ = false then 5
  else if 6 < e.tags.length ∨ 4 < e.flds.length then 3
  else if (e.flds.all fun x => mayB x.1) = false then 5
  else if e.tags.all tagB = false then 5
  else if fitB e.flds = false ∨ riseB e.tags = false ∨ riseB (e.flds.map (·.1)) = false then 1
  else 0

theorem take_map {l : List Fld} {k : Nat} {x : Fld} (hx : l[k]? = some x) : ((l.take k).map (·.1)).map vS ++ [vS x.1] = ((l.take (k + 1)).map (·.1)).map vS := by
  rw [List.take_add_one, hx]; simp
theorem fit_succ {l : List Fld} {k : Nat} {x : Fld} (hx : l[k]? = some x) : fitB (l.take (k + 1)) = (fitB (l.take k) && (decide (-1099511627776 ≤ x.2) && decide (x.2 ≤ 1099511627776))) := by
  rw [List.take_add_one, hx]
  unfold fitB
  rw [List.all_append]
  simp

theorem rise04_n (w : World) (A : Option Addr) (n c : Nat) (l : List Str) (hl : l.length = n) (h : Strs w w.heap.size A l) (hn : n ≤ 1048576) :
    Calls Tryz.prog 89 #[.slice A n c] w fun e w' => e = .returned (.bool (riseB l)) ∧ Below w.heap.size w w' := by
  subst hl; exact rise04_calls w A c l h hn

set_option maxRecDepth 100000 in
set_option maxHeartbeats 1000000 in
theorem may04_calls (w : World) (e0 : Ev) (tA fA : Option Addr) (tc fc : Nat) (hT : Strs w w.heap.size tA e0.tags) (hF : Flds w w.heap.size fA e0.flds) (hs : e0.Small) :
    Calls Tryz.prog 50 #[.agg #[vS e0.stream, vS e0.typ, .slice tA e0.tags.length tc, .slice fA e0.flds.length fc]] w fun e w' =>
      e = .returned (.int .i64 (evMay e0)) ∧ Below w.heap.size w w' := by
  obtain ⟨s, t, tags, flds⟩ := e0
  obtain ⟨hs1, hs2, ⟨hs3, hs4⟩, hs5, hs6⟩ := hs
  simp only at hT hF hs1 hs2 hs3 hs4 hs5 hs6 ⊢
  have HB : Blk (w.alloc (.cells #[vS s, vS t, .slice tA tags.length tc, .slice fA flds.length fc] 45)) w.heap.size 45 #[vS s, vS t, .slice tA tags.length tc, .slice fA flds.length fc] := Blk.new w _ _
  have hbw : Below w.heap.size w (w.alloc (.cells #[vS s, vS t, .slice tA tags.length tc, .slice fA flds.length fc] 45)) := (Below.refl w.heap.size w).alloc (Nat.le_refl _) _
  have hE : evMay ⟨s, t, tags, flds⟩ = evMay ⟨s, t, tags, flds⟩ := rfl
  generalize hv : evMay ⟨s, t, tags, flds⟩ = v at hE
  clear hE
  unfold evMay at hv
  simp only at hv
  have HV := Lib.hid hv
  clear hv
  generalize hm1 : mayB s = m1
  generalize hm2 : mayB t = m2
  have M1 := Lib.hid hm1
  have M2 := Lib.hid hm2
  clear hm1 hm2
  go_enter Tryz.func50, Tryz.ntmps50
  go_wp2_with fail
  refine (may03_calls s hs1 _).mono ?_
  rintro e w1 ⟨rfl, hb1⟩
  rw [M1.out]
  have HB1 := HB.kept hb1
  have hbw1 := hbw.trans (hb1.mono hbw.size)
  obtain ⟨c0, c1, c2, c3⟩ := HB1.four
  clear HB hbw hb1
  go_wp2_with fail
  refine (may03_calls t hs2 _).mono ?_
  rintro e w2 ⟨rfl, hb2⟩
  rw [M2.out]
  have HB2 := HB1.kept hb2
  have hbw2 := hbw1.trans (hb2.mono hbw1.size)
  clear HB1 hbw1 hb2 c0 c1 c2 c3
  obtain ⟨c0, c1, c2, c3⟩ := HB2.four
  cases m1
  · go_wp2
    go_ret
    exact ⟨ret_int (by rw [← HV.out, M1.out]; simp), hbw2⟩
  · cases m2
    · go_wp2
      go_ret
      exact ⟨ret_int (by rw [← HV.out, M2.out]; simp), hbw2⟩
    · by_cases h6 : 6 < tags.length ∨ 4 < flds.length
      · have HX := Lib.hid (show v = 3 by rw [← HV.out, M1.out, M2.out]; simp [h6])
        have h6' : 6 < tags.length ∨ (tags.length ≤ 6 ∧ 4 < flds.length) := by omega
        clear h6
        rcases h6' with h6 | ⟨h6, h7⟩
        all_goals
          go_wp2
          go_ret
          exact ⟨ret_int (by rw [HX.out]), hbw2⟩
      · have h7 : tags.length ≤ 6 := by omega
        have h8 : flds.length ≤ 4 := by omega
        clear h6
        have hV : v = if (flds.all fun x => mayB x.1) = false then 5 else if tags.all tagB = false then 5 else if fitB flds = false ∨ riseB tags = false ∨ riseB (flds.map (·.1)) = false then 1 else 0 := by
          rw [← HV.out, M1.out, M2.out]
          have : ¬ (6 < tags.length ∨ 4 < flds.length) := by omega
          simp [this]
        clear HV
        have HV := Lib.hid hV
        clear hV
        have hbw3 := hbw2.alloc (o := .cells #[] 9) hbw2.size
        have HB3 := HB2.alloc (.cells #[] 9)
        have hown0 := World.ownsRow_made (base := w.heap.size + 1) (e := 9) (size := 1) w2 #[] 0 HB2.lt (by simp [maxLen]) rfl
        obtain ⟨i0, hi, hz0, hz1, hz2⟩ := info_parts info_str
        go_wp2
        clear c0 c1 c2 c3
        go_loopw [5, 6, 7, 8] (fun v5 v6 v7 _ wr => (∃ k : Nat, k ≤ flds.length ∧ v7 = .int .i64 k ∧ (∀ j y, flds[j]? = some y → j < k → (!mayB y.1) = false) ∧ v6 = .bool (fitB (flds.take k)) ∧
            wr.ownsRow (w.heap.size + 1) 9 1 v5 k (((flds.take k).map (·.1)).map vS)) ∧ Below w.heap.size w wr ∧ Blk wr w.heap.size 45 #[vS s, vS t, .slice tA tags.length tc, .slice fA flds.length fc])
          (fun _ _ v7 _ _ => flds.length - (intOf v7).toNat)
        case atStart => exact ⟨⟨0, by omega, rfl, by simp, rfl, hown0⟩, hbw3, HB3⟩
        case round =>
          obtain ⟨⟨k, hk, rfl, hno, rfl, hown⟩, hbr, HBr⟩ := hrel
          have HN := Lib.hid hno
          clear hno hown0 hbw3 HB3
          obtain ⟨c0, c1, c2, c3⟩ := HBr.four
          by_cases hlt : k < flds.length
          · obtain ⟨b, off, rfl, hbl, hc⟩ := hF.same (same_below hbr) (ne_nil_of hlt)
            obtain ⟨x, hx⟩ := at_some hlt
            obtain ⟨d1, d2⟩ := hc k x hx
            have hxs := (hs6 x (List.mem_of_getElem? hx)).1
            have HX := Lib.hid hx
            generalize hm : mayB x.1 = m
            have HM := Lib.hid hm
            clear hc hx hm
            go_wp2_with fail
            refine (may03_calls x.1 hxs _).mono ?_
            rintro e w3 ⟨rfl, hb3⟩
            rw [HM.out]
            have hbr3 := hbr.trans (hb3.mono hbr.size)
            have HBr3 := HBr.kept hb3
            have d1' := (hb3.cell (p := ⟨b, off + k * 2, none⟩) (by have := hbr.size; simp; omega)).trans d1
            have d2o := (hbr.cell (p := ⟨b, off + k * 2 + 1, none⟩) (by simpa using hbl)).symm.trans d2
            have d2' := (hb3.cell (p := ⟨b, off + k * 2 + 1, none⟩) (by have := hbr.size; simp; omega)).trans d2
            clear c0 c1 c2 c3 d1 d2
            obtain ⟨c0, c1, c2, c3⟩ := HBr3.four
            have hown3 := hown.kept (row := none) ⟨hb3.os, hb3.tape, hb3.output, hb3.size, fun i hi _ => hb3.block i hi⟩ (by rcases hq : u5.ownBlock with _ | g <;> simp)
            cases m
            · go_wp2
              go_ret
              exact ⟨ret_int (by rw [HV.out, if_pos]; rw [List.all_eq_not_any_not, any_hit (p := fun y : Fld => !mayB y.1) HX.out (by simp [HM.out])]; rfl), hbr3⟩
            · have hnb : some w.heap.size ≠ u5.ownBlock := fun e => by have := (hown3.lt _ e.symm).1; omega
              have hnb2 : ∀ g, u5.ownBlock = some g → w.heap.size ≤ g := fun g e => by have := (hown3.lt _ e).1; omega
              have HT := Lib.hid (take_map HX.out)
              have HF := Lib.hid (fit_succ HX.out)
              generalize hfk : fitB (flds.take k) = f
              have hfit : f = false ∨ (f = true ∧ x.2 < -1099511627776) ∨ (f = true ∧ -1099511627776 ≤ x.2 ∧ 1099511627776 < x.2) ∨ (f = true ∧ -1099511627776 ≤ x.2 ∧ x.2 ≤ 1099511627776) := by
                cases f
                · simp
                · simp; omega
              have HFK := Lib.hid hfk
              clear hfk
              rcases hfit with rfl | ⟨rfl, q1⟩ | ⟨rfl, q1, q2⟩ | ⟨rfl, q1, q2⟩
              all_goals
                go_wp2_with (at_builtin; refine wpList_append_own _ rfl _ _ 42 rfl (w.heap.size + 1) 9 i0 (.string .empty) 1 16 Tryz.underlying42 hi hz0 hz1 hz2 rfl (by decide) _ _ _ rfl (hown3.alloc _) ⟨w3.heap.size, 0, none⟩ 1 1 [vS x.1] rfl rfl (cell_one_new _ _ _) (by simp [Value.oneCell']) (by unfold maxLen; omega) (by omega) (by have := HBr3.lt; simp; omega) ?_; intro v' w4 hown4 hgrow4 hnil; clear hnil; have hbr4 := (hbr3.alloc hbr3.size _).grown hgrow4 (by have := hbr3.size; simp; omega) hnb2; have HB4 := (HBr3.alloc _).grown hgrow4 hnb; have d2'' := (hbr4.cell (p := ⟨b, off + k * 2 + 1, none⟩) (by simpa using hbl)).trans d2o; clear c0 c1 c2 c3; obtain ⟨c0, c1, c2, c3⟩ := HB4.four)
                go_roundw
                case rel => exact ⟨⟨k + 1, by omega, by go_num, no_succ (p := fun y : Fld => !mayB y.1) HN.out HX.out (by simp [HM.out]), congrArg Value.bool (by rw [HF.out, HFK.out]; simp; try omega), by rw [← HT.out]; exact hown4⟩, hbr4, HB4⟩
                case measure => simp [intOf]; omega
          · obtain rfl : k = flds.length := by omega
            have HV2 := Lib.hid (show v = if tags.all tagB = false then 5 else if fitB flds = false ∨ riseB tags = false ∨ riseB (flds.map (·.1)) = false then 1 else 0 by
              rw [HV.out, if_neg]
              rw [List.all_eq_not_any_not, any_miss (p := fun y : Fld => !mayB y.1) HN.out]; simp)
            clear HV HN hF hs6
            rw [List.take_length] at hown
            have hT1 := (hT.same (same_below hbr)).more hbr.size
            generalize hg1 : tags.all tagB = g1
            generalize hg2 : riseB tags = g2
            generalize hg3 : riseB (flds.map (·.1)) = g3
            generalize hg4 : fitB flds = g4
            rw [hg1, hg2, hg3, hg4] at HV2
            have G1 := Lib.hid hg1
            have G2 := Lib.hid hg2
            have G3 := Lib.hid hg3
            clear hg1 hg2 hg3
            rw [List.take_length, hg4]
            clear hg4
            go_wp2_with fail
            refine (tags04_calls _ tA tc tags hT1 hs3 hs4).mono ?_
            rintro e w3 ⟨rfl, hb3⟩
            rw [G1.out]
            have hbr3 := hbr.trans (hb3.mono hbr.size)
            have HBr3 := HBr.kept hb3
            have hown3 := hown.kept (row := none) ⟨hb3.os, hb3.tape, hb3.output, hb3.size, fun i hi _ => hb3.block i hi⟩ (by rcases hq : u5.ownBlock with _ | g <;> simp)
            have hT3 := (hT.same (same_below hbr3)).more hbr3.size
            clear c0 c1 c2 c3 hT1 hown hbr HBr
            obtain ⟨c0, c1, c2, c3⟩ := HBr3.four
            cases g1
            · go_wp2
              go_ret
              exact ⟨ret_int (by rw [HV2.out]; rfl), hbr3⟩
            · go_wp2_with fail
              refine (rise04_calls _ tA tc tags hT3 hs3).mono ?_
              rintro e w4 ⟨rfl, hb4⟩
              rw [G2.out]
              have hbr4 := hbr3.trans (hb4.mono hbr3.size)
              have hown4 := hown3.kept (row := none) ⟨hb4.os, hb4.tape, hb4.output, hb4.size, fun i hi _ => hb4.block i hi⟩ (by rcases hq : u5.ownBlock with _ | g <;> simp)
              have HB4 := HBr3.kept hb4
              clear c0 c1 c2 c3 hT3 hown3 HBr3
              obtain ⟨c0, c1, c2, c3⟩ := HB4.four
              obtain ⟨A5, cap5, rfl⟩ : ∃ A c, u5 = .slice A flds.length c := by
                rcases hown4.2 with ⟨rfl, h0⟩ | ⟨g, cap, _, rfl, _⟩
                · exact ⟨none, 0, by rw [h0]⟩
                · exact ⟨_, _, rfl⟩
              have hS := Strs.of_own hown4
              go_wp2_with fail
              refine (rise04_n _ A5 _ cap5 (flds.map (·.1)) (List.length_map _) hS (by omega)).mono ?_
              rintro e w5 ⟨rfl, hb5⟩
              rw [G3.out]
              have hbr5 := hbr4.trans (hb5.mono hbr4.size)
              cases g2 <;> cases g3 <;> cases g4
              all_goals
                go_wp2
                go_ret
                exact ⟨ret_int (by rw [HV2.out]; simp), hbr5⟩
end Go.Proofs.YtdonhmdeijidkaaGreat
