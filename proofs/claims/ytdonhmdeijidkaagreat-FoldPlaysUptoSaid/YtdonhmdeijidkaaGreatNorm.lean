/-
  Walks: query.Norm.
-/
import Derived.Test.YtdonhmdeijidkaaGreatNormA
namespace Go.Proofs.YtdonhmdeijidkaaGreat
open Go.RowKit
attribute [local go_sem ↓] Go.wp_at_zero Go.wp_at_succ

set_option maxRecDepth 100000 in
set_option maxHeartbeats 4000000 in
theorem norm_query_calls (w : World) (A : Option Addr) (c : Nat) (q : List Cl) (h : Cls w w.heap.size A q) (hs : SmallQ q) :
    Calls Tryz.prog 45 #[.agg #[.slice A q.length c]] w fun e w' => (∃ A c, e = .returned (.agg #[.slice A q.length c]) ∧ Cls w' w'.heap.size A (normQ q)) ∧ Below w.heap.size w w' := by
  obtain ⟨i0, hi, hz0, hz1, hz2⟩ := info_parts info_cl
  have hq := hs.1
  go_enter Tryz.func45, Tryz.ntmps45
  go_wp2_with fail
  go_loopw [5, 9] (fun _ i wr => (∃ k : Nat, k ≤ q.length ∧ i = .int .i64 k ∧ ∃ v L, Blk wr (w.heap.size + 1 + 1) 24 #[v] ∧ OwnCls wr (w.heap.size + 3) v L ∧ L.map (·.2) = (q.take k).map normC) ∧ Below w.heap.size w wr ∧ Blk wr (w.heap.size + 1) 24 #[.slice none 0 0]) (fun _ i _ => q.length - (intOf i).toNat)
  case atStart =>
    refine ⟨⟨0, by omega, rfl, _, [], ?_, ⟨World.ownsRow_nil _ _ _ _, by simp⟩, rfl⟩, ?_, ?_⟩
    · have := Blk.new ((w.alloc (.cells #[.slice A q.length c] 24)).alloc (.cells #[.slice none 0 0] 24)) 24 #[.slice none 0 0]
      simpa using this
    · exact (((Below.refl w.heap.size w).alloc (Nat.le_refl _) _).alloc (by simp) _).alloc (by simp; omega) _
    · have := (Blk.new (w.alloc (.cells #[.slice A q.length c] 24)) 24 #[.slice none 0 0]).alloc (.cells #[.slice none 0 0] 24)
      simpa using this
  case round =>
    obtain ⟨⟨k, hk, rfl, v, L, HO, ⟨hown, hL⟩, hLm⟩, hbw, HR⟩ := hrel
    by_cases hlt : k < q.length
    · obtain ⟨b, off, rfl, hb, hc⟩ := h (ne_nil_of hlt)
      obtain ⟨x, hx⟩ := at_some hlt
      obtain ⟨tA, tc, yA, yc, h1, h2, h3, h4⟩ := hc k x hx
      have h1' := (hbw.cell (p := ⟨b, off + k * 2, none⟩) hb).trans h1
      have h2' := (hbw.cell (p := ⟨b, off + k * 2 + 1, none⟩) hb).trans h2
      have hxs := hs.2 x (List.mem_of_getElem? hx)
      have HX := Lib.hid hx
      obtain ⟨tags, types⟩ := x
      simp only at h1' h2' h3 h4
      have hx1 : tags.length ≤ 1048576 := hxs.1.1
      have hx2 : types.length ≤ 1048576 := hxs.2.1
      have HOc := HO.one
      have HL := Lib.hid hL
      have HLm := Lib.hid hLm
      clear hc h hx h1 h2 hL hLm hs
      have hwr := HO.lt
      have hW1 : Below wr.heap.size wr (wr.alloc (.cells #[.slice tA tags.length tc, .slice yA types.length yc] 115)).drew := ((Below.refl wr.heap.size wr).alloc (Nat.le_refl _) _).drew
      have hbw1 := hbw.trans (hW1.mono hbw.size)
      have HC1 : Blk (wr.alloc (.cells #[.slice tA tags.length tc, .slice yA types.length yc] 115)).drew wr.heap.size 115 #[.slice tA tags.length tc, .slice yA types.length yc] := (Blk.new wr _ _).drew
      have HO1 := HO.kept hW1
      have k1 := HO1.one
      obtain ⟨k2, k3⟩ := HC1.two
      have hT1 : Strs (wr.alloc (.cells #[.slice tA tags.length tc, .slice yA types.length yc] 115)).drew (wr.alloc (.cells #[.slice tA tags.length tc, .slice yA types.length yc] 115)).drew.heap.size tA tags := (h3.same (same_below hbw1)).more hbw1.size
      have hvb : ∀ g, v.ownBlock = some g → w.heap.size + 3 ≤ g ∧ g < wr.heap.size := fun g e => hown.lt g e
      have hnb1 : some (w.heap.size + 1 + 1) ≠ v.ownBlock := fun e => by have := (hvb _ e.symm).1; omega
      have hnb2 : some wr.heap.size ≠ v.ownBlock := fun e => by have := (hvb _ e.symm).2; omega
      have hnb3 : some (w.heap.size + 1) ≠ v.ownBlock := fun e => by have := (hvb _ e.symm).1; omega
      have hvS : ∀ s, v ≠ vS s := fun s e => by obtain ⟨_, _, e2⟩ := own_slice hown; rw [e2] at e; cases e
      have hLk : L.length = k := by have := congrArg List.length HLm.out; simp at this; omega
      have hLb : L.length + 1 ≤ 1048577 := by omega
      have HLk := Lib.hid hLk
      clear hLk
      go_wp2_with fail
      go_region_law
        (first
          | (go_simp; go_at_call 85; (with_reducible refine (sorted_query_calls _ tA tc tags hT1 hx1).mono ?_); rintro e w2 ⟨⟨A2, c2, rfl, hs2, hf2⟩, hb2⟩; have hbw2 := hbw1.trans (hb2.mono hbw1.size); have HC2 := HC1.kept hb2; have HO2 := HO1.kept hb2; have m1 := HO2.one; obtain ⟨m2, m3⟩ := HC2.two; have hT2 := (h4.same (same_below hbw2)).more hbw2.size)
          | (go_simp; go_at_call 85; (with_reducible refine (sorted_query_calls w2 yA yc types hT2 hx2).mono ?_); rintro e w3 ⟨⟨A3, c3, rfl, hs3, hf3⟩, hb3⟩; have hbw3 := hbw2.trans (hb3.mono hbw2.size); have HC3 := HC2.kept hb3; have HO3 := HO2.kept hb3; have n1 := HO3.one; obtain ⟨n2, n3⟩ := HC3.two; have hown3 := own_below (own_below (hown.alloc (.cells #[.slice tA tags.length tc, .slice yA types.length yc] 115)).drew hb2) hb3; have HO4 := HO3.alloc (.cells #[.slice A2 (sortS tags).length c2, .slice A3 (sortS types).length c3] 115); have HC4 := HC3.alloc (.cells #[.slice A2 (sortS tags).length c2, .slice A3 (sortS types).length c3] 115); have o1 := HO4.one; obtain ⟨o2, o3⟩ := HC4.two)
          | (refine step_append_lies _ (by rfl) _ _ _ (by rfl) (w.heap.size + 3) 115 i0 _ 2 48 Tryz.underlying22 hi hz0 hz1 hz2 rfl (by omega) v L.length (L.flatMap clCells) (by rfl) (hown3.alloc _) ⟨w3.heap.size, 0, none⟩ 1 1 [.slice A2 (sortS tags).length c2, .slice A3 (sortS types).length c3] (by rfl) (by rfl) (World.news_of_block (cs := #[.slice A2 (sortS tags).length c2, .slice A3 (sortS types).length c3]) (t := 115) (fr := (0, 0)) (heap_alloc_new w3 _)) (by simp [Value.oneCell']) (by omega) (by unfold maxLen; omega) (by omega) (by have := HO3.lt; simp; omega) (w3.heap.size + 1) (by simp) ?_; intro gg cap w5 hown5 hgrow5 hat hlt5; have HO5 := HO4.grown hgrow5 hnb1; have HC5 := HC4.grown hgrow5 hnb2; have p1 := HO5.one; obtain ⟨p2, p3⟩ := HC5.two; have p4 := HO5.frozen 0))
      all_goals
        have hst := norm_step (x := ⟨tags, types⟩) HO hvS hW1 hb2 hb3 hgrow5 hvb (by omega) hown5 hat HL.out hs2 hf2 hs3 hf3
        have HO6 := HO5.set_ 0 (.slice (some ⟨gg, 0, none⟩) (L.length + 1) cap)
        have hbw5 := ((hbw3.alloc (o := .cells #[.slice A2 (sortS tags).length c2, .slice A3 (sortS types).length c3] 115) hbw3.size).grown hgrow5 (by have := hbw3.size; simp; omega) (fun g e => by have := (hvb g e).1; omega)).setCell (p := ⟨w.heap.size + 1 + 1, 0, none⟩) (by simp; omega) (.slice (some ⟨gg, 0, none⟩) (L.length + 1) cap)
        have HR5 := ((((((HR.kept hW1).kept hb2).kept hb3).alloc (.cells #[.slice A2 (sortS tags).length c2, .slice A3 (sortS types).length c3] 115)).grown hgrow5 hnb3).far (p := ⟨w.heap.size + 1 + 1, 0, none⟩) (by simp) (.slice (some ⟨gg, 0, none⟩) (L.length + 1) cap))
        have HT := Lib.hid (show (L ++ [(((A2, c2), (A3, c3)), normC ⟨tags, types⟩)]).map (·.2) = (q.take (k + 1)).map normC by rw [List.map_append, HLm.out, List.take_add_one, HX.out]; simp)
        go_wp2
        go_roundw
        case rel => exact ⟨⟨k + 1, by omega, by go_num, _, _, HO6, hst, HT.out⟩, hbw5, HR5⟩
        case measure => simp [intOf]; omega
    · obtain rfl : k = q.length := by omega
      obtain ⟨A2, c2, rfl⟩ := own_slice hown
      have hown' : OwnCls wr (w.heap.size + 3) (.slice A2 L.length c2) L := ⟨hown, hL⟩
      have HC := Lib.hid (hown'.setBox HR (fun s => by simp) (by omega) (.slice A2 L.length c2)).cls
      have HLm := Lib.hid hLm
      have hLq : L.length = q.length := by have := congrArg List.length HLm.out; simpa using this
      have HLq := Lib.hid hLq
      have k1 := HO.one
      have k2 := HR.one
      have k3 := HR.frozen 0
      clear hown' hL hLm hLq h hs hown
      go_wp2_with fail
      have HR2 := HR.set_ 0 (.slice A2 L.length c2)
      have k4 := HR2.one
      refine bodyPost_ret (v := .agg #[.slice A2 L.length c2]) (by simp [results, Tryz.results45, go_sem, k4]) rfl ?_
      refine ⟨⟨A2, c2, by rw [HLq.out], ?_⟩, hbw.setCell (p := ⟨w.heap.size + 1, 0, none⟩) (by simp) _⟩
      have e : L.map (·.2) = normQ q := by rw [HLm.out, List.take_length]; rfl
      rw [← e]
      exact HC.out
end Go.Proofs.YtdonhmdeijidkaaGreat
