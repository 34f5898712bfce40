/-
  Walks: (*State).Step.
-/
import Derived.Test.YtdonhmdeijidkaaGreatFoldD
import Derived.Deep.DrawnRows
namespace Go.Proofs.YtdonhmdeijidkaaGreat
open Go.RowKit Go.Maps
attribute [local go_sem ↓] Go.wp_at_zero Go.wp_at_succ

theorem method_sum (F : Nat) (f : Str) (w : World) : (method (F + 1) 148 (.agg #[vS f]) "registrar/fold.step").run Tryz.prog w = .ok (190, .agg #[vS f]) w := by kernel_rfl
theorem method_latest (F : Nat) (f : Str) (w : World) : (method (F + 1) 149 (.agg #[vS f]) "registrar/fold.step").run Tryz.prog w = .ok (194, .agg #[vS f]) w := by kernel_rfl
theorem method_members (F : Nat) (w : World) : (method (F + 1) 151 (.agg #[]) "registrar/fold.step").run Tryz.prog w = .ok (195, .agg #[]) w := by kernel_rfl
theorem method_count (F : Nat) (w : World) : (method (F + 1) 152 (.agg #[]) "registrar/fold.step").run Tryz.prog w = .ok (196, .agg #[]) w := by kernel_rfl
theorem undrew {w w' : World} (h : Below w.drew.heap.size w.drew w') : Below w.heap.size w w' := (Below.refl w.heap.size w).drew.trans h

set_option maxRecDepth 100000 in
set_option maxHeartbeats 1000000 in
theorem step_sum (w : World) (sb mb : Nat) (f : Str) (A : Option Addr) (c : Nat) (q : List Cl) (E E' : Ents) (r : Int) (e0 : Ev) (tA fA : Option Addr) (tc fc : Nat) (p v : Int)
    (hS : Blk w sb 100 #[.iface 148 (.agg #[vS f]), .slice A q.length c, .map (some mb)]) (hq : Cls w w.heap.size A q) (hs : SmallQ q) (hM : MapIs w mb E) (hT : Strs w w.heap.size tA e0.tags) (hE : e0.Good)
    (hk : ∀ w1, Below w.heap.size w w1 → Calls Tryz.prog 190 #[.agg #[vS f], .pointer (some ⟨sb, 0, none⟩), .agg (cEv tA tc fA fc e0)] w1 fun e w' => e = .returned (.int .i64 r) ∧ MapIs w' mb E' ∧ w1.grownBy w' (some mb)) :
    Calls Tryz.prog 18 #[.pointer (some ⟨sb, 0, none⟩), .agg (#[.int .i64 p, .int .i64 v] ++ cEv tA tc fA fc e0)] w fun e w' => e = .returned (.int .i64 (if matchB q e0 then r else 0)) ∧ MapIs w' mb (if matchB q e0 then E' else E) ∧ w.grownBy w' (some mb) := by
  have hme := fun F w => method_sum F f w
  obtain ⟨w1, hw1⟩ : ∃ y, y = w.alloc (.cells #[.int .i64 p, .int .i64 v, vS e0.stream, vS e0.typ, .slice tA e0.tags.length tc, .slice fA e0.flds.length fc] 47) := ⟨_, rfl⟩
  have hb : Below w.heap.size w w1 := hw1 ▸ (Below.refl w.heap.size w).alloc (Nat.le_refl _) _
  have hBk : Blk w1 w.heap.size 47 #[.int .i64 p, .int .i64 v, vS e0.stream, vS e0.typ, .slice tA e0.tags.length tc, .slice fA e0.flds.length fc] := hw1 ▸ Blk.new _ _ _
  have hS1 := hS.kept hb
  have hmt := match_calls w1.drew A c q e0 tA fA tc fc ((hq.same (same_below hb)).more hb.size) hs ((hT.same (same_below hb)).more hb.size) (by have := hE.2.1; omega)
  have HK := Lib.hid hk
  have HM := Lib.hid hM
  have HB := Lib.hid hb
  have HBk := Lib.hid hBk
  have HS := Lib.hid hS1
  have HMT := Lib.hid hmt
  obtain ⟨c0, c1, c2⟩ := hS1.three
  have d2 : w1.cell? ⟨w.heap.size, 2, none⟩ = some (vS e0.stream) := hBk.cell 2
  have d3 : w1.cell? ⟨w.heap.size, 3, none⟩ = some (vS e0.typ) := hBk.cell 3
  have d4 : w1.cell? ⟨w.heap.size, 4, none⟩ = some (.slice tA e0.tags.length tc) := hBk.cell 4
  have d5 : w1.cell? ⟨w.heap.size, 5, none⟩ = some (.slice fA e0.flds.length fc) := hBk.cell 5
  clear hS hq hs hT hE hk hM hS1 hmt hb hBk
  generalize hmq : matchB q e0 = bb at HMT ⊢
  clear hmq
  cases bb
  all_goals
    simp only [Bool.false_eq_true, if_false, if_true]
    go_enter Tryz.func18, Tryz.ntmps18
    go_wp2_with fail
    rw [← hw1]
    clear hw1
  · go_region_law (first | (go_simp; go_at_call 52; (with_reducible refine HMT.out.mono ?_); rintro e w2 ⟨rfl, hb2⟩))
    all_goals
      have hB2 := Lib.hid (HB.out.trans ((undrew hb2).mono HB.out.size))
      go_wp2
      go_ret
      exact ⟨rfl, HM.out.below hB2.out, below_turn hB2.out⟩
  · go_region_law (first | (go_simp; go_at_call 52; (with_reducible refine HMT.out.mono ?_); rintro e w2 ⟨rfl, hb2⟩))
    all_goals
      have hB2 := Lib.hid (HB.out.trans ((undrew hb2).mono HB.out.size))
      have hS2 := HS.out.kept (undrew hb2)
      have hBk2 := HBk.out.kept (undrew hb2)
      have k0 := hS2.three.1
      have d2 : w2.cell? ⟨w.heap.size, 2, none⟩ = some (vS e0.stream) := hBk2.cell 2
      have d3 : w2.cell? ⟨w.heap.size, 3, none⟩ = some (vS e0.typ) := hBk2.cell 3
      have d4 : w2.cell? ⟨w.heap.size, 4, none⟩ = some (.slice tA e0.tags.length tc) := hBk2.cell 4
      have d5 : w2.cell? ⟨w.heap.size, 5, none⟩ = some (.slice fA e0.flds.length fc) := hBk2.cell 5
      have hK2 := Lib.hid (HK.out w2.drew hB2.out.drew)
      clear hS2 hBk2 hb2
      go_wp2_with fail
      go_region_law (first | (go_simp; go_at_call 190; (with_reducible refine hK2.out.mono ?_); rintro e w4 ⟨rfl, h3, h4⟩))
      all_goals
        go_wp2
        go_ret
        exact ⟨rfl, h3, (below_turn hB2.out.drew).trans h4⟩

set_option maxRecDepth 100000 in
set_option maxHeartbeats 1000000 in
theorem step_latest (w : World) (sb mb : Nat) (f : Str) (A : Option Addr) (c : Nat) (q : List Cl) (E E' : Ents) (r : Int) (e0 : Ev) (tA fA : Option Addr) (tc fc : Nat) (p v : Int)
    (hS : Blk w sb 100 #[.iface 149 (.agg #[vS f]), .slice A q.length c, .map (some mb)]) (hq : Cls w w.heap.size A q) (hs : SmallQ q) (hM : MapIs w mb E) (hT : Strs w w.heap.size tA e0.tags) (hE : e0.Good)
    (hk : ∀ w1, Below w.heap.size w w1 → Calls Tryz.prog 194 #[.agg #[vS f], .pointer (some ⟨sb, 0, none⟩), .agg (cEv tA tc fA fc e0)] w1 fun e w' => e = .returned (.int .i64 r) ∧ MapIs w' mb E' ∧ w1.grownBy w' (some mb)) :
    Calls Tryz.prog 18 #[.pointer (some ⟨sb, 0, none⟩), .agg (#[.int .i64 p, .int .i64 v] ++ cEv tA tc fA fc e0)] w fun e w' => e = .returned (.int .i64 (if matchB q e0 then r else 0)) ∧ MapIs w' mb (if matchB q e0 then E' else E) ∧ w.grownBy w' (some mb) := by
  have hme := fun F w => method_latest F f w
  obtain ⟨w1, hw1⟩ : ∃ y, y = w.alloc (.cells #[.int .i64 p, .int .i64 v, vS e0.stream, vS e0.typ, .slice tA e0.tags.length tc, .slice fA e0.flds.length fc] 47) := ⟨_, rfl⟩
  have hb : Below w.heap.size w w1 := hw1 ▸ (Below.refl w.heap.size w).alloc (Nat.le_refl _) _
  have hBk : Blk w1 w.heap.size 47 #[.int .i64 p, .int .i64 v, vS e0.stream, vS e0.typ, .slice tA e0.tags.length tc, .slice fA e0.flds.length fc] := hw1 ▸ Blk.new _ _ _
  have hS1 := hS.kept hb
  have hmt := match_calls w1.drew A c q e0 tA fA tc fc ((hq.same (same_below hb)).more hb.size) hs ((hT.same (same_below hb)).more hb.size) (by have := hE.2.1; omega)
  have HK := Lib.hid hk
  have HM := Lib.hid hM
  have HB := Lib.hid hb
  have HBk := Lib.hid hBk
  have HS := Lib.hid hS1
  have HMT := Lib.hid hmt
  obtain ⟨c0, c1, c2⟩ := hS1.three
  have d2 : w1.cell? ⟨w.heap.size, 2, none⟩ = some (vS e0.stream) := hBk.cell 2
  have d3 : w1.cell? ⟨w.heap.size, 3, none⟩ = some (vS e0.typ) := hBk.cell 3
  have d4 : w1.cell? ⟨w.heap.size, 4, none⟩ = some (.slice tA e0.tags.length tc) := hBk.cell 4
  have d5 : w1.cell? ⟨w.heap.size, 5, none⟩ = some (.slice fA e0.flds.length fc) := hBk.cell 5
  clear hS hq hs hT hE hk hM hS1 hmt hb hBk
  generalize hmq : matchB q e0 = bb at HMT ⊢
  clear hmq
  cases bb
  all_goals
    simp only [Bool.false_eq_true, if_false, if_true]
    go_enter Tryz.func18, Tryz.ntmps18
    go_wp2_with fail
    rw [← hw1]
    clear hw1
  · go_region_law (first | (go_simp; go_at_call 52; (with_reducible refine HMT.out.mono ?_); rintro e w2 ⟨rfl, hb2⟩))
    all_goals
      have hB2 := Lib.hid (HB.out.trans ((undrew hb2).mono HB.out.size))
      go_wp2
      go_ret
      exact ⟨rfl, HM.out.below hB2.out, below_turn hB2.out⟩
  · go_region_law (first | (go_simp; go_at_call 52; (with_reducible refine HMT.out.mono ?_); rintro e w2 ⟨rfl, hb2⟩))
    all_goals
      have hB2 := Lib.hid (HB.out.trans ((undrew hb2).mono HB.out.size))
      have hS2 := HS.out.kept (undrew hb2)
      have hBk2 := HBk.out.kept (undrew hb2)
      have k0 := hS2.three.1
      have d2 : w2.cell? ⟨w.heap.size, 2, none⟩ = some (vS e0.stream) := hBk2.cell 2
      have d3 : w2.cell? ⟨w.heap.size, 3, none⟩ = some (vS e0.typ) := hBk2.cell 3
      have d4 : w2.cell? ⟨w.heap.size, 4, none⟩ = some (.slice tA e0.tags.length tc) := hBk2.cell 4
      have d5 : w2.cell? ⟨w.heap.size, 5, none⟩ = some (.slice fA e0.flds.length fc) := hBk2.cell 5
      have hK2 := Lib.hid (HK.out w2.drew hB2.out.drew)
      clear hS2 hBk2 hb2
      go_wp2_with fail
      go_region_law (first | (go_simp; go_at_call 194; (with_reducible refine hK2.out.mono ?_); rintro e w4 ⟨rfl, h3, h4⟩))
      all_goals
        go_wp2
        go_ret
        exact ⟨rfl, h3, (below_turn hB2.out.drew).trans h4⟩

set_option maxRecDepth 100000 in
set_option maxHeartbeats 1000000 in
theorem step_members (w : World) (sb mb : Nat) (A : Option Addr) (c : Nat) (q : List Cl) (E E' : Ents) (r : Int) (e0 : Ev) (tA fA : Option Addr) (tc fc : Nat) (p v : Int)
    (hS : Blk w sb 100 #[.iface 151 (.agg #[]), .slice A q.length c, .map (some mb)]) (hq : Cls w w.heap.size A q) (hs : SmallQ q) (hM : MapIs w mb E) (hT : Strs w w.heap.size tA e0.tags) (hE : e0.Good)
    (hk : ∀ w1, Below w.heap.size w w1 → Calls Tryz.prog 195 #[.agg #[], .pointer (some ⟨sb, 0, none⟩), .agg (cEv tA tc fA fc e0)] w1 fun e w' => e = .returned (.int .i64 r) ∧ MapIs w' mb E' ∧ w1.grownBy w' (some mb)) :
    Calls Tryz.prog 18 #[.pointer (some ⟨sb, 0, none⟩), .agg (#[.int .i64 p, .int .i64 v] ++ cEv tA tc fA fc e0)] w fun e w' => e = .returned (.int .i64 (if matchB q e0 then r else 0)) ∧ MapIs w' mb (if matchB q e0 then E' else E) ∧ w.grownBy w' (some mb) := by
  have hme := fun F w => method_members F w
  obtain ⟨w1, hw1⟩ : ∃ y, y = w.alloc (.cells #[.int .i64 p, .int .i64 v, vS e0.stream, vS e0.typ, .slice tA e0.tags.length tc, .slice fA e0.flds.length fc] 47) := ⟨_, rfl⟩
  have hb : Below w.heap.size w w1 := hw1 ▸ (Below.refl w.heap.size w).alloc (Nat.le_refl _) _
  have hBk : Blk w1 w.heap.size 47 #[.int .i64 p, .int .i64 v, vS e0.stream, vS e0.typ, .slice tA e0.tags.length tc, .slice fA e0.flds.length fc] := hw1 ▸ Blk.new _ _ _
  have hS1 := hS.kept hb
  have hmt := match_calls w1.drew A c q e0 tA fA tc fc ((hq.same (same_below hb)).more hb.size) hs ((hT.same (same_below hb)).more hb.size) (by have := hE.2.1; omega)
  have HK := Lib.hid hk
  have HM := Lib.hid hM
  have HB := Lib.hid hb
  have HBk := Lib.hid hBk
  have HS := Lib.hid hS1
  have HMT := Lib.hid hmt
  obtain ⟨c0, c1, c2⟩ := hS1.three
  have d2 : w1.cell? ⟨w.heap.size, 2, none⟩ = some (vS e0.stream) := hBk.cell 2
  have d3 : w1.cell? ⟨w.heap.size, 3, none⟩ = some (vS e0.typ) := hBk.cell 3
  have d4 : w1.cell? ⟨w.heap.size, 4, none⟩ = some (.slice tA e0.tags.length tc) := hBk.cell 4
  have d5 : w1.cell? ⟨w.heap.size, 5, none⟩ = some (.slice fA e0.flds.length fc) := hBk.cell 5
  clear hS hq hs hT hE hk hM hS1 hmt hb hBk
  generalize hmq : matchB q e0 = bb at HMT ⊢
  clear hmq
  cases bb
  all_goals
    simp only [Bool.false_eq_true, if_false, if_true]
    go_enter Tryz.func18, Tryz.ntmps18
    go_wp2_with fail
    rw [← hw1]
    clear hw1
  · go_region_law (first | (go_simp; go_at_call 52; (with_reducible refine HMT.out.mono ?_); rintro e w2 ⟨rfl, hb2⟩))
    all_goals
      have hB2 := Lib.hid (HB.out.trans ((undrew hb2).mono HB.out.size))
      go_wp2
      go_ret
      exact ⟨rfl, HM.out.below hB2.out, below_turn hB2.out⟩
  · go_region_law (first | (go_simp; go_at_call 52; (with_reducible refine HMT.out.mono ?_); rintro e w2 ⟨rfl, hb2⟩))
    all_goals
      have hB2 := Lib.hid (HB.out.trans ((undrew hb2).mono HB.out.size))
      have hS2 := HS.out.kept (undrew hb2)
      have hBk2 := HBk.out.kept (undrew hb2)
      have k0 := hS2.three.1
      have d2 : w2.cell? ⟨w.heap.size, 2, none⟩ = some (vS e0.stream) := hBk2.cell 2
      have d3 : w2.cell? ⟨w.heap.size, 3, none⟩ = some (vS e0.typ) := hBk2.cell 3
      have d4 : w2.cell? ⟨w.heap.size, 4, none⟩ = some (.slice tA e0.tags.length tc) := hBk2.cell 4
      have d5 : w2.cell? ⟨w.heap.size, 5, none⟩ = some (.slice fA e0.flds.length fc) := hBk2.cell 5
      have hK2 := Lib.hid (HK.out w2.drew hB2.out.drew)
      clear hS2 hBk2 hb2
      go_wp2_with fail
      go_region_law (first | (go_simp; go_at_call 195; (with_reducible refine hK2.out.mono ?_); rintro e w4 ⟨rfl, h3, h4⟩))
      all_goals
        go_wp2
        go_ret
        exact ⟨rfl, h3, (below_turn hB2.out.drew).trans h4⟩

set_option maxRecDepth 100000 in
set_option maxHeartbeats 1000000 in
theorem step_count (w : World) (sb mb : Nat) (A : Option Addr) (c : Nat) (q : List Cl) (E E' : Ents) (r : Int) (e0 : Ev) (tA fA : Option Addr) (tc fc : Nat) (p v : Int)
    (hS : Blk w sb 100 #[.iface 152 (.agg #[]), .slice A q.length c, .map (some mb)]) (hq : Cls w w.heap.size A q) (hs : SmallQ q) (hM : MapIs w mb E) (hT : Strs w w.heap.size tA e0.tags) (hE : e0.Good)
    (hk : ∀ w1, Below w.heap.size w w1 → Calls Tryz.prog 196 #[.agg #[], .pointer (some ⟨sb, 0, none⟩), .agg (cEv tA tc fA fc e0)] w1 fun e w' => e = .returned (.int .i64 r) ∧ MapIs w' mb E' ∧ w1.grownBy w' (some mb)) :
    Calls Tryz.prog 18 #[.pointer (some ⟨sb, 0, none⟩), .agg (#[.int .i64 p, .int .i64 v] ++ cEv tA tc fA fc e0)] w fun e w' => e = .returned (.int .i64 (if matchB q e0 then r else 0)) ∧ MapIs w' mb (if matchB q e0 then E' else E) ∧ w.grownBy w' (some mb) := by
  have hme := fun F w => method_count F w
  obtain ⟨w1, hw1⟩ : ∃ y, y = w.alloc (.cells #[.int .i64 p, .int .i64 v, vS e0.stream, vS e0.typ, .slice tA e0.tags.length tc, .slice fA e0.flds.length fc] 47) := ⟨_, rfl⟩
  have hb : Below w.heap.size w w1 := hw1 ▸ (Below.refl w.heap.size w).alloc (Nat.le_refl _) _
  have hBk : Blk w1 w.heap.size 47 #[.int .i64 p, .int .i64 v, vS e0.stream, vS e0.typ, .slice tA e0.tags.length tc, .slice fA e0.flds.length fc] := hw1 ▸ Blk.new _ _ _
  have hS1 := hS.kept hb
  have hmt := match_calls w1.drew A c q e0 tA fA tc fc ((hq.same (same_below hb)).more hb.size) hs ((hT.same (same_below hb)).more hb.size) (by have := hE.2.1; omega)
  have HK := Lib.hid hk
  have HM := Lib.hid hM
  have HB := Lib.hid hb
  have HBk := Lib.hid hBk
  have HS := Lib.hid hS1
  have HMT := Lib.hid hmt
  obtain ⟨c0, c1, c2⟩ := hS1.three
  have d2 : w1.cell? ⟨w.heap.size, 2, none⟩ = some (vS e0.stream) := hBk.cell 2
  have d3 : w1.cell? ⟨w.heap.size, 3, none⟩ = some (vS e0.typ) := hBk.cell 3
  have d4 : w1.cell? ⟨w.heap.size, 4, none⟩ = some (.slice tA e0.tags.length tc) := hBk.cell 4
  have d5 : w1.cell? ⟨w.heap.size, 5, none⟩ = some (.slice fA e0.flds.length fc) := hBk.cell 5
  clear hS hq hs hT hE hk hM hS1 hmt hb hBk
  generalize hmq : matchB q e0 = bb at HMT ⊢
  clear hmq
  cases bb
  all_goals
    simp only [Bool.false_eq_true, if_false, if_true]
    go_enter Tryz.func18, Tryz.ntmps18
    go_wp2_with fail
    rw [← hw1]
    clear hw1
  · go_region_law (first | (go_simp; go_at_call 52; (with_reducible refine HMT.out.mono ?_); rintro e w2 ⟨rfl, hb2⟩))
    all_goals
      have hB2 := Lib.hid (HB.out.trans ((undrew hb2).mono HB.out.size))
      go_wp2
      go_ret
      exact ⟨rfl, HM.out.below hB2.out, below_turn hB2.out⟩
  · go_region_law (first | (go_simp; go_at_call 52; (with_reducible refine HMT.out.mono ?_); rintro e w2 ⟨rfl, hb2⟩))
    all_goals
      have hB2 := Lib.hid (HB.out.trans ((undrew hb2).mono HB.out.size))
      have hS2 := HS.out.kept (undrew hb2)
      have hBk2 := HBk.out.kept (undrew hb2)
      have k0 := hS2.three.1
      have d2 : w2.cell? ⟨w.heap.size, 2, none⟩ = some (vS e0.stream) := hBk2.cell 2
      have d3 : w2.cell? ⟨w.heap.size, 3, none⟩ = some (vS e0.typ) := hBk2.cell 3
      have d4 : w2.cell? ⟨w.heap.size, 4, none⟩ = some (.slice tA e0.tags.length tc) := hBk2.cell 4
      have d5 : w2.cell? ⟨w.heap.size, 5, none⟩ = some (.slice fA e0.flds.length fc) := hBk2.cell 5
      have hK2 := Lib.hid (HK.out w2.drew hB2.out.drew)
      clear hS2 hBk2 hb2
      go_wp2_with fail
      go_region_law (first | (go_simp; go_at_call 196; (with_reducible refine hK2.out.mono ?_); rintro e w4 ⟨rfl, h3, h4⟩))
      all_goals
        go_wp2
        go_ret
        exact ⟨rfl, h3, (below_turn hB2.out.drew).trans h4⟩

end Go.Proofs.YtdonhmdeijidkaaGreat
