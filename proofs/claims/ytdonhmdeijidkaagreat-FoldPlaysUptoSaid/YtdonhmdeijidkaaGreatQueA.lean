/-
  Walks: query.May and what it hands to the library.
-/
import Derived.Test.YtdonhmdeijidkaaGreatSlE
namespace Go.Proofs.YtdonhmdeijidkaaGreat
open Go.RowKit

def Cl.Small (c : Cl) : Prop := SmallStrs c.tags ∧ SmallStrs c.types
def SmallQ (q : List Cl) : Prop := q.length ≤ 1048576 ∧ ∀ c ∈ q, c.Small
def bigC (c : Cl) : Bool := decide (4 < c.tags.length) || decide (4 < c.types.length)
def noneC (c : Cl) : Bool := c.tags.any (fun s => !tagB s) || c.types.any (fun s => !mayB s)
def badC (c : Cl) : Bool := !riseB c.tags || !riseB c.types
/-- What is wrong with a query. -/
def qMay (q : List Cl) : Int := if 4 < q.length ∨ q.any bigC = true then 3 else if q.any noneC = true then 5 else if q.any badC = true then 1 else 0

theorem big_calls (w : World) (tA yA : Option Addr) (tc yc : Nat) (c : Cl) : Calls Tryz.prog 115 #[vCl tA tc yA yc c] w fun e w' => e = .returned (.bool (bigC c)) ∧ Below w.heap.size w w' := by
  obtain ⟨tags, types⟩ := c
  unfold bigC
  by_cases h4 : 4 < tags.length
  · go_enter Tryz.func115, Tryz.ntmps115
    go_wp2
    go_ret
    exact ⟨ret_bool (by simp), (Below.refl w.heap.size w).alloc (Nat.le_refl _) _⟩
  · have h4' : tags.length ≤ 4 := by omega
    go_enter Tryz.func115, Tryz.ntmps115
    go_wp2
    go_ret
    exact ⟨ret_bool (by rw [Bool.eq_iff_iff]; simp <;> omega), (Below.refl w.heap.size w).alloc (Nat.le_refl _) _⟩

theorem nottag_calls (s : Str) (hs : s.length ≤ 1048576) (w : World) : Calls Tryz.prog 117 #[vS s] w fun e w' => e = .returned (.bool (!tagB s)) ∧ Below w.heap.size w w' := by
  go_enter Tryz.func117, Tryz.ntmps117
  go_wp2_with fail
  refine (maytag_calls s hs w).mono ?_
  rintro e w1 ⟨rfl, hb⟩
  go_wp2
  go_ret
  exact ⟨rfl, hb⟩
theorem notname_calls (s : Str) (hs : s.length ≤ 1048576) (w : World) : Calls Tryz.prog 119 #[vS s] w fun e w' => e = .returned (.bool (!mayB s)) ∧ Below w.heap.size w w' := by
  go_enter Tryz.func119, Tryz.ntmps119
  go_wp2_with fail
  refine (may_name_calls s hs w).mono ?_
  rintro e w1 ⟨rfl, hb⟩
  go_wp2
  go_ret
  exact ⟨rfl, hb⟩

theorem nottag_pred (l : List Str) (h : SmallStrs l) (w : World) : PredS 117 #[] (fun s => !tagB s) l w :=
  ⟨enters_of Tryz.func117 (by kernel_rfl) rfl, fun x hx W _ => nottag_calls x (h.2 x hx) W⟩
theorem notname_pred (l : List Str) (h : SmallStrs l) (w : World) : PredS 119 #[] (fun s => !mayB s) l w :=
  ⟨enters_of Tryz.func119 (by kernel_rfl) rfl, fun x hx W _ => notname_calls x (h.2 x hx) W⟩

theorem none_calls (w : World) (tA yA : Option Addr) (tc yc : Nat) (c : Cl) (ht : Strs w w.heap.size tA c.tags) (hy : Strs w w.heap.size yA c.types) (hs : c.Small) :
    Calls Tryz.prog 116 #[vCl tA tc yA yc c] w fun e w' => e = .returned (.bool (noneC c)) ∧ Below w.heap.size w w' := by
  obtain ⟨tags, types⟩ := c
  obtain ⟨s1, s2⟩ := hs
  simp only at ht hy s1 s2
  unfold noneC
  have hb0 : Below w.heap.size w (w.alloc (.cells #[.slice tA tags.length tc, .slice yA types.length yc] 115)) := (Below.refl w.heap.size w).alloc (Nat.le_refl _) _
  have HB : Blk (w.alloc (.cells #[.slice tA tags.length tc, .slice yA types.length yc] 115)) w.heap.size 115 #[.slice tA tags.length tc, .slice yA types.length yc] := Blk.new w _ _
  have H1 := Lib.hid (containsfunc_str_calls (w.alloc (.cells #[.slice tA tags.length tc, .slice yA types.length yc] 115)) tA tc tags 117 #[] (fun s => !tagB s) ((ht.same (same_below hb0)).more hb0.size) s1.1 (nottag_pred tags s1 _))
  simp only
  generalize hg1 : (tags.any fun s => !tagB s) = g1
  have G1 := Lib.hid hg1
  clear hg1
  go_enter Tryz.func116, Tryz.ntmps116
  go_wp2_with fail
  refine H1.out.mono ?_
  rintro e w1 ⟨rfl, hb1⟩
  rw [G1.out]
  have HB1 := HB.kept hb1
  have hbz := hb0.trans (hb1.mono hb0.size)
  cases g1
  · have H2 := Lib.hid (containsfunc_str_calls w1 yA yc types 119 #[] (fun s => !mayB s) ((hy.same (same_below hbz)).more hbz.size) s2.1 (notname_pred types s2 _))
    obtain ⟨c0, c1⟩ := HB1.two
    go_wp2_with fail
    refine H2.out.mono ?_
    rintro e w2 ⟨rfl, hb2⟩
    go_wp2
    go_ret
    exact ⟨ret_bool (by simp), hbz.trans (hb2.mono hbz.size)⟩
  · go_wp2
    go_ret
    exact ⟨ret_bool (by simp), hbz⟩

theorem bad_calls (w : World) (tA yA : Option Addr) (tc yc : Nat) (c : Cl) (ht : Strs w w.heap.size tA c.tags) (hy : Strs w w.heap.size yA c.types) (hs : c.Small) :
    Calls Tryz.prog 120 #[vCl tA tc yA yc c] w fun e w' => e = .returned (.bool (badC c)) ∧ Below w.heap.size w w' := by
  obtain ⟨tags, types⟩ := c
  obtain ⟨s1, s2⟩ := hs
  simp only at ht hy s1 s2
  unfold badC
  have hb0 : Below w.heap.size w (w.alloc (.cells #[.slice tA tags.length tc, .slice yA types.length yc] 115)) := (Below.refl w.heap.size w).alloc (Nat.le_refl _) _
  have HB : Blk (w.alloc (.cells #[.slice tA tags.length tc, .slice yA types.length yc] 115)) w.heap.size 115 #[.slice tA tags.length tc, .slice yA types.length yc] := Blk.new w _ _
  have H1 := Lib.hid (rise_query_calls (w.alloc (.cells #[.slice tA tags.length tc, .slice yA types.length yc] 115)) tA tc tags ((ht.same (same_below hb0)).more hb0.size) s1.1)
  simp only
  generalize hg1 : riseB tags = g1
  have G1 := Lib.hid hg1
  clear hg1
  go_enter Tryz.func120, Tryz.ntmps120
  go_wp2_with fail
  refine H1.out.mono ?_
  rintro e w1 ⟨rfl, hb1⟩
  rw [G1.out]
  have HB1 := HB.kept hb1
  have hbz := hb0.trans (hb1.mono hb0.size)
  cases g1
  · go_wp2
    go_ret
    exact ⟨ret_bool (by simp), hbz⟩
  · have H2 := Lib.hid (rise_query_calls w1 yA yc types ((hy.same (same_below hbz)).more hbz.size) s2.1)
    obtain ⟨c0, c1⟩ := HB1.two
    go_wp2_with fail
    refine H2.out.mono ?_
    rintro e w2 ⟨rfl, hb2⟩
    go_wp2
    go_ret
    exact ⟨ret_bool (by simp), hbz.trans (hb2.mono hbz.size)⟩

theorem big_pred (q : List Cl) (w : World) : PredC 115 #[] bigC q w :=
  ⟨enters_of Tryz.func115 (by kernel_rfl) rfl, fun x _ tA tc yA yc _ _ W _ => big_calls W tA yA tc yc x⟩
theorem none_pred (q : List Cl) (h : SmallQ q) (w : World) : PredC 116 #[] noneC q w :=
  ⟨enters_of Tryz.func116 (by kernel_rfl) rfl, fun x hx tA tc yA yc h1 h2 W hW => none_calls W tA yA tc yc x ((h1.same (same_below hW)).more hW.size) ((h2.same (same_below hW)).more hW.size) (h.2 x hx)⟩
theorem bad_pred (q : List Cl) (h : SmallQ q) (w : World) : PredC 120 #[] badC q w :=
  ⟨enters_of Tryz.func120 (by kernel_rfl) rfl, fun x hx tA tc yA yc h1 h2 W hW => bad_calls W tA yA tc yc x ((h1.same (same_below hW)).more hW.size) ((h2.same (same_below hW)).more hW.size) (h.2 x hx)⟩

theorem may_query_calls (w : World) (A : Option Addr) (c : Nat) (q : List Cl) (h : Cls w w.heap.size A q) (hs : SmallQ q) :
    Calls Tryz.prog 83 #[.agg #[.slice A q.length c]] w fun e w' => e = .returned (.int .i64 (qMay q)) ∧ Below w.heap.size w w' := by
  generalize hv : qMay q = v
  unfold qMay at hv
  have HV := Lib.hid hv
  clear hv
  have hb0 : Below w.heap.size w (w.alloc (.cells #[.slice A q.length c] 24)) := (Below.refl w.heap.size w).alloc (Nat.le_refl _) _
  have HB : Blk (w.alloc (.cells #[.slice A q.length c] 24)) w.heap.size 24 #[.slice A q.length c] := Blk.new w _ _
  have hq := hs.1
  by_cases h4 : 4 < q.length
  · go_enter Tryz.func83, Tryz.ntmps83
    go_wp2
    go_ret
    exact ⟨ret_int (by rw [← HV.out]; simp [h4]), hb0⟩
  · have h4' : q.length ≤ 4 := by omega
    have HV2 := Lib.hid (show (if q.any bigC = true then 3 else if q.any noneC = true then 5 else if q.any badC = true then 1 else 0) = v by rw [← HV.out]; simp [h4])
    clear HV h4
    have H1 := Lib.hid (some_calls (w.alloc (.cells #[.slice A q.length c] 24)) A c q 115 #[] bigC ((h.same (same_below hb0)).more hb0.size) hq (fun w' _ => big_pred q w'))
    generalize hg1 : q.any bigC = g1 at HV2
    generalize hg2 : q.any noneC = g2 at HV2
    generalize hg3 : q.any badC = g3 at HV2
    have G1 := Lib.hid hg1
    have G2 := Lib.hid hg2
    have G3 := Lib.hid hg3
    clear hg1 hg2 hg3
    go_enter Tryz.func83, Tryz.ntmps83
    go_wp2_with fail
    refine H1.out.mono ?_
    rintro e w1 ⟨rfl, hb1⟩
    rw [G1.out]
    have HB1 := HB.kept hb1
    have hbz1 := hb0.trans (hb1.mono hb0.size)
    have c1 := HB1.one
    cases g1
    · have H2 := Lib.hid (some_calls w1 A c q 116 #[] noneC ((h.same (same_below hbz1)).more hbz1.size) hq (fun w' _ => none_pred q hs w'))
      go_wp2_with fail
      refine H2.out.mono ?_
      rintro e w2 ⟨rfl, hb2⟩
      rw [G2.out]
      have HB2 := HB1.kept hb2
      have hbz2 := hbz1.trans (hb2.mono hbz1.size)
      clear c1
      have c1 := HB2.one
      cases g2
      · have H3 := Lib.hid (some_calls w2 A c q 120 #[] badC ((h.same (same_below hbz2)).more hbz2.size) hq (fun w' _ => bad_pred q hs w'))
        go_wp2_with fail
        refine H3.out.mono ?_
        rintro e w3 ⟨rfl, hb3⟩
        rw [G3.out]
        have hbz3 := hbz2.trans (hb3.mono hbz2.size)
        cases g3
        all_goals
          go_wp2
          go_ret
          exact ⟨ret_int (by rw [← HV2.out]; simp), hbz3⟩
      · go_wp2
        go_ret
        exact ⟨ret_int (by rw [← HV2.out]; simp), hbz2⟩
    · go_wp2
      go_ret
      exact ⟨ret_int (by rw [← HV2.out]; simp), hbz1⟩
end Go.Proofs.YtdonhmdeijidkaaGreat
