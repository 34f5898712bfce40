/-
  Walks: qcode.MayDef, fold.folders.
-/
import Derived.Test.YtdonhmdeijidkaaGreatQueB
namespace Go.Proofs.YtdonhmdeijidkaaGreat
open Go.RowKit

/-- A projection. -/
structure Df where
  kind : Int
  field : Str
  q : List Cl
def Df.Small (d : Df) : Prop := -9223372036854775808 ≤ d.kind ∧ d.kind ≤ 9223372036854775807 ∧ d.field.length ≤ 1048576 ∧ SmallQ d.q
/-- What is wrong with a projection. -/
def defMay (d : Df) : Int :=
  if d.kind < 1 ∨ 4 < d.kind then 1 else if qMay d.q ≠ 0 then qMay d.q
  else if d.kind = 2 ∨ d.kind = 3 then (if mayB d.field = false then 5 else 0) else (if d.field ≠ [] then 5 else 0)
abbrev cDf (A : Option Addr) (c : Nat) (d : Df) : Array Value := #[.int .i64 d.kind, vS d.field, .slice A d.q.length c]

theorem maydef_calls (w : World) (A : Option Addr) (c : Nat) (d : Df) (h : Cls w w.heap.size A d.q) (hs : d.Small) :
    Calls Tryz.prog 43 #[.agg (cDf A c d)] w fun e w' => e = .returned (.int .i64 (defMay d)) ∧ Below w.heap.size w w' := by
  obtain ⟨k, fd, q⟩ := d
  obtain ⟨k1, k2, hf, hq⟩ := hs
  simp only at h k1 k2 hf hq
  generalize hv : defMay ⟨k, fd, q⟩ = v
  unfold defMay at hv
  simp only at hv
  have HV := Lib.hid hv
  clear hv
  have hb0 : Below w.heap.size w (w.alloc (.cells #[.int .i64 k, vS fd, .slice A q.length c] 26)) := (Below.refl w.heap.size w).alloc (Nat.le_refl _) _
  have HB : Blk (w.alloc (.cells #[.int .i64 k, vS fd, .slice A q.length c] 26)) w.heap.size 26 #[.int .i64 k, vS fd, .slice A q.length c] := Blk.new w _ _
  simp only [cDf]
  by_cases hk : k < 1 ∨ 4 < k
  · have HX := Lib.hid (show v = 1 by rw [← HV.out]; simp [hk])
    have hk' : k < 1 ∨ (1 ≤ k ∧ 4 < k) := by omega
    clear hk
    rcases hk' with hk | ⟨hk, hk2⟩
    all_goals
      go_enter Tryz.func43, Tryz.ntmps43
      go_wp2
      go_ret
      exact ⟨ret_int HX.out.symm, hb0⟩
  · have hk1 : 1 ≤ k := by omega
    have hk2 : k ≤ 4 := by omega
    have HV2 := Lib.hid (show (if qMay q ≠ 0 then qMay q else if k = 2 ∨ k = 3 then (if mayB fd = false then 5 else 0) else (if fd ≠ [] then 5 else 0)) = v by rw [← HV.out]; simp [hk])
    clear HV hk
    have H1 := Lib.hid (may_query_calls (w.alloc (.cells #[.int .i64 k, vS fd, .slice A q.length c] 26)) A c q ((h.same (same_below hb0)).more hb0.size) hq)
    generalize hm : qMay q = m at HV2
    generalize hy : mayB fd = y at HV2
    have HM := Lib.hid hm
    have HY := Lib.hid hy
    clear hm hy h
    by_cases hm0 : m = 0
    · subst hm0
      have hkk : k = 1 ∨ k = 2 ∨ k = 3 ∨ k = 4 := by omega
      clear hk1 hk2 k1 k2
      have hkk' : (k = 1 ∨ k = 4) ∨ (k = 2 ∨ k = 3) := by omega
      clear hkk
      rcases hkk' with hkk | hkk
      · have HV3 := Lib.hid (show (if fd ≠ [] then 5 else 0) = v by rw [← HV2.out]; rcases hkk with rfl | rfl <;> simp)
        clear HV2
        by_cases hfd : fd = []
        · subst hfd
          rcases hkk with rfl | rfl
          all_goals
            go_enter Tryz.func43, Tryz.ntmps43
            go_wp2_with fail
            refine H1.out.mono ?_
            rintro e w1 ⟨rfl, hb1⟩
            rw [HM.out]
            obtain ⟨c0, c1, c2⟩ := (HB.kept hb1).three
            go_wp2
            go_ret
            exact ⟨ret_int (by rw [← HV3.out]; simp), hb0.trans (hb1.mono hb0.size)⟩
        · have hfd2 : (fd == []) = false := by simpa using hfd
          have hfd3 : fd.isEmpty = false := by simpa using hfd
          have HFD := Lib.hid hfd
          clear hfd
          rcases hkk with rfl | rfl
          all_goals
            go_enter Tryz.func43, Tryz.ntmps43
            go_wp2_with fail
            refine H1.out.mono ?_
            rintro e w1 ⟨rfl, hb1⟩
            rw [HM.out]
            obtain ⟨c0, c1, c2⟩ := (HB.kept hb1).three
            go_wp2
            go_ret
            exact ⟨ret_int (by rw [← HV3.out]; simp [HFD.out]), hb0.trans (hb1.mono hb0.size)⟩
      · have HV3 := Lib.hid (show (if y = false then 5 else 0) = v by rw [← HV2.out]; rcases hkk with rfl | rfl <;> simp)
        clear HV2
        rcases hkk with rfl | rfl
        all_goals
          go_enter Tryz.func43, Tryz.ntmps43
          go_wp2_with fail
          refine H1.out.mono ?_
          rintro e w1 ⟨rfl, hb1⟩
          rw [HM.out]
          have hbz := hb0.trans (hb1.mono hb0.size)
          obtain ⟨c0, c1, c2⟩ := (HB.kept hb1).three
          go_wp2_with fail
          refine (may_name_calls fd hf _).mono ?_
          rintro e w2 ⟨rfl, hb2⟩
          rw [HY.out]
          have hbz2 := hbz.trans (hb2.mono hbz.size)
          cases y
          all_goals
            go_wp2
            go_ret
            exact ⟨ret_int (by rw [← HV3.out]; simp), hbz2⟩
    · have HV3 := Lib.hid (show m = v by rw [← HV2.out]; simp [hm0])
      have hm1 : (m == 0) = false := by simpa using hm0
      clear HV2 hm0
      go_enter Tryz.func43, Tryz.ntmps43
      go_wp2_with fail
      refine H1.out.mono ?_
      rintro e w1 ⟨rfl, hb1⟩
      rw [HM.out]
      go_wp2
      go_ret
      exact ⟨ret_int HV3.out, hb0.trans (hb1.mono hb0.size)⟩

/-- The kind of a projection as a value. -/
def kindV (d : Df) : Value := if d.kind = 2 then .iface 148 (.agg #[vS d.field]) else if d.kind = 3 then .iface 149 (.agg #[vS d.field]) else if d.kind = 4 then .iface 151 (.agg #[]) else .iface 152 (.agg #[])

theorem folders_calls (w : World) (A : Option Addr) (c : Nat) (d : Df) :
    Calls Tryz.prog 44 #[.agg (cDf A c d)] w fun e w' => e = .returned (kindV d) ∧ Below w.heap.size w w' := by
  obtain ⟨k, fd, q⟩ := d
  have hb0 : Below w.heap.size w (w.alloc (.cells #[.int .i64 k, vS fd, .slice A q.length c] 26)) := (Below.refl w.heap.size w).alloc (Nat.le_refl _) _
  generalize hv : kindV ⟨k, fd, q⟩ = v
  unfold kindV at hv
  simp only at hv
  have HV := Lib.hid hv
  clear hv
  simp only [cDf]
  by_cases h2 : k = 2
  · subst h2
    go_enter Tryz.func44, Tryz.ntmps44
    go_wp2
    go_ret
    exact ⟨by rw [← HV.out]; rfl, hb0⟩
  · by_cases h3 : k = 3
    · subst h3
      go_enter Tryz.func44, Tryz.ntmps44
      go_wp2
      go_ret
      exact ⟨by rw [← HV.out]; rfl, hb0⟩
    · by_cases h4 : k = 4
      · subst h4
        go_enter Tryz.func44, Tryz.ntmps44
        go_wp2
        go_ret
        exact ⟨by rw [← HV.out]; rfl, hb0⟩
      · have HX := Lib.hid (show .iface 152 (.agg #[]) = v by rw [← HV.out]; simp [h2, h3, h4])
        have g2 : (k == 2) = false := by simpa using h2
        have g3 : (k == 3) = false := by simpa using h3
        have g4 : (k == 4) = false := by simpa using h4
        clear h2 h3 h4 HV
        go_enter Tryz.func44, Tryz.ntmps44
        go_wp2
        go_ret
        exact ⟨by rw [← HX.out]; rfl, hb0⟩
end Go.Proofs.YtdonhmdeijidkaaGreat
