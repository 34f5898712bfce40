/-
  Walks: the law's 'shown'.
-/
import Derived.Test.YtdonhmdeijidkaaGreatLawA
namespace Go.Proofs.YtdonhmdeijidkaaGreat
open Go.RowKit Go.Maps

/-- The query that asks for all. -/
abbrev allQ : List Cl := [⟨[], []⟩]
theorem norm_all : normQ allQ = allQ := by
  show [normC ⟨[], []⟩] = _
  unfold normC
  rw [sortS_nil.2 rfl]
theorem allQ_small : SmallQ allQ := ⟨by decide, fun c hc => by simp at hc; subst hc; exact ⟨⟨by decide, by simp⟩, by decide, by simp⟩⟩
theorem all_match (e : Ev) : matchB allQ e = true := rfl
theorem okay_nil : Okay [] 0 := ⟨by simp, by simp⟩

theorem step_to (w : World) (sb mb : Nat) (k : Int) (f : Str) (q : List Cl) (E : Ents) (n : Nat) (e0 : Ev) (tA fA : Option Addr) (tc fc : Nat) (p v : Int)
    (hS : St w sb mb k f q E) (hs : SmallQ q) (hO : Okay E n) (hn : n ≤ 10000) (hT : Strs w w.heap.size tA e0.tags) (hF : Flds w w.heap.size fA e0.flds) (hE : e0.Good) :
    Calls Tryz.prog 18 #[.pointer (some ⟨sb, 0, none⟩), .agg #[.int .i64 p, .int .i64 v, vS e0.stream, vS e0.typ, .slice tA e0.tags.length tc, .slice fA e0.flds.length fc]] w fun e w' =>
      e = .returned (.int .i64 (stepE k f q E e0).1) ∧ St w' sb mb k f q (stepE k f q E e0).2 ∧ MapIs w mb E ∧ w.grownBy w' (some mb) :=
  (step_calls w sb mb k f q E n e0 tA fA tc fc p v hS hs hO hn hT hF hE).mono fun _ _ ⟨h1, h2, h3⟩ => ⟨h1, hS.turn h3 h2, hS.map, h3⟩

theorem below_grown {w0 w w' : World} {mb : Nat} (h : Below w0.heap.size w0 w) (hg : w.grownBy w' (some mb)) (hmb : w0.heap.size ≤ mb) : Below w0.heap.size w0 w' :=
  h.grown hg h.size (fun k hk => by cases hk; exact hmb)

def ev1 : Ev := ⟨[115], [116], [], [([110], 5)]⟩
def ev2 : Ev := ⟨[115], [116], [], []⟩
def ev3 : Ev := ⟨[115], [116], [], [([110], -2)]⟩
theorem good1 : ev1.Good := ⟨by decide, by decide, by simp [ev1], by decide, by simp [ev1]⟩
theorem good2 : ev2.Good := ⟨by decide, by decide, by simp [ev2], by decide, by simp [ev2]⟩
theorem good3 : ev3.Good := ⟨by decide, by decide, by simp [ev3], by decide, by simp [ev3]⟩
theorem shown1 : stepE 2 [110] allQ [] ev1 = (0, [([], 5)]) := by decide
theorem shown2 : stepE 2 [110] allQ [([], 5)] ev2 = (0, [([], 5)]) := by decide
theorem shown3 : stepE 2 [110] allQ [([], 5)] ev3 = (0, [([], 3)]) := by decide
theorem may_sum : defMay ⟨2, [110], allQ⟩ = 0 := by decide
theorem may_latest : defMay ⟨3, [110], allQ⟩ = 0 := by decide
theorem may_count : defMay ⟨1, [], allQ⟩ = 0 := by decide
theorem may_members : defMay ⟨4, [], allQ⟩ = 0 := by decide
theorem df_small (k : Int) (f : Str) (h1 : 0 ≤ k) (h2 : k ≤ 10) (hf : f.length ≤ 1) : Df.Small ⟨k, f, allQ⟩ := ⟨by simp only; omega, by simp only; omega, by simp only; omega, allQ_small⟩

/-- New, where the definition may be, and asks for all. -/
theorem new_all (w : World) (A : Option Addr) (c : Nat) (k : Int) (f : Str) (h : Cls w w.heap.size A allQ) (hs : Df.Small ⟨k, f, allQ⟩) (h0 : defMay ⟨k, f, allQ⟩ = 0) :
    Calls Tryz.prog 11 #[.agg #[.int .i64 k, vS f, .slice A 1 c]] w fun e w' => (∃ sb mb, e = .returned (.tuple #[.pointer (some ⟨sb, 0, none⟩), .int .i64 0]) ∧ St w' sb mb k f allQ [] ∧ w.heap.size ≤ sb ∧ w.heap.size ≤ mb) ∧ Below w.heap.size w w' := by
  refine (new_calls w A c ⟨k, f, allQ⟩ h hs).mono ?_
  rintro e w' ⟨hb, h1 | ⟨_, sb, mb, he, hst, h2, h3⟩⟩
  · exact absurd h0 h1.1
  · rw [norm_all] at hst
    exact ⟨⟨sb, mb, he, hst, h2, h3⟩, hb⟩

theorem flds_one (w : World) (T : TypeId) (n : Str) (x : Int) : Flds (w.alloc (.cells #[vS n, .int .i64 x] T)) (w.alloc (.cells #[vS n, .int .i64 x] T)).heap.size (some ⟨w.heap.size, 0, none⟩) [(n, x)] := fun _ => by
  have hb := Blk.new w T #[vS n, .int .i64 x]
  refine ⟨w.heap.size, 0, rfl, by simp, fun k y hy => ?_⟩
  cases k with
  | zero =>
    simp at hy
    subst hy
    exact hb.two
  | succ k => simp at hy
theorem flds_nil (w : World) (B : Nat) : Flds w B none [] := fun h => absurd rfl h
theorem strs_nil (w : World) (B : Nat) : Strs w B none [] := fun h => absurd rfl h
theorem alloc_below (w : World) (o : Obj) : Below w.heap.size w (w.alloc o) := (Below.refl _ _).alloc (Nat.le_refl _) _

set_option maxRecDepth 100000 in
set_option maxHeartbeats 2000000 in
theorem shown_calls (w : World) : Calls Tryz.prog 10 #[] w fun e w' => e = .returned (.bool true) ∧ Below w.heap.size w w' := by
  go_enter Tryz.func10, Tryz.ntmps10
  go_wp2_with fail
  refine (all_calls w).mono ?_
  rintro e w1 ⟨⟨A1, c1, rfl, hq1⟩, hb1⟩
  go_wp2_with fail
  refine (new_all w1 A1 c1 2 [110] hq1 (df_small 2 [110] (by decide) (by decide) (by decide)) may_sum).mono ?_
  rintro e w2 ⟨⟨sb, mb, rfl, hst, hsb, hmb⟩, hb2⟩
  have hbw := Lib.hid (hb1.trans (hb2.mono hb1.size))
  have HST := Lib.hid hst
  have hmw : w.heap.size ≤ mb := Nat.le_trans hb1.size hmb
  have HMW := Lib.hid hmw
  clear hq1 hb1 hb2 hst hsb hmb hmw
  go_wp2_with fail
  refine (step_to (w2.alloc (.cells #[vS [110], .int .i64 5] 90)) sb mb 2 [110] allQ [] 0 ev1 none (some ⟨w2.heap.size, 0, none⟩) 0 1 0 0 (HST.out.below (alloc_below _ _)) allQ_small okay_nil (by decide) (strs_nil _ _) (flds_one _ _ _ _) good1).mono ?_
  rintro e w3 ⟨rfl, hst, -, hg⟩
  rw [shown1] at hst
  have hbw := Lib.hid (below_grown (hbw.out.trans ((alloc_below _ _).mono hbw.out.size)) hg HMW.out)
  have HST := Lib.hid hst
  clear hst hg
  go_wp2_with fail
  refine (step_to w3 sb mb 2 [110] allQ [([], 5)] 1 ev2 none none 0 0 0 0 HST.out allQ_small (okay_nil.step 2 [110] allQ ev1 good1) (by decide) (strs_nil _ _) (flds_nil _ _) good2).mono ?_
  rintro e w4 ⟨rfl, hst, -, hg⟩
  rw [shown2] at hst
  have hbw := Lib.hid (below_grown hbw.out hg HMW.out)
  have HST := Lib.hid hst
  clear hst hg
  go_wp2_with fail
  refine (step_to (w4.alloc (.cells #[vS [110], .int .i64 (-2)] 90)) sb mb 2 [110] allQ [([], 5)] 2 ev3 none (some ⟨w4.heap.size, 0, none⟩) 0 1 0 0 (HST.out.below (alloc_below _ _)) allQ_small ((okay_nil.step 2 [110] allQ ev1 good1).step 2 [110] allQ ev2 good2) (by decide) (strs_nil _ _) (flds_one _ _ _ _) good3).mono ?_
  rintro e w5 ⟨rfl, hst, -, hg⟩
  rw [shown3] at hst
  have hbw := Lib.hid (below_grown (hbw.out.trans ((alloc_below _ _).mono hbw.out.size)) hg HMW.out)
  have HST := Lib.hid hst
  clear hst hg
  go_wp2_with fail
  refine (entries_calls w5 sb mb 2 [110] allQ [([], 3)] HST.out (by decide) (by simp)).mono ?_
  rintro e w6 ⟨⟨A6, c6, rfl, hf⟩, hb6⟩
  obtain ⟨g, off, rfl, hgl, hcs⟩ := hf (by simp)
  obtain ⟨h1, h2⟩ := hcs 0 ([], 3) rfl
  have hbw := Lib.hid (hbw.out.trans (hb6.mono hbw.out.size))
  clear hf hcs hb6
  simp only [Nat.zero_mul, Nat.add_zero] at h1 h2
  go_wp2
  go_ret
  exact ⟨rfl, hbw.out⟩
end Go.Proofs.YtdonhmdeijidkaaGreat
