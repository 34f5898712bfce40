/-
  Walks: the reference's MayDef (layer 7), New (layer 15).
-/
import Derived.Test.YtdonhmdeijidkaaGreatRefQ
import Derived.Test.YtdonhmdeijidkaaGreatRefM
namespace Go.Proofs.YtdonhmdeijidkaaGreat
open Go.RowKit Go.Maps

theorem maydef07_calls (w : World) (A : Option Addr) (c : Nat) (d : Df) (h : Cls w w.heap.size A d.q) (hs : d.Small) :
    Calls Tryz.prog 46 #[.agg (cDf A c d)] w fun e w' => e = .returned (.int .i64 (defMay d)) ∧ Below w.heap.size w w' := by
  obtain ⟨k, fd, q⟩ := d
  obtain ⟨k1, k2, hf, hq⟩ := hs
  simp only at h k1 k2 hf hq
  generalize hv : defMay ⟨k, fd, q⟩ = v
  unfold defMay at hv
  simp only at hv
  have HV := Lib.hid hv
  clear hv
  have hb0 : Below w.heap.size w (w.alloc (.cells #[.int .i64 k, vS fd, .slice A q.length c] 26)) := (Below.refl w.heap.size w).alloc (Nat.le_refl _) _
  have HB : Blk (w.alloc (.cells #[.int .i64 k, vS fd, .slice A q.length c] 26)) w.heap.size 26 #[.int .i64 k, vS fd, .slice A q.length c] := Blk.new w _ _
  simp only [cDf]
  by_cases hk : k < 1 ∨ 4 < k
  · have HX := Lib.hid (show v = 1 by rw [← HV.out]; simp [hk])
    have hk' : k < 1 ∨ (1 ≤ k ∧ 4 < k) := by omega
    clear hk
    rcases hk' with hk | ⟨hk, hk2⟩
    all_goals
      go_enter Tryz.func46, Tryz.ntmps46
      go_wp2
      go_ret
      exact ⟨ret_int HX.out.symm, hb0⟩
  · have hk1 : 1 ≤ k := by omega
    have hk2 : k ≤ 4 := by omega
    have HV2 := Lib.hid (show (if qMay q ≠ 0 then qMay q else if k = 2 ∨ k = 3 then (if mayB fd = false then 5 else 0) else (if fd ≠ [] then 5 else 0)) = v by rw [← HV.out]; simp [hk])
    clear HV hk
    have H1 := Lib.hid (may06_calls (w.alloc (.cells #[.int .i64 k, vS fd, .slice A q.length c] 26)) A c q ((h.same (same_below hb0)).more hb0.size) hq)
    generalize hm : qMay q = m at HV2
    generalize hy : mayB fd = y at HV2
    have HM := Lib.hid hm
    have HY := Lib.hid hy
    clear hm hy h
    by_cases hm0 : m = 0
    · subst hm0
      have hkk : k = 1 ∨ k = 2 ∨ k = 3 ∨ k = 4 := by omega
      clear hk1 hk2 k1 k2
      by_cases hfd : fd = []
      case' neg =>
        have hfd2 : (fd == []) = false := by simpa using hfd
        have hfd3 : fd.isEmpty = false := by simpa using hfd
        have HFD := Lib.hid hfd
        clear hfd
      case' pos =>
        have HFD := Lib.hid hfd
        subst hfd
      all_goals
        rcases hkk with rfl | rfl | rfl | rfl
        all_goals
          go_enter Tryz.func46, Tryz.ntmps46
          go_wp2_with fail
          refine H1.out.mono ?_
          rintro e w1 ⟨rfl, hb1⟩
          rw [HM.out]
          have hbz := hb0.trans (hb1.mono hb0.size)
          have HB1 := HB.kept hb1
          obtain ⟨c0, c1, c2⟩ := HB1.three
          go_wp2_with fail
          refine (may03_calls _ hf _).mono ?_
          rintro e w2 ⟨rfl, hb2⟩
          rw [HY.out]
          have hbz2 := hbz.trans (hb2.mono hbz.size)
          clear c0 c1 c2
          obtain ⟨c0, c1, c2⟩ := (HB1.kept hb2).three
          clear HB1 hb1 hb2 hbz
          cases y
          all_goals
            go_wp2
            go_ret
            exact ⟨ret_int (by rw [← HV2.out]; simp [HFD.out]), hbz2⟩
    · have HV3 := Lib.hid (show m = v by rw [← HV2.out]; simp [hm0])
      have hm1 : (m == 0) = false := by simpa using hm0
      clear HV2 hm0
      go_enter Tryz.func46, Tryz.ntmps46
      go_wp2_with fail
      refine H1.out.mono ?_
      rintro e w1 ⟨rfl, hb1⟩
      rw [HM.out]
      go_wp2
      go_ret
      exact ⟨ret_int HV3.out, hb0.trans (hb1.mono hb0.size)⟩

def New15Post (w : World) (B : Nat) (d : Df) (e : Ending) (w' : World) : Prop :=
  Below w.heap.size w w' ∧ ((defMay d ≠ 0 ∧ e = .returned (.tuple #[.pointer none, .int .i64 (defMay d)])) ∨
    (defMay d = 0 ∧ ∃ rb, e = .returned (.tuple #[.pointer (some ⟨rb, 0, none⟩), .int .i64 0]) ∧ RSt w' B rb d.kind d.field d.q [] ∧ w.heap.size ≤ rb))

theorem new15_calls (w : World) (B : Nat) (A : Option Addr) (c : Nat) (d : Df) (h : Cls w B A d.q) (hB : B ≤ w.heap.size) (hs : d.Small) :
    Calls Tryz.prog 12 #[.agg (cDf A c d)] w (New15Post w B d) := by
  obtain ⟨k, fd, q⟩ := d
  obtain ⟨w1, hw1⟩ : ∃ y, y = w.alloc (.cells (cDf A c ⟨k, fd, q⟩) 26) := ⟨_, rfl⟩
  have hb : Below w.heap.size w w1 := hw1 ▸ (Below.refl w.heap.size w).alloc (Nat.le_refl _) _
  have hBk : Blk w1 w.heap.size 26 #[.int .i64 k, vS fd, .slice A q.length c] := hw1 ▸ Blk.new _ _ _
  have HMD := Lib.hid (maydef07_calls w1 A c ⟨k, fd, q⟩ (((h.more hB).same (same_below hb)).more hb.size) hs)
  have HH := Lib.hid h
  have HBB := Lib.hid hB
  have HB := Lib.hid hb
  have HBk := Lib.hid hBk
  obtain ⟨c0, c1, c2⟩ := hBk.three
  generalize hdm : defMay ⟨k, fd, q⟩ = dm at HMD
  have HDM := Lib.hid hdm
  clear h hs hb hBk hdm hB
  by_cases h0 : dm = 0
  · subst h0
    go_enter Tryz.func12, Tryz.ntmps12
    go_wp2_with fail
    rw [← hw1]
    clear hw1
    refine HMD.out.mono ?_
    rintro e w2 ⟨rfl, hb2⟩
    obtain ⟨c0, c1, c2⟩ := (HBk.out.kept hb2).three
    have HB2 := Lib.hid (HB.out.trans (hb2.mono HB.out.size))
    clear hb2
    go_wp2
    go_ret2
    have hal : Below w2.heap.size w2 (w2.alloc (.cells #[.int .i64 k, vS fd, .slice A q.length c, .slice none 0 0] 51)) := (Below.refl _ _).alloc (Nat.le_refl _) _
    have hb3 := HB2.out.trans (hal.mono HB2.out.size)
    refine ⟨hb3, .inr ⟨HDM.out, w2.heap.size, rfl, ⟨⟨A, c, none, 0, Blk.new _ _ _, HH.out.same ((same_below hb3).mono HBB.out), fun hl => absurd rfl hl⟩, Nat.le_trans HBB.out HB2.out.size⟩, HB2.out.size⟩⟩
  · have hz : ((dm : Int) == 0) = false := beq_eq_false_iff_ne.2 h0
    have H0 := Lib.hid h0
    clear h0
    go_enter Tryz.func12, Tryz.ntmps12
    go_wp2_with fail
    rw [← hw1]
    clear hw1
    refine HMD.out.mono ?_
    rintro e w2 ⟨rfl, hb2⟩
    go_wp2
    go_ret2
    refine ⟨HB.out.trans (hb2.mono HB.out.size), .inl ⟨by rw [HDM.out]; exact H0.out, by rw [HDM.out]; rfl⟩⟩
end Go.Proofs.YtdonhmdeijidkaaGreat
