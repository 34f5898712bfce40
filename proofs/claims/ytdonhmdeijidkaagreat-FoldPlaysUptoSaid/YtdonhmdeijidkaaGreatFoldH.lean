/-
  Walks: fold.New.
-/
import Derived.Test.YtdonhmdeijidkaaGreatFoldG
import Derived.Deep.RegionLaw
namespace Go.Proofs.YtdonhmdeijidkaaGreat
open Go.RowKit Go.Maps
attribute [local go_sem ↓] Go.wp_at_zero Go.wp_at_succ

def NewPost (w : World) (d : Df) (e : Ending) (w' : World) : Prop :=
  Below w.heap.size w w' ∧ ((defMay d ≠ 0 ∧ e = .returned (.tuple #[.pointer none, .int .i64 (defMay d)])) ∨
    (defMay d = 0 ∧ ∃ sb mb, e = .returned (.tuple #[.pointer (some ⟨sb, 0, none⟩), .int .i64 0]) ∧ St w' sb mb d.kind d.field (normQ d.q) [] ∧ w.heap.size ≤ sb ∧ w.heap.size ≤ mb))

theorem new_end {w w1 w2 wf : World} {d : Df} {T : Nat} {x : Value} {A4 : Option Addr} {c4 mb : Nat} (h0 : defMay d = 0) (hkv : kindV d = .iface T x) (h1 : Below w.heap.size w w1) (h2 : Below w1.heap.size w1 w2) (h3 : Below w2.heap.size w2 wf)
    (hM : MapIs wf mb []) (hmb : w2.heap.size ≤ mb) (hq : Cls wf wf.heap.size A4 (normQ d.q)) {n : Nat} (hn : n = wf.heap.size) :
    NewPost w d (.returned (.tuple #[.pointer (some ⟨n, 0, none⟩), .int .i64 0])) (wf.alloc (.cells #[.iface T x, .slice A4 d.q.length c4, .map (some mb)] 100)) := by
  subst hn
  have z1 := h1.size
  have z2 := h2.size
  have z3 := h3.size
  have hb : Below w.heap.size w wf := h1.trans ((h2.trans (h3.mono z2)).mono z1)
  have hal : Below wf.heap.size wf (wf.alloc (.cells #[.iface T x, .slice A4 d.q.length c4, .map (some mb)] 100)) := (Below.refl _ _).alloc (Nat.le_refl _) _
  refine ⟨hb.trans (hal.mono hb.size), .inr ⟨h0, _, mb, rfl, ⟨⟨A4, c4, ?_, ?_⟩, hM.below hal⟩, by omega, by omega⟩⟩
  · have hk : kindK d.kind d.field = .iface T x := hkv
    have hl : (normQ d.q).length = d.q.length := by simp [normQ]
    rw [hk, hl]
    exact Blk.new _ _ _
  · exact hq.same (same_below hal)

set_option maxRecDepth 100000 in
set_option maxHeartbeats 4000000 in
theorem new_calls (w : World) (A : Option Addr) (c : Nat) (d : Df) (h : Cls w w.heap.size A d.q) (hs : d.Small) :
    Calls Tryz.prog 11 #[.agg (cDf A c d)] w (NewPost w d) := by
  obtain ⟨k, fd, q⟩ := d
  obtain ⟨w1, hw1⟩ : ∃ y, y = w.alloc (.cells (cDf A c ⟨k, fd, q⟩) 26) := ⟨_, rfl⟩
  have hb : Below w.heap.size w w1 := hw1 ▸ (Below.refl w.heap.size w).alloc (Nat.le_refl _) _
  have hBk : Blk w1 w.heap.size 26 #[.int .i64 k, vS fd, .slice A q.length c] := hw1 ▸ Blk.new _ _ _
  have hq1 : Cls w1 w1.heap.size A q := (h.same (same_below hb)).more hb.size
  have HMD := Lib.hid (maydef_calls w1 A c ⟨k, fd, q⟩ hq1 hs)
  have HQ : ∀ w2, Below w1.heap.size w1 w2 → Cls w2 w2.heap.size A q := fun w2 h2 => (hq1.same (same_below h2)).more h2.size
  have HQ := Lib.hid HQ
  have hsq : SmallQ q := hs.2.2.2
  have HB := Lib.hid hb
  have HBk := Lib.hid hBk
  obtain ⟨c0, c1, c2⟩ := hBk.three
  generalize hdm : defMay ⟨k, fd, q⟩ = dm at HMD
  clear h hs hq1 hb hBk
  by_cases h0 : dm = 0
  · subst h0
    have HDM := Lib.hid hdm
    clear hdm
    go_enter Tryz.func11, Tryz.ntmps11
    go_wp2_with fail
    rw [← hw1]
    clear hw1
    refine HMD.out.mono ?_
    rintro e w2 ⟨rfl, hb2⟩
    obtain ⟨c0, c1, c2⟩ := (HBk.out.kept hb2).three
    go_wp2_with fail
    have hB2 := HBk.out.kept hb2
    obtain ⟨a0, a1, a2⟩ := (hB2.alloc (.map #[] 0)).three
    have HB2 := Lib.hid hB2
    have Hb2 := Lib.hid hb2
    clear hB2 hb2
    obtain ⟨T0, x0, hkv⟩ : ∃ T x, kindV ⟨k, fd, q⟩ = .iface T x := by
      unfold kindV
      repeat' split
      all_goals exact ⟨_, _, rfl⟩
    have HKV := Lib.hid hkv
    clear hkv
    have hmk : ∀ w : World, (Instr.makeMap 98 none).run Tryz.prog w = .ok (.map (some w.heap.size)) (w.alloc (.map #[] 0)) := fun w => run_makeMap _ w
    go_region_law
      (first
        | (go_simp; go_at_call 44; (with_reducible refine (folders_calls _ A c ⟨k, fd, q⟩).mono ?_); rintro e w3 ⟨rfl, hb3⟩; rw [HKV.out]; have hb23 : Below w2.heap.size w2 w3 := (by first | exact undrew hb3 | exact ((((Below.refl w2.heap.size w2).alloc (Nat.le_refl _) _).drew).trans (hb3.mono (by simp))) | exact ((((Below.refl w2.heap.size w2).drew).alloc (Nat.le_refl _) _).trans (hb3.mono (by simp)))); have hB3 := HB2.out.kept hb23; obtain ⟨b0, b1, b2⟩ := hB3.three; obtain ⟨e0, e1, e2⟩ := (hB3.alloc (.map #[] 0)).three; have hQ3 := HQ.out w3 (Hb2.out.trans (hb23.mono Hb2.out.size)); have hQ4 : Cls (w3.alloc (.map #[] 0)) (w3.alloc (.map #[] 0)).heap.size A q := (hQ3.same (same_alloc w3 (.map #[] 0))).more (by simp))
        | (go_simp; go_at_call 45; (with_reducible refine (norm_query_calls _ A c q (by first | exact hQ3 | exact hQ4) hsq).mono ?_); rintro e w4 ⟨⟨A4, c4, rfl, hq4⟩, hb4⟩))
    all_goals
      go_wp2
      go_ret2
      first
        | exact new_end HDM.out HKV.out HB.out Hb2.out (hb23.trans (hb4.mono hb23.size)) (((MapIs.over (w := w2.alloc (.map #[] 0)) (w' := (w2.alloc (.map #[] 0)).drew) (MapIs.made w2) rfl).below hb3).below hb4) (Nat.le_refl _) hq4 rfl
        | exact new_end HDM.out HKV.out HB.out Hb2.out (hb23.trans ((((Below.refl w3.heap.size w3).alloc (Nat.le_refl _) _).trans (hb4.mono (by simp))).mono hb23.size)) ((MapIs.made w3).below hb4) hb23.size hq4 rfl
        | exact new_end (wf := w4.alloc (.map #[] 0)) HDM.out HKV.out HB.out Hb2.out ((hb23.trans (hb4.mono hb23.size)).trans (((Below.refl w4.heap.size w4).alloc (Nat.le_refl _) _).mono (Nat.le_trans hb23.size hb4.size))) (MapIs.made w4) (Nat.le_trans hb23.size hb4.size) ((hq4.same (same_alloc w4 (.map #[] 0))).more (by simp)) (by simp)
  · have hz : ((dm : Int) == 0) = false := beq_eq_false_iff_ne.2 h0
    have HDM := Lib.hid hdm
    have H0 := Lib.hid h0
    clear hdm h0
    go_enter Tryz.func11, Tryz.ntmps11
    go_wp2_with fail
    rw [← hw1]
    clear hw1
    refine HMD.out.mono ?_
    rintro e w2 ⟨rfl, hb2⟩
    go_wp2
    go_ret2
    refine ⟨HB.out.trans (hb2.mono HB.out.size), .inl ⟨by rw [HDM.out]; exact H0.out, by rw [HDM.out]; rfl⟩⟩
end Go.Proofs.YtdonhmdeijidkaaGreat
