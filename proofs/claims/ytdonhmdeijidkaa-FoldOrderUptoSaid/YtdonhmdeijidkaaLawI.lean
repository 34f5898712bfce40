/-
  Walk: FoldOrder.
-/
import Derived.Test.YtdonhmdeijidkaaLawF
import Derived.Test.YtdonhmdeijidkaaLawG
import Derived.Test.YtdonhmdeijidkaaLawH
namespace Go.Proofs.Ytdonhmdeijidkaa
open Go.RowKit Go.Maps
attribute [local go_sem ↓] Go.wp_at_zero Go.wp_at_succ

theorem new_none (w : World) (A : Option Addr) (c n : Nat) (k : Int) (f : Str) (q : List Cl) (hn : q.length = n) (h : Cls w w.heap.size A q) (hs : Df.Small ⟨k, f, q⟩) (dm : Int) (hdm : defMay ⟨k, f, q⟩ = dm) (h0 : dm ≠ 0) :
    Calls Try.prog 7 #[.agg #[.int .i64 k, vS f, .slice A n c]] w fun e w' => e = .returned (.tuple #[.pointer none, .int .i64 dm]) ∧ Below w.heap.size w w' := by
  subst hn
  subst hdm
  refine (new_calls w A c ⟨k, f, q⟩ h hs).mono ?_
  rintro e w' ⟨hb, h1 | h1⟩
  · exact ⟨h1.2, hb⟩
  · exact absurd h1.1 h0
theorem new_some (w : World) (A : Option Addr) (c n : Nat) (k : Int) (f : Str) (q : List Cl) (hn : q.length = n) (h : Cls w w.heap.size A q) (hs : Df.Small ⟨k, f, q⟩) (h0 : defMay ⟨k, f, q⟩ = 0) :
    Calls Try.prog 7 #[.agg #[.int .i64 k, vS f, .slice A n c]] w fun e w' => (∃ sb mb, e = .returned (.tuple #[.pointer (some ⟨sb, 0, none⟩), .int .i64 0]) ∧ St w' sb mb k f (normQ q) [] ∧ w.heap.size ≤ sb ∧ w.heap.size ≤ mb) ∧ Below w.heap.size w w' := by
  subst hn
  refine (new_calls w A c ⟨k, f, q⟩ h hs).mono ?_
  rintro e w' ⟨hb, h1 | ⟨_, h2⟩⟩
  · exact absurd h0 h1.1
  · exact ⟨h2, hb⟩
theorem match06_n (w : World) (A : Option Addr) (c n : Nat) (q : List Cl) (hq0 : q.length = n) (e0 : Ev) (eA fA : Option Addr) (ec fc : Nat) (hq : Cls w w.heap.size A q) (hs : SmallQ q) (hT : Strs w w.heap.size eA e0.tags) (hn : e0.tags.length ≤ 1048576) (b : Bool) (hb : matchB q e0 = b) :
    Calls Try.prog 15 #[.agg #[.slice A n c], .agg #[vS e0.stream, vS e0.typ, .slice eA e0.tags.length ec, .slice fA e0.flds.length fc]] w fun e w' => e = .returned (.bool b) ∧ Below w.heap.size w w' := by
  subst hq0
  subst hb
  exact match06_calls w A c q e0 eA fA ec fc hq hs hT hn

theorem Cls.take {w : World} {B : Nat} {A : Option Addr} {q : List Cl} (h : Cls w B A q) (n : Nat) : Cls w B A (q.take n) := fun hl => by
  have hq : q ≠ [] := fun e => by rw [e] at hl; simp at hl
  obtain ⟨b, off, e, hb, hc⟩ := h hq
  refine ⟨b, off, e, hb, fun k c hk => ?_⟩
  rw [List.getElem?_take] at hk
  split at hk
  · exact hc k c hk
  · cases hk
theorem Df.Small.cut {k : Int} {f : Str} {q : List Cl} (h : Df.Small ⟨k, f, q⟩) (n : Nat) : Df.Small ⟨k, f, q.take n⟩ :=
  ⟨h.1, h.2.1, h.2.2.1, by have h1 : q.length ≤ 1048576 := h.2.2.2.1; simp; omega, fun c hc => h.2.2.2.2 c (List.mem_of_mem_take hc)⟩

set_option maxRecDepth 100000 in
set_option maxHeartbeats 16000000 in
/-- Behind the cut to eight clauses. -/
theorem order_law_calls (w : World) (A : Option Addr) (c : Nat) (d : Df) (A' : Option Addr) (c' : Nat) (l : List Ev) (hq : Cls w w.heap.size A d.q) (hd : d.Small) (hcap : d.q.length ≤ c) (h : Evts w w.heap.size A' l) (hn : l.length ≤ 1048576) (hs : ∀ e ∈ l, e.Small) :
    Calls Try.prog 4 #[.agg (cDf A c d), .slice A' l.length c'] w fun e w' => e = .returned (.bool true) ∧ Below w.heap.size w w' := by
  obtain ⟨k, fd, q⟩ := d
  simp only at hq hcap
  obtain ⟨q8, hq8⟩ : ∃ y, y = q.take 8 := ⟨_, rfl⟩
  have hd8 : Df.Small ⟨k, fd, q8⟩ := hq8 ▸ hd.cut 8
  have hc8 : Cls w w.heap.size A q8 := hq8 ▸ hq.take 8
  obtain ⟨w1, hw1⟩ : ∃ y, y = w.alloc (.cells (cDf A c ⟨k, fd, q⟩) 33) := ⟨_, rfl⟩
  have hb1 : Below w.heap.size w w1 := hw1 ▸ (Below.refl w.heap.size w).alloc (Nat.le_refl _) _
  have hBk : Blk w1 w.heap.size 33 #[.int .i64 k, vS fd, .slice A q.length c] := hw1 ▸ Blk.new _ _ _
  have HC8 := Lib.hid hc8
  have HD8 := Lib.hid hd8
  have HB1 := Lib.hid hb1
  have HBk := Lib.hid hBk
  have HE := Lib.hid h
  have HS := Lib.hid hs
  have HGO := Lib.hid (few_good hs)
  have HLE := Lib.hid (few_len l)
  have HQ := Lib.hid hq
  have HQ8 := Lib.hid hq8
  have HW1 := Lib.hid hw1
  clear h hs hq hd hd8 hc8 hb1 hBk hq8 hw1
  go_enter Try.func4, Try.ntmps4
  go_wp2_with fail
  rw [← HW1.out]
  clear HW1
  refine (shown_calls w1).mono ?_
  rintro e w2 ⟨rfl, hb2⟩
  have HBk := Lib.hid (HBk.out.kept hb2)
  have HB2 := Lib.hid (HB1.out.trans (hb2.mono HB1.out.size))
  obtain ⟨k0, k1, k2⟩ := HBk.out.three
  have hf2 := HBk.out.frozen 2
  clear hb2
  by_cases h8 : 8 < q.length
  case' pos =>
    obtain ⟨b, off, rfl, hbb, -⟩ := HQ.out (ne_nil_of (k := 0) (by omega))
    have hcc : 8 ≤ c := by omega
    have HBk : Hid (Blk (w2.setCell ⟨w.heap.size, 2, none⟩ (.slice (some ⟨b, off, none⟩) 8 c)) w.heap.size 33 #[.int .i64 k, vS fd, .slice (some ⟨b, off, none⟩) 8 c]) := Lib.hid (HBk.out.set_ 2 (.slice (some ⟨b, off, none⟩) 8 c))
    obtain ⟨k0', k1', k2'⟩ := HBk.out.three
    have HB2 := Lib.hid (HB2.out.setCell (p := ⟨w.heap.size, 2, none⟩) (Nat.le_refl _) (.slice (some ⟨b, off, none⟩) 8 c))
    have hn8 : q8.length = 8 := by rw [HQ8.out, List.length_take]; omega
    go_wp2_with fail
    clear k0 k1 k2 hf2 k0' k1' k2' hcc hbb HQ
    generalize w2.setCell ⟨w.heap.size, 2, none⟩ (.slice (some ⟨b, off, none⟩) 8 c) = w2 at *
    generalize (some ⟨b, off, none⟩ : Option Addr) = A at *
    generalize (8 : Nat) = n8 at hn8 HBk ⊢
  case' neg =>
    have hn8 : q8.length = q.length := by rw [HQ8.out, List.take_of_length_le (by omega)]
    go_wp2_with fail
    clear k0 k1 k2 hf2 HQ
    generalize q.length = n8 at hn8 HBk ⊢
  all_goals
    have HN8 := Lib.hid hn8
    have HC2 := Lib.hid ((HC8.out.same (same_below HB2.out)).more HB2.out.size)
    generalize hdm : defMay ⟨k, fd, q8⟩ = dm
    have HDM := Lib.hid hdm
    clear hn8 hdm
    by_cases h0 : dm = 0
    case' neg =>
      have hz : ((dm : Int) == 0) = false := beq_eq_false_iff_ne.2 h0
      have H0 := Lib.hid h0
      clear h0
      refine (new_none w2 A c n8 k fd q8 HN8.out HC2.out HD8.out dm HDM.out H0.out).mono ?_
      rintro e w3 ⟨rfl, hb3⟩
      obtain ⟨k0, k1, k2⟩ := (HBk.out.kept hb3).three
      have HBk3 := Lib.hid (HBk.out.kept hb3)
      have HC3 := Lib.hid ((HC2.out.same (same_below hb3)).more hb3.size)
      have HB3 := Lib.hid (HB2.out.trans (hb3.mono HB2.out.size))
      clear hb3
      go_wp2_with fail
      refine (new_none w3 A c n8 k fd q8 HN8.out HC3.out HD8.out dm HDM.out H0.out).mono ?_
      rintro e w4 ⟨rfl, hb4⟩
      obtain ⟨k0, k1, k2⟩ := (HBk3.out.kept hb4).three
      have HC4 := Lib.hid ((HC3.out.same (same_below hb4)).more hb4.size)
      have HB4 := Lib.hid (HB3.out.trans (hb4.mono HB3.out.size))
      clear hb4
      go_wp2_with fail
      refine (new_none w4 A c n8 k fd q8 HN8.out HC4.out HD8.out dm HDM.out H0.out).mono ?_
      rintro e w5 ⟨rfl, hb5⟩
      have HB5 := Lib.hid (HB4.out.trans (hb5.mono HB4.out.size))
      clear hb5
      go_wp2
      go_ret
      exact ⟨rfl, HB5.out⟩
    case' pos =>
      subst h0
      refine (new_some w2 A c n8 k fd q8 HN8.out HC2.out HD8.out HDM.out).mono ?_
      rintro e w3 ⟨⟨sb, mb, rfl, hst, hsb, hmb⟩, hb3⟩
      obtain ⟨k0, k1, k2⟩ := (HBk.out.kept hb3).three
      have HBk3 := Lib.hid (HBk.out.kept hb3)
      have HC3 := Lib.hid ((HC2.out.same (same_below hb3)).more hb3.size)
      have HB3 := Lib.hid (HB2.out.trans (hb3.mono HB2.out.size))
      have HST := Lib.hid hst
      have hmw := Lib.hid (Nat.le_trans HB2.out.size hmb)
      have hm3 := hst.map.lt
      clear hb3 hst hsb hmb
      go_wp2_with fail
      refine (new_some w3 A c n8 k fd q8 HN8.out HC3.out HD8.out HDM.out).mono ?_
      rintro e w4 ⟨⟨sb2, mb2, rfl, hst2, hsb2, hmb2⟩, hb4⟩
      obtain ⟨k0, k1, k2⟩ := (HBk3.out.kept hb4).three
      have HBk4 := Lib.hid (HBk3.out.kept hb4)
      have HC4 := Lib.hid ((HC3.out.same (same_below hb4)).more hb4.size)
      have HB4 := Lib.hid (HB3.out.trans (hb4.mono HB3.out.size))
      have HST := Lib.hid (HST.out.below hb4)
      have HST2 := Lib.hid hst2
      have hmw2 := Lib.hid (Nat.le_trans HB3.out.size hmb2)
      have hm4 := hst2.map.lt
      have hne12 := Lib.hid (show mb2 ≠ mb by omega)
      have hz4 := hb4.size
      clear hb4 hst2 hsb2 hmb2
      go_wp2_with fail
      refine (new_some w4 A c n8 k fd q8 HN8.out HC4.out HD8.out HDM.out).mono ?_
      rintro e w5 ⟨⟨sb3, mb3, rfl, hst3, hsb3, hmb3⟩, hb5⟩
      obtain ⟨k0, k1, k2⟩ := (HBk4.out.kept hb5).three
      have HBk5 := Lib.hid (HBk4.out.kept hb5)
      have HC5 := Lib.hid ((HC4.out.same (same_below hb5)).more hb5.size)
      have HB5 := Lib.hid (HB4.out.trans (hb5.mono HB4.out.size))
      have HST := Lib.hid (HST.out.below hb5)
      have HST2 := Lib.hid (HST2.out.below hb5)
      have HST3 := Lib.hid hst3
      have hmw3 := Lib.hid (Nat.le_trans HB4.out.size hmb3)
      have hne13 := Lib.hid (show mb3 ≠ mb by omega)
      have hne23 := Lib.hid (show mb3 ≠ mb2 by omega)
      have hel := Lib.hid (few_calls w5 A' c' l ((HE.out.same (same_below HB5.out)).more HB5.out.size) hn HS.out)
      clear hb5 hst3 hsb3 hmb3 hm3 hm4 hz4
      by_cases h3 : k = 3
      case' pos =>
        have hz : ((k : Int) == 3) = true := beq_iff_eq.2 h3
        clear h3
        go_wp2
        go_ret
        exact ⟨rfl, HB5.out⟩
      case' neg =>
        have hz : ((k : Int) == 3) = false := beq_eq_false_iff_ne.2 h3
        have H3 := Lib.hid h3
        clear h3
        go_wp2_with fail
        refine hel.out.mono ?_
        rintro e w7 ⟨⟨A7, c7, rfl, hev⟩, hb7⟩
        generalize hL : fewE l = L at hev HGO HLE
        have HST := Lib.hid (HST.out.below hb7)
        have HST2 := Lib.hid (HST2.out.below hb7)
        have HST3 := Lib.hid (HST3.out.below hb7)
        have HB7 := Lib.hid (HB5.out.trans (hb7.mono HB5.out.size))
        have HBk7 := Lib.hid (HBk5.out.kept hb7)
        have HC7 := Lib.hid ((HC5.out.same (same_below hb7)).more hb7.size)
        have hw0 := HBk7.out.lt
        have HEV := Lib.hid hev
        have hLn := HLE.out
        have HSQ := Lib.hid HD8.out.2.2.2
        have HSN := Lib.hid (norm_small HD8.out.2.2.2)
        have HNQ := Lib.hid (norm_match q8)
        generalize normQ q8 = nq at HST HST2 HST3 HSN HNQ
        clear hb7 hev hel hL k0 k1 k2
        go_wp2_with fail
        go_loopw [12, 13] (fun i _ wr => (∃ m : Nat, m ≤ L.length ∧ i = .int .i64 m ∧ St wr sb mb k fd nq (foldE k fd nq (L.take m)) ∧ St wr sb2 mb2 k fd nq (foldE k fd nq (L.reverse.take m)) ∧ St wr sb3 mb3 k fd nq (foldE k fd nq (L.take m))) ∧ Same w7.heap.size w7 wr ∧ w7.heap.size ≤ wr.heap.size ∧ Below w.heap.size w wr) (fun i _ _ => L.length - (intOf i).toNat)
        case atStart => exact ⟨⟨0, Nat.zero_le _, rfl, HST.out, HST2.out, HST3.out⟩, Same.refl _ _, Nat.le_refl _, HB7.out⟩
        case round =>
          obtain ⟨⟨m, hm, rfl, hSt, hSt2, hSt3⟩, hsm, hsz, hbr⟩ := hrel
          by_cases hlt : m < L.length
          · obtain ⟨x, hx⟩ := at_some hlt
            obtain ⟨j, hj⟩ : ∃ j, j = L.length - 1 - m := ⟨_, rfl⟩
            have hjl : j < L.length := by omega
            obtain ⟨y, hy⟩ := at_some hjl
            have hry : L.reverse[m]? = some y := by rw [rev_at hlt, ← hj]; exact hy
            have hwj1 : IntKind.i64.wrap ((L.length : Int) - 1) = (L.length : Int) - 1 := IntWalk.i64_in _ (by omega)
            have hwj2 : IntKind.i64.wrap ((L.length : Int) - 1 - (m : Int)) = (j : Int) := by rw [IntWalk.i64_in _ (by omega)]; omega
            have HJ := Lib.hid hj
            clear hj
            obtain ⟨b, off, tA, tc, fA, fc, rfl, hbb, ⟨p1, p2, p3, p4⟩, p5, p6⟩ := evts_at HEV.out hx
            obtain ⟨b2, off2, uA, uc, gA, gc, e2, -, ⟨r1, r2, r3, r4⟩, r5, r6⟩ := evts_at HEV.out hy
            cases e2
            have HX := Lib.hid hx
            have hgx := Lib.hid (HGO.out x (List.mem_of_getElem? hx))
            have hgy := Lib.hid (HGO.out y (List.mem_of_getElem? hy))
            have hlk : (L.take m).length ≤ 40 := by simp; omega
            have hlk2 : (L.reverse.take m).length ≤ 40 := by simp; omega
            have hrg : ∀ e ∈ L.reverse, e.Good := fun e he => HGO.out e (by simpa using he)
            have hok1 := Lib.hid (foldE_ok k fd nq (L.take m) (take_good HGO.out m)).1
            have hok2 := Lib.hid (foldE_ok k fd nq (L.reverse.take m) (take_good hrg m)).1
            have HF1 := Lib.hid (foldE_succ (k := k) (f := fd) (q := nq) hx)
            have HF2 := Lib.hid (foldE_succ (k := k) (f := fd) (q := nq) hry)
            have PX := Lib.hid (And.intro p1 (And.intro p2 (And.intro p3 p4)))
            have P5 := Lib.hid p5
            have P6 := Lib.hid p6
            have RY := Lib.hid (And.intro r1 (And.intro r2 (And.intro r3 r4)))
            have R5 := Lib.hid r5
            have R6 := Lib.hid r6
            have HS1 := Lib.hid hSt
            have HS2 := Lib.hid hSt2
            have HS3 := Lib.hid hSt3
            have HSM := Lib.hid hsm
            have HSZ := Lib.hid hsz
            have HBR := Lib.hid hbr
            have q1 := (hsm b (off + m * 4) hbb).trans p1
            have q2 := (hsm b (off + m * 4 + 1) hbb).trans p2
            have q3 := (hsm b (off + m * 4 + 2) hbb).trans p3
            have q4 := (hsm b (off + m * 4 + 3) hbb).trans p4
            clear hx hy hry hrg p1 p2 p3 p4 p5 p6 r1 r2 r3 r4 r5 r6 hSt hSt2 hSt3 hsm hsz hbr
            go_wp2_with fail
            refine (step_to wr sb mb k fd nq (foldE k fd nq (L.take m)) (L.take m).length x tA fA tc fc 0 0 HS1.out HSN.out hok1.out (by omega) ((P5.out.same HSM.out).more HSZ.out) ((P6.out.same HSM.out).more HSZ.out) hgx.out).mono ?_
            rintro e w8 ⟨rfl, hst', hm0, hg⟩
            obtain ⟨g1, g2, g3, g4⟩ := carry hg hm0 hst'.map
            have HS1 := Lib.hid hst'
            have HS2 := Lib.hid (g4 _ _ _ _ _ _ hne12.out HS2.out)
            have HS3 := Lib.hid (g4 _ _ _ _ _ _ hne13.out HS3.out)
            have HSM := Lib.hid (HSM.out.trans (g1.mono HSZ.out))
            have HSZ := Lib.hid (Nat.le_trans HSZ.out g2)
            have HBR := Lib.hid (below_grown HBR.out hg hmw.out)
            clear hst' hm0 hg g1 g2 g3 g4 q1 q2 q3 q4
            have q1 := (HSM.out b (off + j * 4) hbb).trans RY.out.1
            have q2 := (HSM.out b (off + j * 4 + 1) hbb).trans RY.out.2.1
            have q3 := (HSM.out b (off + j * 4 + 2) hbb).trans RY.out.2.2.1
            have q4 := (HSM.out b (off + j * 4 + 3) hbb).trans RY.out.2.2.2
            go_wp2_with fail
            refine (step_to w8 sb2 mb2 k fd nq (foldE k fd nq (L.reverse.take m)) (L.reverse.take m).length y uA gA uc gc 0 0 HS2.out HSN.out hok2.out (by omega) ((R5.out.same HSM.out).more HSZ.out) ((R6.out.same HSM.out).more HSZ.out) hgy.out).mono ?_
            rintro e w9 ⟨rfl, hst', hm0, hg⟩
            obtain ⟨g1, g2, g3, g4⟩ := carry hg hm0 hst'.map
            have HS2 := Lib.hid hst'
            have HS1 := Lib.hid (g4 _ _ _ _ _ _ (fun e => hne12.out e.symm) HS1.out)
            have HS3 := Lib.hid (g4 _ _ _ _ _ _ hne23.out HS3.out)
            have HSM := Lib.hid (HSM.out.trans (g1.mono HSZ.out))
            have HSZ := Lib.hid (Nat.le_trans HSZ.out g2)
            have HBR := Lib.hid (below_grown HBR.out hg hmw2.out)
            clear hst' hm0 hg g1 g2 g3 g4 q1 q2 q3 q4
            have q1 := (HSM.out b (off + m * 4) hbb).trans PX.out.1
            have q2 := (HSM.out b (off + m * 4 + 1) hbb).trans PX.out.2.1
            have q3 := (HSM.out b (off + m * 4 + 2) hbb).trans PX.out.2.2.1
            have q4 := (HSM.out b (off + m * 4 + 3) hbb).trans PX.out.2.2.2
            have k2 := (HSM.out w.heap.size 2 hw0).trans HBk7.out.three.2.2
            generalize hba : matchB q8 x = ba
            have HBA := Lib.hid hba
            clear hba
            have HMT := Lib.hid (match06_n w9.drew A c n8 q8 HN8.out x tA fA tc fc ((HC7.out.same HSM.out).more HSZ.out) HSQ.out ((P5.out.same HSM.out).more HSZ.out) (by have := hgx.out.2.1; omega) ba HBA.out)
            cases ba
            · go_wp2_with fail
              go_region_law (first | (go_simp; go_at_call 15; (with_reducible refine HMT.out.mono ?_); rintro e w10 ⟨rfl, hb10⟩))
              all_goals
                have hbu := undrew hb10
                have HS1 := Lib.hid (HS1.out.below hbu)
                have HS2 := Lib.hid (HS2.out.below hbu)
                have HS3 := Lib.hid (HS3.out.below hbu)
                have HSM := Lib.hid (HSM.out.trans ((same_below hbu).mono HSZ.out))
                have HBR := Lib.hid (HBR.out.trans (hbu.mono HBR.out.size))
                have HSZ := Lib.hid (Nat.le_trans HSZ.out hbu.size)
                clear hb10 hbu q1 q2 q3 q4 k2
                go_wp2
                go_roundw
                case rel =>
                  refine ⟨⟨m + 1, by omega, by go_num, by rw [HF1.out]; exact HS1.out, by rw [HF2.out]; exact HS2.out, ?_⟩, HSM.out, HSZ.out, HBR.out⟩
                  rw [HF1.out, step_skip (by rw [HNQ.out, HBA.out])]
                  exact HS3.out
                case measure => simp [intOf]; omega
            · go_wp2_with fail
              go_region_law (first | (go_simp; go_at_call 15; (with_reducible refine HMT.out.mono ?_); rintro e w10 ⟨rfl, hb10⟩))
              all_goals
                have hbu := undrew hb10
                have HS1 := Lib.hid (HS1.out.below hbu)
                have HS2 := Lib.hid (HS2.out.below hbu)
                have HS3 := Lib.hid (HS3.out.below hbu)
                have HSM := Lib.hid (HSM.out.trans ((same_below hbu).mono HSZ.out))
                have HBR := Lib.hid (HBR.out.trans (hbu.mono HBR.out.size))
                have HSZ := Lib.hid (Nat.le_trans HSZ.out hbu.size)
                clear hb10 hbu q1 q2 q3 q4 k2
                have q1 := (HSM.out b (off + m * 4) hbb).trans PX.out.1
                have q2 := (HSM.out b (off + m * 4 + 1) hbb).trans PX.out.2.1
                have q3 := (HSM.out b (off + m * 4 + 2) hbb).trans PX.out.2.2.1
                have q4 := (HSM.out b (off + m * 4 + 3) hbb).trans PX.out.2.2.2
                go_wp2_with fail
                refine (step_to w10 sb3 mb3 k fd nq (foldE k fd nq (L.take m)) (L.take m).length x tA fA tc fc 0 0 HS3.out HSN.out hok1.out (by omega) ((P5.out.same HSM.out).more HSZ.out) ((P6.out.same HSM.out).more HSZ.out) hgx.out).mono ?_
                rintro e w11 ⟨rfl, hst', hm0, hg⟩
                obtain ⟨g1, g2, g3, g4⟩ := carry hg hm0 hst'.map
                have HS3 := Lib.hid hst'
                have HS1 := Lib.hid (g4 _ _ _ _ _ _ (fun e => hne13.out e.symm) HS1.out)
                have HS2 := Lib.hid (g4 _ _ _ _ _ _ (fun e => hne23.out e.symm) HS2.out)
                have HSM := Lib.hid (HSM.out.trans (g1.mono HSZ.out))
                have HSZ := Lib.hid (Nat.le_trans HSZ.out g2)
                have HBR := Lib.hid (below_grown HBR.out hg hmw3.out)
                clear hst' hm0 hg g1 g2 g3 g4 q1 q2 q3 q4
                go_wp2
                go_roundw
                case rel => exact ⟨⟨m + 1, by omega, by go_num, by rw [HF1.out]; exact HS1.out, by rw [HF2.out]; exact HS2.out, by rw [HF1.out]; exact HS3.out⟩, HSM.out, HSZ.out, HBR.out⟩
                case measure => simp [intOf]; omega
          · obtain rfl : m = L.length := by omega
            rw [List.take_length] at hSt hSt3
            rw [List.take_of_length_le (by simp), fold_rev H3.out fd nq L HGO.out hLn] at hSt2
            obtain ⟨hok, hkey⟩ := foldE_ok k fd nq L HGO.out
            have hEn : (foldE k fd nq L).length ≤ 1048576 := by have := hok.1; omega
            have K1 := Lib.hid hkey
            have HS1 := Lib.hid hSt
            have HS2 := Lib.hid hSt2
            have HS3 := Lib.hid hSt3
            have HBR := Lib.hid hbr
            generalize foldE k fd nq L = E at HS1 HS2 HS3 K1 hEn
            clear hSt hSt2 hSt3 hbr hkey hok hsm hsz
            go_wp2_with fail
            refine (entries_calls wr sb mb k fd nq E HS1.out hEn K1.out).mono ?_
            rintro e w8 ⟨⟨A8, c8, rfl, hfl⟩, hb8⟩
            have HS1 := Lib.hid (HS1.out.below hb8)
            have HS2 := Lib.hid (HS2.out.below hb8)
            have HS3 := Lib.hid (HS3.out.below hb8)
            have HBR := Lib.hid (HBR.out.trans (hb8.mono HBR.out.size))
            have HFL := Lib.hid hfl
            clear hfl hb8
            go_wp2_with fail
            refine (entries_calls w8 sb2 mb2 k fd nq E HS2.out hEn K1.out).mono ?_
            rintro e w9 ⟨⟨A9, c9, rfl, hfl⟩, hb9⟩
            have HS1 := Lib.hid (HS1.out.below hb9)
            have HS3 := Lib.hid (HS3.out.below hb9)
            have HBR := Lib.hid (HBR.out.trans (hb9.mono HBR.out.size))
            have HSAME := Lib.hid (same15_calls w9 A8 A9 c8 c9 E ((HFL.out.same (same_below hb9)).more hb9.size) hfl hEn)
            clear hfl hb9
            go_wp2_with fail
            refine HSAME.out.mono ?_
            rintro e w10 ⟨rfl, hb10⟩
            have HS1 := Lib.hid (HS1.out.below hb10)
            have HS3 := Lib.hid (HS3.out.below hb10)
            have HBR := Lib.hid (HBR.out.trans (hb10.mono HBR.out.size))
            clear hb10
            go_wp2_with fail
            refine (entries_calls w10 sb mb k fd nq E HS1.out hEn K1.out).mono ?_
            rintro e w11 ⟨⟨A11, c11, rfl, hfl⟩, hb11⟩
            have HS3 := Lib.hid (HS3.out.below hb11)
            have HBR := Lib.hid (HBR.out.trans (hb11.mono HBR.out.size))
            have HFL2 := Lib.hid hfl
            clear hfl hb11
            go_wp2_with fail
            refine (entries_calls w11 sb3 mb3 k fd nq E HS3.out hEn K1.out).mono ?_
            rintro e w12 ⟨⟨A12, c12, rfl, hfl⟩, hb12⟩
            have HBR := Lib.hid (HBR.out.trans (hb12.mono HBR.out.size))
            have HSAME2 := Lib.hid (same15_calls w12 A11 A12 c11 c12 E ((HFL2.out.same (same_below hb12)).more hb12.size) hfl hEn)
            clear hfl hb12
            go_wp2_with fail
            refine HSAME2.out.mono ?_
            rintro e w13 ⟨rfl, hb13⟩
            have HBR := Lib.hid (HBR.out.trans (hb13.mono HBR.out.size))
            clear hb13
            go_wp2
            go_ret
            exact ⟨rfl, HBR.out⟩
end Go.Proofs.Ytdonhmdeijidkaa
