/-
  Walk: FoldCounts.
-/
import Derived.Test.YtdonhmdeijidkaaLawD
import Derived.Test.YtdonhmdeijidkaaLawE
import Derived.Test.YtdonhmdeijidkaaLawN
namespace Go.Proofs.Ytdonhmdeijidkaa
open Go.RowKit Go.Maps

theorem six_cells {w : World} {g : Nat} {t : TypeId} {a b c d e f : Value} (h : Blk w g t #[a, b, c, d, e, f]) : w.cell? ⟨g, 0, none⟩ = some a ∧ w.cell? ⟨g, 1, none⟩ = some b ∧ w.cell? ⟨g, 2, none⟩ = some c ∧ w.cell? ⟨g, 3, none⟩ = some d ∧ w.cell? ⟨g, 4, none⟩ = some e ∧ w.cell? ⟨g, 5, none⟩ = some f :=
  ⟨h.cell 0, h.cell 1, h.cell 2, h.cell 3, h.cell 4, h.cell 5⟩
theorem number_is (w : World) (A : Option Addr) (c : Nat) (E : Ents) (key : Str) (v : Int) (h : Flds w w.heap.size A E) (hn : E.length ≤ 1048576) (hv : getE E key = v) :
    Calls Try.prog 13 #[.slice A E.length c, vS key] w fun e w' => e = .returned (.int .i64 v) ∧ w = w' :=
  (number_calls w A c E key h hn).mono fun _ _ ⟨h1, h2⟩ => ⟨by rw [h1, hv], h2.symm⟩

theorem carry {w w' : World} {mb : Nat} {E E' : Ents} (hg : w.grownBy w' (some mb)) (hm0 : MapIs w mb E) (hm : MapIs w' mb E') : Same w.heap.size w w' ∧ w.heap.size ≤ w'.heap.size ∧ (∀ g t cs, Blk w g t cs → Blk w' g t cs) ∧
    (∀ sb2 mb2 k2 f2 q2 F, mb2 ≠ mb → St w sb2 mb2 k2 f2 q2 F → St w' sb2 mb2 k2 f2 q2 F) :=
  ⟨same_turn hg hm0 hm, hg.size, fun _ _ _ h => h.turn hm0 hg, fun _ _ _ _ _ _ hne h => St.other (sb := 0) (k := 0) (f := []) (q := []) h hm0 hg hm hne⟩

set_option maxRecDepth 100000 in
set_option maxHeartbeats 8000000 in
theorem counts_law_calls (w : World) (A : Option Addr) (c : Nat) (l : List Ev) (a s : Str) (h : Evts w w.heap.size A l) (hn : l.length ≤ 1048576) (hs : ∀ e ∈ l, e.Small) (hal : a.length ≤ 1048576) (hsl : s.length ≤ 1048576) :
    Calls Try.prog 3 #[.slice A l.length c, vS a, vS s] w fun e w' => e = .returned (.bool true) ∧ Below w.heap.size w w' := by
  have HE := Lib.hid h
  have HS := Lib.hid hs
  have HGO := Lib.hid (few_good hs)
  have HLE := Lib.hid (few_len l)
  have HNA := Lib.hid (few_named l)
  clear h hs
  go_enter Try.func3, Try.ntmps3
  go_wp2_with fail
  refine (shown_calls w).mono ?_
  rintro e w0 ⟨rfl, hb0⟩
  go_wp2_with fail
  refine (all_calls w0).mono ?_
  rintro e w1 ⟨⟨A1, c1, rfl, hq1⟩, hb1⟩
  go_wp2_with fail
  refine (new_all w1 A1 c1 1 [] hq1 (df_small 1 [] (by decide) (by decide) (by decide)) may_count).mono ?_
  rintro e w2 ⟨⟨sb, mb, rfl, hst, hsb, hmb⟩, hb2⟩
  have hbw1 := hb0.trans (hb1.mono hb0.size)
  have hbw2 := Lib.hid (hbw1.trans (hb2.mono hbw1.size))
  have hmw := Lib.hid (Nat.le_trans hbw1.size hmb)
  have HST := Lib.hid hst
  clear hq1 hb0 hb1 hb2 hbw1 hst hsb hmb
  go_wp2_with fail
  refine (all_calls w2).mono ?_
  rintro e w3 ⟨⟨A2, c2, rfl, hq2⟩, hb3⟩
  go_wp2_with fail
  refine (new_all w3 A2 c2 2 [110] hq2 (df_small 2 [110] (by decide) (by decide) (by decide)) may_sum).mono ?_
  rintro e w4 ⟨⟨sb2, mb2, rfl, hst2, hsb2, hmb2⟩, hb4⟩
  have hb24 := hb3.trans (hb4.mono hb3.size)
  have HST := Lib.hid (HST.out.below hb24)
  have HST2 := Lib.hid hst2
  have hbw4 := Lib.hid (hbw2.out.trans (hb24.mono hbw2.out.size))
  have hmw2 := Lib.hid (Nat.le_trans hbw2.out.size (Nat.le_trans hb3.size hmb2))
  have hm12 : mb < w3.heap.size := by have := HST.out.map.lt; have := (‹Hid (St w2 sb mb 1 [] allQ [])›).out.map.lt; have := hb3.size; omega
  have hne12 := Lib.hid (show mb2 ≠ mb by omega)
  clear hq2 hb3 hb4 hb24 hst2 hsb2 hmb2 hm12
  go_wp2_with fail
  refine (all_calls w4).mono ?_
  rintro e w5 ⟨⟨A3, c3, rfl, hq3⟩, hb5⟩
  go_wp2_with fail
  refine (new_all w5 A3 c3 4 [] hq3 (df_small 4 [] (by decide) (by decide) (by decide)) may_members).mono ?_
  rintro e w6 ⟨⟨sb3, mb3, rfl, hst3, hsb3, hmb3⟩, hb6⟩
  have hb46 := hb5.trans (hb6.mono hb5.size)
  have hm1 := HST.out.map.lt
  have hm2 := HST2.out.map.lt
  have HST := Lib.hid (HST.out.below hb46)
  have HST2 := Lib.hid (HST2.out.below hb46)
  have HST3 := Lib.hid hst3
  have hbw6 := Lib.hid (hbw4.out.trans (hb46.mono hbw4.out.size))
  have hmw3 := Lib.hid (Nat.le_trans hbw4.out.size (Nat.le_trans hb5.size hmb3))
  have hne13 := Lib.hid (show mb3 ≠ mb by have := hb5.size; omega)
  have hne23 := Lib.hid (show mb3 ≠ mb2 by have := hb5.size; omega)
  have hel := Lib.hid (few_calls w6 A c l ((HE.out.same (same_below hbw6.out)).more hbw6.out.size) hn HS.out)
  clear hq3 hb5 hb6 hb46 hst3 hsb3 hmb3 hm1 hm2
  go_wp2_with fail
  refine hel.out.mono ?_
  rintro e w7 ⟨⟨A7, c7, rfl, hev⟩, hb7⟩
  generalize hL : fewE l = L at hev HGO HLE HNA
  have HST := Lib.hid (HST.out.below hb7)
  have HST2 := Lib.hid (HST2.out.below hb7)
  have HST3 := Lib.hid (HST3.out.below hb7)
  have hbw7 := Lib.hid (hbw6.out.trans (hb7.mono hbw6.out.size))
  have HEV := Lib.hid hev
  have hLn := HLE.out
  clear hb7 hev hel hL
  go_wp2_with fail
  go_loopw [14, 15, 16, 17, 18, 19, 20] (fun sm mn i _ _ _ _ wr => (∃ k : Nat, k ≤ L.length ∧ i = .int .i64 k ∧ sm = .int .i64 (sumN [110] (L.take k)) ∧ mn = .int .i64 (manyN a s (L.take k)) ∧
      St wr sb mb 1 [] allQ (foldE 1 [] allQ (L.take k)) ∧ St wr sb2 mb2 2 [110] allQ (foldE 2 [110] allQ (L.take k)) ∧ St wr sb3 mb3 4 [] allQ (foldE 4 [] allQ (L.take k))) ∧ Same w7.heap.size w7 wr ∧ w7.heap.size ≤ wr.heap.size ∧ Below w.heap.size w wr) (fun _ _ i _ _ _ _ _ => L.length - (intOf i).toNat)
  case atStart =>
    exact ⟨⟨0, Nat.zero_le _, rfl, rfl, rfl, HST.out, HST2.out, HST3.out⟩, Same.refl _ _, Nat.le_refl _, hbw7.out⟩
  case round =>
    obtain ⟨⟨k, hk, rfl, rfl, rfl, hSt, hSt2, hSt3⟩, hsm, hsz, hbr⟩ := hrel
    by_cases hlt : k < L.length
    · obtain ⟨x, hx⟩ := at_some hlt
      obtain ⟨b, off, tA, tc, fA, fc, rfl, hbb, ⟨p1, p2, p3, p4⟩, p5, p6⟩ := evts_at HEV.out hx
      have HX := Lib.hid hx
      have hgood := Lib.hid (HGO.out x (List.mem_of_getElem? hx))
      have hlk : (L.take k).length ≤ 40 := by simp; omega
      have hok1 := Lib.hid (foldE_ok 1 [] allQ (L.take k) (take_good HGO.out k)).1
      have hok2 := Lib.hid (foldE_ok 2 [110] allQ (L.take k) (take_good HGO.out k)).1
      have hok3 := Lib.hid (foldE_ok 4 [] allQ (L.take k) (take_good HGO.out k)).1
      have P := Lib.hid (And.intro p1 (And.intro p2 (And.intro p3 p4)))
      have P5 := Lib.hid p5
      have P6 := Lib.hid p6
      have hal := Lib.hid (alloc_below wr (.cells #[.int .i64 0, .int .i64 0, vS x.stream, vS x.typ, .slice tA x.tags.length tc, .slice fA x.flds.length fc] 40))
      have hBk := Lib.hid (Blk.new wr 40 #[.int .i64 0, .int .i64 0, vS x.stream, vS x.typ, .slice tA x.tags.length tc, .slice fA x.flds.length fc])
      have q1 := (hsm b (off + k * 4) hbb).trans p1
      have q2 := (hsm b (off + k * 4 + 1) hbb).trans p2
      have q3 := (hsm b (off + k * 4 + 2) hbb).trans p3
      have q4 := (hsm b (off + k * 4 + 3) hbb).trans p4
      obtain ⟨w8, hw8⟩ : ∃ y, y = wr.alloc (.cells #[.int .i64 0, .int .i64 0, vS x.stream, vS x.typ, .slice tA x.tags.length tc, .slice fA x.flds.length fc] 40) := ⟨_, rfl⟩
      rw [← hw8] at hal hBk
      have HS1 := Lib.hid (hSt.below hal.out)
      have HS2 := Lib.hid (hSt2.below hal.out)
      have HS3 := Lib.hid (hSt3.below hal.out)
      have HSM := Lib.hid (hsm.trans ((same_below hal.out).mono hsz))
      have HSZ := Lib.hid (Nat.le_trans hsz hal.out.size)
      have HBR := Lib.hid (hbr.trans (hal.out.mono hbr.size))
      obtain ⟨r0, r1, r2, r3, r4, r5⟩ := six_cells hBk.out
      have hgz := Lib.hid hsz
      have HW8 := Lib.hid hw8
      clear hx p1 p2 p3 p4 p5 p6 hSt hSt2 hSt3 hsm hbr hsz hw8
      go_wp2_with fail
      rw [← HW8.out]
      clear HW8
      go_wp2_with fail
      refine (step_to w8 sb mb 1 [] allQ (foldE 1 [] allQ (L.take k)) (L.take k).length x tA fA tc fc 0 0 HS1.out allQ_small hok1.out (by omega) ((P5.out.same HSM.out).more HSZ.out) ((P6.out.same HSM.out).more HSZ.out) hgood.out).mono ?_
      rintro e w9 ⟨rfl, hst', hm0, hg⟩
      obtain ⟨g1, g2, g3, g4⟩ := carry hg hm0 hst'.map
      have HS1 := Lib.hid hst'
      have HS2 := Lib.hid (g4 _ _ _ _ _ _ hne12.out HS2.out)
      have HS3 := Lib.hid (g4 _ _ _ _ _ _ hne13.out HS3.out)
      have HSM := Lib.hid (HSM.out.trans (g1.mono HSZ.out))
      have HSZ := Lib.hid (Nat.le_trans HSZ.out g2)
      have HBR := Lib.hid (below_grown HBR.out hg hmw.out)
      have hBk := Lib.hid (g3 _ _ _ hBk.out)
      clear hst' hm0 hg g1 g2 g3 g4 r0 r1 r2 r3 r4 r5
      obtain ⟨r0, r1, r2, r3, r4, r5⟩ := six_cells hBk.out
      go_wp2_with fail
      refine (step_to w9 sb2 mb2 2 [110] allQ (foldE 2 [110] allQ (L.take k)) (L.take k).length x tA fA tc fc 0 0 HS2.out allQ_small hok2.out (by omega) ((P5.out.same HSM.out).more HSZ.out) ((P6.out.same HSM.out).more HSZ.out) hgood.out).mono ?_
      rintro e w10 ⟨rfl, hst', hm0, hg⟩
      obtain ⟨g1, g2, g3, g4⟩ := carry hg hm0 hst'.map
      have HS2 := Lib.hid hst'
      have HS1 := Lib.hid (g4 _ _ _ _ _ _ (fun e => hne12.out e.symm) HS1.out)
      have HS3 := Lib.hid (g4 _ _ _ _ _ _ hne23.out HS3.out)
      have HSM := Lib.hid (HSM.out.trans (g1.mono HSZ.out))
      have HSZ := Lib.hid (Nat.le_trans HSZ.out g2)
      have HBR := Lib.hid (below_grown HBR.out hg hmw2.out)
      have hBk := Lib.hid (g3 _ _ _ hBk.out)
      clear hst' hm0 hg g1 g2 g3 g4 r0 r1 r2 r3 r4 r5
      obtain ⟨r0, r1, r2, r3, r4, r5⟩ := six_cells hBk.out
      go_wp2_with fail
      refine (step_to w10 sb3 mb3 4 [] allQ (foldE 4 [] allQ (L.take k)) (L.take k).length x tA fA tc fc 0 0 HS3.out allQ_small hok3.out (by omega) ((P5.out.same HSM.out).more HSZ.out) ((P6.out.same HSM.out).more HSZ.out) hgood.out).mono ?_
      rintro e w11 ⟨rfl, hst', hm0, hg⟩
      obtain ⟨g1, g2, g3, g4⟩ := carry hg hm0 hst'.map
      have HS3 := Lib.hid hst'
      have HS1 := Lib.hid (g4 _ _ _ _ _ _ (fun e => hne13.out e.symm) HS1.out)
      have HS2 := Lib.hid (g4 _ _ _ _ _ _ (fun e => hne23.out e.symm) HS2.out)
      have HSM := Lib.hid (HSM.out.trans (g1.mono HSZ.out))
      have HSZ := Lib.hid (Nat.le_trans HSZ.out g2)
      have HBR := Lib.hid (below_grown HBR.out hg hmw3.out)
      clear hst' hm0 hg g1 g2 g3 g4 r0 r1 r2 r3 r4 r5 hBk q1 q2 q3 q4
      have q1 := (HSM.out b (off + k * 4) hbb).trans P.out.1
      have q2 := (HSM.out b (off + k * 4 + 1) hbb).trans P.out.2.1
      have q3 := (HSM.out b (off + k * 4 + 2) hbb).trans P.out.2.2.1
      have q4 := (HSM.out b (off + k * 4 + 3) hbb).trans P.out.2.2.2
      go_wp2_with fail
      refine (value04_calls w11 x.stream x.typ [110] tA fA x.tags.length tc fc x.flds ((P6.out.same HSM.out).more HSZ.out) hgood.out.2.2.2.1).mono ?_
      rintro e w12 ⟨rfl, hb12⟩
      have HS1 := Lib.hid (HS1.out.below hb12)
      have HS2 := Lib.hid (HS2.out.below hb12)
      have HS3 := Lib.hid (HS3.out.below hb12)
      have HSM := Lib.hid (HSM.out.trans ((same_below hb12).mono HSZ.out))
      have HBR := Lib.hid (HBR.out.trans (hb12.mono HBR.out.size))
      have HSZ := Lib.hid (Nat.le_trans HSZ.out hb12.size)
      clear hb12 q1 q2 q3 q4
      have q1 := (HSM.out b (off + k * 4) hbb).trans P.out.1
      have q2 := (HSM.out b (off + k * 4 + 1) hbb).trans P.out.2.1
      have q3 := (HSM.out b (off + k * 4 + 2) hbb).trans P.out.2.2.1
      have q4 := (HSM.out b (off + k * 4 + 3) hbb).trans P.out.2.2.2
      have hsl := sumN_le [110] (L.take k) (take_good HGO.out k) hlk
      have hvl := hgood.out.val [110]
      have hwr : IntKind.i64.wrap (sumN [110] (L.take k) + (fieldOf x.flds [110]).getD 0) = sumN [110] (L.take k) + (fieldOf x.flds [110]).getD 0 := IntWalk.i64_in _ (by omega)
      clear hsl hvl
      go_wp2_with fail
      refine (has04_calls w12 x.stream x.typ a tA fA x.flds.length tc fc x.tags ((P5.out.same HSM.out).more HSZ.out) (by have := hgood.out.2.1; omega)).mono ?_
      rintro e w13 ⟨rfl, hb13⟩
      have HS1 := Lib.hid (HS1.out.below hb13)
      have HS2 := Lib.hid (HS2.out.below hb13)
      have HS3 := Lib.hid (HS3.out.below hb13)
      have HSM := Lib.hid (HSM.out.trans ((same_below hb13).mono HSZ.out))
      have HBR := Lib.hid (HBR.out.trans (hb13.mono HBR.out.size))
      have HSZ := Lib.hid (Nat.le_trans HSZ.out hb13.size)
      clear hb13 q1 q2 q3 q4
      have q1 := (HSM.out b (off + k * 4) hbb).trans P.out.1
      have hml := manyN_le a s (L.take k)
      have hwm : IntKind.i64.wrap (manyN a s (L.take k) + 1) = manyN a s (L.take k) + 1 := IntWalk.i64_in _ (by omega)
      clear hml
      generalize hha : x.tags.any (· == a) = ha
      have HHA := Lib.hid hha
      clear hha
      have HSUM := Lib.hid (sumN_succ (f := [110]) HX.out)
      have HMANY := Lib.hid (manyN_succ (a := a) (b := s) HX.out)
      have HF1 := Lib.hid (foldE_succ (k := 1) (f := []) (q := allQ) HX.out)
      have HF2 := Lib.hid (foldE_succ (k := 2) (f := [110]) (q := allQ) HX.out)
      have HF3 := Lib.hid (foldE_succ (k := 4) (f := []) (q := allQ) HX.out)
      by_cases hxs : x.stream = s
      · rw [hxs] at q1
        have HXS := Lib.hid hxs
        clear hxs
        cases ha
        · go_wp2
          go_roundw
          case rel =>
            refine ⟨⟨k + 1, by omega, by go_num, by rw [HSUM.out], ?_, by rw [HF1.out]; exact HS1.out, by rw [HF2.out]; exact HS2.out, by rw [HF3.out]; exact HS3.out⟩, HSM.out, HSZ.out, HBR.out⟩
            rw [HMANY.out, HHA.out]; simp
          case measure => simp [intOf]; omega
        · go_wp2
          go_roundw
          case rel =>
            refine ⟨⟨k + 1, by omega, by go_num, by rw [HSUM.out], ?_, by rw [HF1.out]; exact HS1.out, by rw [HF2.out]; exact HS2.out, by rw [HF3.out]; exact HS3.out⟩, HSM.out, HSZ.out, HBR.out⟩
            rw [HMANY.out, HHA.out, if_pos ⟨rfl, HXS.out⟩]
          case measure => simp [intOf]; omega
      · have hz : (x.stream == s) = false := beq_eq_false_iff_ne.2 hxs
        have HXS := Lib.hid hxs
        clear hxs
        cases ha
        all_goals
          go_wp2
          go_roundw
          case rel =>
            refine ⟨⟨k + 1, by omega, by go_num, by rw [HSUM.out], ?_, by rw [HF1.out]; exact HS1.out, by rw [HF2.out]; exact HS2.out, by rw [HF3.out]; exact HS3.out⟩, HSM.out, HSZ.out, HBR.out⟩
            rw [HMANY.out, if_neg (fun h => HXS.out h.2)]
          case measure => simp [intOf]; omega
    · obtain rfl : k = L.length := by omega
      rw [List.take_length] at hSt hSt2 hSt3
      rw [List.take_length]
      obtain ⟨hok1, hkey1⟩ := foldE_ok 1 [] allQ L HGO.out
      obtain ⟨hok2, hkey2⟩ := foldE_ok 2 [110] allQ L HGO.out
      obtain ⟨hok3, hkey3⟩ := foldE_ok 4 [] allQ L HGO.out
      have hn1 : (foldE 1 [] allQ L).length ≤ 1048576 := by have := hok1.1; omega
      have hn2 : (foldE 2 [110] allQ L).length ≤ 1048576 := by have := hok2.1; omega
      have hn3 : (foldE 4 [] allQ L).length ≤ 1048576 := by have := hok3.1; omega
      have F1 := Lib.hid (fold_count L)
      have F2 := Lib.hid (fold_sum [110] L HGO.out hLn)
      have F3 := Lib.hid (fold_many a s L HNA.out)
      have HS1 := Lib.hid hSt
      have HS2 := Lib.hid hSt2
      have HS3 := Lib.hid hSt3
      have HBR := Lib.hid hbr
      have K1 := Lib.hid hkey1
      have K2 := Lib.hid hkey2
      have K3 := Lib.hid hkey3
      generalize foldE 1 [] allQ L = E1 at HS1 F1 K1 hn1
      generalize foldE 2 [110] allQ L = E2 at HS2 F2 K2 hn2
      generalize foldE 4 [] allQ L = E3 at HS3 F3 K3 hn3
      generalize sumN [110] L = sN at F2 ⊢
      generalize manyN a s L = mN at F3 ⊢
      have hcat : (⟨a.toArray⟩ ++ ⟨#[32]⟩ ++ ⟨s.toArray⟩ : ByteArray) = ⟨(a ++ [32] ++ s).toArray⟩ := by apply ByteArray.ext; simp
      generalize hky : a ++ [32] ++ s = key at hcat F3
      clear hSt hSt2 hSt3 hbr hkey1 hkey2 hkey3 hok1 hok2 hok3 hsm hsz hky
      go_wp2_with fail
      refine (entries_calls wr sb mb 1 [] allQ E1 HS1.out hn1 K1.out).mono ?_
      rintro e w8 ⟨⟨A8, c8, rfl, hfl⟩, hb8⟩
      have HS2 := Lib.hid (HS2.out.below hb8)
      have HS3 := Lib.hid (HS3.out.below hb8)
      have HBR := Lib.hid (HBR.out.trans (hb8.mono HBR.out.size))
      have HN := Lib.hid (number_is w8 A8 c8 E1 [] _ hfl hn1 F1.out)
      clear hfl hb8
      go_wp2_with fail
      refine HN.out.mono ?_
      rintro e w9 ⟨rfl, rfl⟩
      go_wp2_with fail
      refine (entries_calls w8 sb2 mb2 2 [110] allQ E2 HS2.out hn2 K2.out).mono ?_
      rintro e w10 ⟨⟨A10, c10, rfl, hfl⟩, hb10⟩
      have HS3 := Lib.hid (HS3.out.below hb10)
      have HBR := Lib.hid (HBR.out.trans (hb10.mono HBR.out.size))
      have HN2 := Lib.hid (number_is w10 A10 c10 E2 [] _ hfl hn2 F2.out)
      clear hfl hb10
      go_wp2_with fail
      refine HN2.out.mono ?_
      rintro e w11 ⟨rfl, rfl⟩
      go_wp2_with fail
      refine (entries_calls w10 sb3 mb3 4 [] allQ E3 HS3.out hn3 K3.out).mono ?_
      rintro e w12 ⟨⟨A12, c12, rfl, hfl⟩, hb12⟩
      have HBR := Lib.hid (HBR.out.trans (hb12.mono HBR.out.size))
      have HN3 := Lib.hid (number_is w12 A12 c12 E3 key _ hfl hn3 F3.out)
      clear hfl hb12
      go_wp2_with fail
      refine HN3.out.mono ?_
      rintro e w13 ⟨rfl, rfl⟩
      go_wp2
      go_ret
      exact ⟨rfl, HBR.out⟩
end Go.Proofs.Ytdonhmdeijidkaa
