/-
  Walk: FoldPlays.
-/
import Derived.Test.YtdonhmdeijidkaaGreatLawJ
namespace Go.Proofs.YtdonhmdeijidkaaGreat
open Go.RowKit Go.Maps
attribute [local go_sem ↓] Go.wp_at_zero Go.wp_at_succ

/-- What holds at the head of each round. -/
structure PlayAt (w w7 wr : World) (B rb : Nat) (k : Int) (f : Str) (q : List Cl) (E : Ents) (s : Value) : Prop where
  st : ∃ sb mb, s = .pointer (some ⟨sb, 0, none⟩) ∧ StB wr B sb mb k f (normQ q) E ∧ w.heap.size ≤ mb
  ref : RSt wr w.heap.size rb k f q E
  far : Far3 w7.heap.size rb w7 wr
  size : w7.heap.size ≤ wr.heap.size
  below : Below w.heap.size w wr
theorem PlayAt.mono {w w7 wr w' : World} {B rb : Nat} {k : Int} {f : Str} {q : List Cl} {E : Ents} {s : Value} (h : PlayAt w w7 wr B rb k f q E s) (hb : Below wr.heap.size wr w') : PlayAt w w7 w' B rb k f q E s := by
  obtain ⟨⟨sb, mb, h1, h2, h3⟩, h4, h5, h6, h7⟩ := h
  exact ⟨⟨sb, mb, h1, h2.below hb, h3⟩, h4.below hb, h5.same (same_below hb) h6, Nat.le_trans h6 hb.size, h7.trans (hb.mono h7.size)⟩

set_option maxRecDepth 100000 in
set_option maxHeartbeats 16000000 in
theorem plays_law_calls (w : World) (A : Option Addr) (c : Nat) (d : Df) (A2 : Option Addr) (c2 : Nat) (l : Ents) (A' : Option Addr) (c' : Nat) (ev : List Ev) (hq : Cls w w.heap.size A d.q) (hd : d.Small) (hcap : d.q.length ≤ c)
    (hl : Flds w w.heap.size A2 l) (hln : l.length ≤ 1048576) (hlc : l.length ≤ c2) (hl0 : A2 = none → l.length = 0 ∧ c2 = 0) (hls : ∀ x ∈ l, x.1.length ≤ 1048576 ∧ -9223372036854775808 ≤ x.2 ∧ x.2 ≤ 9223372036854775807)
    (h : Evts w w.heap.size A' ev) (hn : ev.length ≤ 1048576) (hs : ∀ e ∈ ev, e.Small) :
    Calls Tryz.prog 3 #[.agg (cDf A c d), .slice A2 l.length c2, .slice A' ev.length c'] w fun e w' => e = .returned (.bool true) ∧ Below w.heap.size w w' := by
  obtain ⟨k, fd, q⟩ := d
  simp only at hq hcap
  obtain ⟨q8, hq8⟩ : ∃ y, y = q.take 8 := ⟨_, rfl⟩
  obtain ⟨l30, hl30⟩ : ∃ y, y = l.take 30 := ⟨_, rfl⟩
  have hd8 : Df.Small ⟨k, fd, q8⟩ := hq8 ▸ hd.cut 8
  have hc8 : Cls w w.heap.size A q8 := hq8 ▸ hq.take 8
  have hf30 : Flds w w.heap.size A2 l30 := hl30 ▸ hl.take 30
  have hn30 : l30.length ≤ 30 := by rw [hl30, List.length_take]; omega
  have hs30 : ∀ x ∈ l30, x.1.length ≤ 4194304 ∧ -9223372036854775808 ≤ x.2 ∧ x.2 ≤ 9223372036854775807 := fun x hx => by
    rw [hl30] at hx
    have := hls x (List.mem_of_mem_take hx)
    exact ⟨by omega, this.2⟩
  have hz30 : A2 = none → l30.length = 0 ∧ c2 = 0 := fun e => by have := hl0 e; exact ⟨by rw [hl30, List.length_take]; omega, this.2⟩
  obtain ⟨w1, hw1⟩ : ∃ y, y = w.alloc (.cells (cDf A c ⟨k, fd, q⟩) 26) := ⟨_, rfl⟩
  have hb1 : Below w.heap.size w w1 := hw1 ▸ (Below.refl w.heap.size w).alloc (Nat.le_refl _) _
  have hBk : Blk w1 w.heap.size 26 #[.int .i64 k, vS fd, .slice A q.length c] := hw1 ▸ Blk.new _ _ _
  have HENT := Lib.hid (fun (W : World) (hW : Below w.heap.size w W) => entries15_calls W A2 c2 l ((hl.same (same_below hW)).more hW.size) hln hlc)
  have HC8 := Lib.hid hc8
  have HD8 := Lib.hid hd8
  have HB1 := Lib.hid hb1
  have HBk := Lib.hid hBk
  have HE := Lib.hid h
  have HS := Lib.hid hs
  have HGO := Lib.hid (few_good hs)
  have HLE := Lib.hid (few_len ev)
  have HQ := Lib.hid hq
  have HQ8 := Lib.hid hq8
  have HL30 := Lib.hid hl30
  have HF30 := Lib.hid hf30
  have HS30 := Lib.hid hs30
  have HZ30 := Lib.hid hz30
  have HW1 := Lib.hid hw1
  clear h hs hq hd hd8 hc8 hb1 hBk hq8 hw1 hl hln hlc hl0 hls hf30 hs30 hz30 hl30
  go_enter Tryz.func3, Tryz.ntmps3
  go_wp2_with fail
  rw [← HW1.out]
  clear HW1
  refine (shown_calls w1).mono ?_
  rintro e w2 ⟨rfl, hb2⟩
  have HBk := Lib.hid (HBk.out.kept hb2)
  have HB2 := Lib.hid (HB1.out.trans (hb2.mono HB1.out.size))
  obtain ⟨k0, k1, k2⟩ := HBk.out.three
  have hf2 := HBk.out.frozen 2
  clear hb2
  by_cases h8 : 8 < q.length
  case' pos =>
    obtain ⟨b, off, rfl, hbb, -⟩ := HQ.out (ne_nil_of (k := 0) (by omega))
    have hcc : 8 ≤ c := by omega
    have HBk : Hid (Blk (w2.setCell ⟨w.heap.size, 2, none⟩ (.slice (some ⟨b, off, none⟩) 8 c)) w.heap.size 26 #[.int .i64 k, vS fd, .slice (some ⟨b, off, none⟩) 8 c]) := Lib.hid (HBk.out.set_ 2 (.slice (some ⟨b, off, none⟩) 8 c))
    obtain ⟨k0', k1', k2'⟩ := HBk.out.three
    have HB2 := Lib.hid (HB2.out.setCell (p := ⟨w.heap.size, 2, none⟩) (Nat.le_refl _) (.slice (some ⟨b, off, none⟩) 8 c))
    have hn8 : q8.length = 8 := by rw [HQ8.out, List.length_take]; omega
    go_wp2_with fail
    clear k0 k1 k2 hf2 k0' k1' k2' hcc hbb HQ
    generalize w2.setCell ⟨w.heap.size, 2, none⟩ (.slice (some ⟨b, off, none⟩) 8 c) = w2 at *
    generalize (some ⟨b, off, none⟩ : Option Addr) = A at *
    generalize (8 : Nat) = n8 at hn8 HBk ⊢
  case' neg =>
    have hn8 : q8.length = q.length := by rw [HQ8.out, List.take_of_length_le (by omega)]
    go_wp2_with fail
    clear k0 k1 k2 hf2 HQ
    generalize q.length = n8 at hn8 HBk ⊢
  all_goals
    have HN8 := Lib.hid hn8
    have HC2 := Lib.hid ((HC8.out.same (same_below HB2.out)).more HB2.out.size)
    generalize hdm : defMay ⟨k, fd, q8⟩ = dm
    have HDM := Lib.hid hdm
    clear hn8 hdm
    by_cases h0 : dm = 0
    case' neg =>
      have hz : ((dm : Int) == 0) = false := beq_eq_false_iff_ne.2 h0
      have H0 := Lib.hid h0
      clear h0
      refine (new_none w2 A c n8 k fd q8 HN8.out HC2.out HD8.out dm HDM.out H0.out).mono ?_
      rintro e w3 ⟨rfl, hb3⟩
      obtain ⟨k0, k1, k2⟩ := (HBk.out.kept hb3).three
      have HC3 := Lib.hid ((HC2.out.same (same_below hb3)).more hb3.size)
      have HB3 := Lib.hid (HB2.out.trans (hb3.mono HB2.out.size))
      clear hb3
      go_wp2_with fail
      refine (new15_none w3 A c n8 k fd q8 HN8.out HC3.out HD8.out dm HDM.out H0.out).mono ?_
      rintro e w4 ⟨rfl, hb4⟩
      have HB4 := Lib.hid (HB3.out.trans (hb4.mono HB3.out.size))
      clear hb4
      go_wp2
      go_ret
      exact ⟨rfl, HB4.out⟩
    case' pos =>
      subst h0
      refine (new_some w2 A c n8 k fd q8 HN8.out HC2.out HD8.out HDM.out).mono ?_
      rintro e w3 ⟨⟨sb, mb, rfl, hst, hsb, hmb⟩, hb3⟩
      obtain ⟨k0, k1, k2⟩ := (HBk.out.kept hb3).three
      have HB3 := Lib.hid (HB2.out.trans (hb3.mono HB2.out.size))
      have HC3 := Lib.hid (HC8.out.same ((same_below HB3.out)))
      have HST := Lib.hid hst
      have hmw := Nat.le_trans HB2.out.size hmb
      have hsw := Nat.le_trans HB2.out.size hsb
      have hsl := hst.b.lt
      clear hb3 hst hsb hmb
      go_wp2_with fail
      refine (new15_some w3 w.heap.size A c n8 k fd q8 HN8.out HC3.out HB3.out.size HD8.out HDM.out).mono ?_
      rintro e w4 ⟨⟨rb, rfl, hrs, hrb⟩, hb4⟩
      have HB4 := Lib.hid (HB3.out.trans (hb4.mono HB3.out.size))
      have HST := Lib.hid (HST.out.below hb4)
      have HRS := Lib.hid hrs
      have hne := (HST.out.apart hrs).1
      have hsr : sb ≤ rb := by omega
      clear hb4 hrs
      go_wp2_with fail
      refine (HENT.out w4 HB4.out).mono ?_
      rintro e w5 ⟨rfl, rfl⟩
      rw [← HL30.out]
      generalize hn30e : l30.length = n30 at hn30 ⊢
      have HN30 := Lib.hid hn30e
      clear hn30e
      go_wp2_with fail
      refine (load_to w5 sb mb k fd (normQ q8) A2 c2 n30 l30 HN30.out HST.out ((HF30.out.same (same_below HB4.out)).more HB4.out.size) (by rw [HN30.out]; omega) HS30.out w.heap.size hmw HB4.out.size).mono ?_
      rintro e w6 ⟨rfl, hg6, mb', hst6, hmb6⟩
      have HB6 := Lib.hid (below_grown HB4.out hg6 hsw)
      have HST6 := Lib.hid hst6
      have HRS6 := Lib.hid (HRS.out.grown_nil hg6 (fun e => hne e.symm) hsw)
      clear hg6 hst6
      go_wp2_with fail
      refine (HENT.out w6 HB6.out).mono ?_
      rintro e w7 ⟨rfl, rfl⟩
      rw [← HL30.out, HN30.out]
      go_wp2_with fail
      refine (load15_to w7 w.heap.size rb k fd q8 A2 c2 n30 l30 HN30.out HRS6.out ((HF30.out.same (same_below HB6.out)).more HB6.out.size) (by rw [HN30.out]; omega) HZ30.out).mono ?_
      rintro e w8 ⟨rfl, ht8, hrs8⟩
      have hap := HST6.out.apart HRS6.out
      have HB8 := Lib.hid (below_grown HB6.out ht8.1 (Nat.le_trans HB3.out.size hrb))
      have HST8 := Lib.hid ((HST6.out.b).grown ht8.1 hap.1 hap.2 hsr)
      have HRS8 := Lib.hid hrs8
      have HI := Lib.hid (loadE_inv k l30)
      have HO := Lib.hid (loadE_ok (keep := decide (k = 3)) (l := l30) (by rw [HN30.out]; omega))
      have HK := Lib.hid (loadE_keys (keep := decide (k = 3)) (l := l30) (fun x hx => (HS30.out x hx).1))
      generalize loadE (decide (k = 3)) l30 = E0 at HST8 HRS8 HI HO HK
      generalize loadR (decide (k = 3)) l30 = r0
      have hk1 : 1 ≤ k := by
        have := HDM.out
        unfold defMay at this
        simp only at this
        split at this
        · cases this
        · omega
      have hk4 : k ≤ 4 := by
        have := HDM.out
        unfold defMay at this
        simp only at this
        split at this
        · cases this
        · omega
      have hel := Lib.hid (few_calls w8 A' c' ev ((HE.out.same (same_below HB8.out)).more HB8.out.size) hn HS.out)
      clear ht8 hrs8 hap hsw hmw hsl k0 k1 k2 hne
      go_wp2_with fail
      refine hel.out.mono ?_
      rintro e w9 ⟨⟨A9, c9, rfl, hev⟩, hb9⟩
      generalize hL : fewE ev = L at hev HGO HLE
      have hst9 := Lib.hid (PlayAt.mk (w7 := w9) (B := sb) ⟨sb, mb', rfl, HST8.out.below hb9, hmb6⟩ (HRS8.out.below hb9) (Far3.refl _ _ _) (Nat.le_refl _) (HB8.out.trans (hb9.mono HB8.out.size)))
      have HEV := Lib.hid hev
      have hLn := HLE.out
      have HSQ := Lib.hid HD8.out.2.2.2
      have HSN := Lib.hid (norm_small HD8.out.2.2.2)
      have HRS9 := Lib.hid (HRS8.out.below hb9)
      clear hb9 hev hel hL
      go_wp2_with fail
      go_loopw [8, 12, 13] (fun s i _ wr => ∃ m : Nat, m ≤ L.length ∧ i = .int .i64 m ∧ PlayAt w w9 wr sb rb k fd q8 (playE k fd (normQ q8) E0 (L.take m)) s) (fun _ i _ _ => L.length - (intOf i).toNat)
      case atStart => exact ⟨0, Nat.zero_le _, rfl, hst9.out⟩
      case round =>
        obtain ⟨m, hm, rfl, hpa⟩ := hrel
        obtain ⟨hok, hkey⟩ := playE_ok (k := k) (f := fd) (q := normQ q8) (take_good HGO.out m) HO.out HK.out
        have hinv := playE_inv (k := k) (f := fd) (q := normQ q8) (L := L.take m) HI.out
        have hlk : (L.take m).length ≤ 40 := by simp; omega
        by_cases hlt : m < L.length
        · obtain ⟨x, hx⟩ := at_some hlt
          obtain ⟨x0, hx0⟩ := at_some (l := L) (k := 0) (by omega)
          have hsucc := playE_succ (k := k) (f := fd) (q := normQ q8) (E := E0) hx
          generalize playE k fd (normQ q8) E0 (L.take m) = Em at hpa hok hkey hinv hsucc
          generalize hst : stepE k fd (normQ q8) Em x = r at hsucc
          have hev := HEV.out.far3 HRS9.out hpa.far
          obtain ⟨b, off, tA, tc, fA, fc, rfl, hbb, ⟨p1, p2, p3, p4⟩, p5, p6⟩ := evts_at hev hx
          obtain ⟨b2, off2, uA, uc, gA, gc, e2, -, ⟨r1, r2, r3, r4⟩, r5, r6⟩ := evts_at hev hx0
          cases e2
          simp only [Nat.zero_mul, Nat.add_zero] at r1 r2 r3 r4
          have HX := Lib.hid hx
          have hgx := Lib.hid (HGO.out x (List.mem_of_getElem? hx))
          have hgy := Lib.hid (HGO.out x0 (List.mem_of_getElem? hx0))
          have HOK := Lib.hid hok
          have HINV := Lib.hid hinv
          have HSU := Lib.hid hsucc
          have HSTE := Lib.hid hst
          have hbr : b < wr.heap.size := Nat.lt_of_lt_of_le hbb hpa.size
          have PX := Lib.hid (And.intro p1 (And.intro p2 (And.intro p3 p4)))
          have P5 := Lib.hid (p5.more hpa.size)
          have P6 := Lib.hid (p6.more hpa.size)
          have hi1 : IntKind.i64.wrap ((m : Int) + 1) = (m : Int) + 1 := IntWalk.i64_in _ (by omega)
          have HI1 := Lib.hid hi1
          have HPA := Lib.hid hpa
          obtain ⟨sb0, mb0, rfl, hS0, hmb0⟩ := hpa.st
          have HS0 := Lib.hid hS0
          clear hx hx0 hok hkey hinv hsucc hst hev p1 p2 p3 p4 p5 p6 hpa hi1 hS0
          by_cases h9 : (m : Int) % 9 = 8
          case' pos =>
            have hz9 : ((m : Int) % 9 == 8) = true := beq_iff_eq.2 h9
            have R5 := Lib.hid (r5.more HPA.out.size)
            have R6 := Lib.hid (r6.more HPA.out.size)
            have RX := Lib.hid (And.intro r1 (And.intro r2 (And.intro r3 r4)))
            clear h9 r1 r2 r3 r4 r5 r6
            go_wp2_with fail
            refine (clone_calls wr sb sb0 mb0 k fd (normQ q8) Em HS0.out).mono ?_
            rintro e wa ⟨⟨sb1, mb1, rfl, hS1, hsb1, hmb1⟩, hba⟩
            have r1 := (hba.cell (p := ⟨b, off, none⟩) hbr).trans RX.out.1
            have r2 := (hba.cell (p := ⟨b, off + 1, none⟩) hbr).trans RX.out.2.1
            have r3 := (hba.cell (p := ⟨b, off + 2, none⟩) hbr).trans RX.out.2.2.1
            have r4 := (hba.cell (p := ⟨b, off + 3, none⟩) hbr).trans RX.out.2.2.2
            have HBA := Lib.hid hba
            have HS1 := Lib.hid hS1
            have hmlt := HS0.out.map.lt
            clear hba hS1
            go_wp2_with fail
            refine (stepB_to wa sb sb0 mb0 k fd (normQ q8) Em (512 + (L.take m).length) x0 uA gA uc gc 0 0 _ rfl (HS0.out.below HBA.out) HSN.out HOK.out (by omega) ((R5.out.same (same_below HBA.out)).more HBA.out.size) ((R6.out.same (same_below HBA.out)).more HBA.out.size) hgy.out).mono ?_
            rintro e wz ⟨rfl, -, hm0, hm1, hg⟩
            have hsmz := (same_below HBA.out).trans ((same_turn hg hm0 hm1).mono HBA.out.size)
            have HPZ : Hid (PlayAt w w9 wz sb rb k fd q8 Em (.pointer (some ⟨sb1, 0, none⟩))) := Lib.hid ⟨⟨sb1, mb1, rfl, HS1.out.other hm0 hg hm1 (by omega), Nat.le_trans HPA.out.below.size hmb1⟩, (HPA.out.ref.below HBA.out).turn hm0 hg hm1, HPA.out.far.same hsmz HPA.out.size, Nat.le_trans HPA.out.size (Nat.le_trans HBA.out.size hg.size), below_grown (HPA.out.below.trans (HBA.out.mono HPA.out.below.size)) hg hmb0⟩
            have HSZ := Lib.hid (HS1.out.other hm0 hg hm1 (by omega))
            have hmbz : w.heap.size ≤ mb1 := Nat.le_trans HPA.out.below.size hmb1
            have q1 := (hsmz b (off + m * 4) hbr).trans PX.out.1
            have q2 := (hsmz b (off + m * 4 + 1) hbr).trans PX.out.2.1
            have q3 := (hsmz b (off + m * 4 + 2) hbr).trans PX.out.2.2.1
            have q4 := (hsmz b (off + m * 4 + 3) hbr).trans PX.out.2.2.2
            have hwz := Nat.le_trans HBA.out.size hg.size
            have P5 := Lib.hid ((P5.out.same hsmz).more hwz)
            have P6 := Lib.hid ((P6.out.same hsmz).more hwz)
            clear r1 r2 r3 r4 hm0 hm1 hg hsmz hmlt hmb1 hsb1 hz9
            go_wp2_with fail
            have hbz : b < wz.heap.size := Nat.lt_of_lt_of_le hbr hwz
            clear hwz hbr hmb0 HS0 HBA HS1 HPA PX RX R5 R6
            obtain ⟨sbz, rfl⟩ : ∃ y, y = sb1 := ⟨_, rfl⟩
            obtain ⟨mbz, rfl⟩ : ∃ y, y = mb1 := ⟨_, rfl⟩
          case' neg =>
            have hz9 : ((m : Int) % 9 == 8) = false := beq_eq_false_iff_ne.2 h9
            obtain ⟨wz, hwz⟩ : ∃ y, y = wr := ⟨_, rfl⟩
            clear h9 r1 r2 r3 r4 r5 r6
            go_wp2_with fail
            clear hz9
            have HPZ := HPA
            have HSZ := HS0
            have hmbz := hmb0
            have hbz := hbr
            obtain ⟨q1, q2, q3, q4⟩ := PX.out
            clear hmb0 hbr HPA HS0 PX
            subst hwz
            obtain ⟨sbz, rfl⟩ : ∃ y, y = sb0 := ⟨_, rfl⟩
            obtain ⟨mbz, rfl⟩ : ∃ y, y = mb0 := ⟨_, rfl⟩
          all_goals
            have HST := Lib.hid (stepB_to wz.drew sb sbz mbz k fd (normQ q8) Em (512 + (L.take m).length) x tA fA tc fc ((m : Int) + 1) 1 r HSTE.out (HSZ.out.below (Below.refl wz.heap.size wz).drew) HSN.out HOK.out (by omega) P5.out P6.out hgx.out)
            have HS15 := Lib.hid (fun (W : World) (hR : RSt W w.heap.size rb k fd q8 Em) hT hF => step15_to W w.heap.size rb k fd q8 Em (512 + (L.take m).length) x tA fA tc fc ((m : Int) + 1) 1 r HSTE.out hR HSQ.out hk1 hk4 HINV.out HOK.out (by omega) hT hF hgx.out)
            have HQQ := Lib.hid (And.intro q1 (And.intro q2 (And.intro q3 q4)))
            have hi1 := HI1.out
            have hi2 : (0 : Int) ≤ (m : Int) + 1 := by omega
            go_region_law
              (first
                | (go_simp; go_at_call 18; (with_reducible refine HST.out.mono ?_); rintro e wc ⟨rfl, hc1, hc2, hc3, hc4⟩; have hsmd := same_turn hc4 hc2 hc3; have hsmc : Same wz.heap.size wz wc := hsmd; have q1 := (hsmc b (off + m * 4) hbz).trans HQQ.out.1; have q2 := (hsmc b (off + m * 4 + 1) hbz).trans HQQ.out.2.1; have q3 := (hsmc b (off + m * 4 + 2) hbz).trans HQQ.out.2.2.1; have q4 := (hsmc b (off + m * 4 + 3) hbz).trans HQQ.out.2.2.2; have hszc : wz.heap.size ≤ wc.heap.size := hc4.size; have hrc := (HPZ.out.ref.below (Below.refl wz.heap.size wz).drew).turn hc2 hc4 hc3; have hT5 := (P5.out.same hsmc).more hszc; have hF6 := (P6.out.same hsmc).more hszc; have HCALL := Lib.hid (HS15.out wc hrc hT5 hF6); clear hrc hT5 hF6)
                | (go_simp; go_at_call 19; (with_reducible refine HCALL.out.mono ?_); rintro e wd ⟨rfl, hd1, hd2⟩))
            all_goals
              have hap := hc1.st.apart ((HPZ.out.ref.below (Below.refl wz.heap.size wz).drew).turn hc2 hc4 hc3)
              have hfar := HPZ.out.far.same hsmc HPZ.out.size
              have hsz := Nat.le_trans HPZ.out.size hc4.size
              have HPD : Hid (PlayAt w w9 wd sb rb k fd q8 r.2 (.pointer (some ⟨sbz, 0, none⟩))) := Lib.hid ⟨⟨sbz, mbz, rfl, hc1.grown hd2.1 hap.1 hap.2 hsr, hmbz⟩, hd1, hfar.turn hd2 hsz, Nat.le_trans hsz hd2.1.size, below_grown (below_grown (HPZ.out.below.drew) hc4 hmbz) hd2.1 (Nat.le_trans HB3.out.size hrb)⟩
              clear hap hfar hsz hc1 hc2 hc3 hc4 hd1 hd2 hsmc hsmd q1 q2 q3 q4 hi1 hi2
              go_wp2
              go_roundw
              case rel => exact ⟨m + 1, by omega, by go_num, by rw [HSU.out]; exact HPD.out⟩
              case measure => simp [intOf]; omega
        · obtain rfl : m = L.length := by omega
          rw [List.take_length] at hpa hok hkey
          have hEn : (playE k fd (normQ q8) E0 L).length ≤ 1048576 := by have := hok.1; omega
          generalize playE k fd (normQ q8) E0 L = Em at hpa hkey hEn
          obtain ⟨sb0, mb0, rfl, hS0, hmb0⟩ := hpa.st
          obtain ⟨qA, qc, lA, lc, hRB, -, hFL⟩ := hpa.ref.cells
          have c3 := hRB.cell 3
          have c3 : wr.cell? ⟨rb, 3, none⟩ = some (.slice lA Em.length lc) := c3
          have HEN := Lib.hid (entries_calls wr.drew sb0 mb0 k fd (normQ q8) Em (hS0.st.below (Below.refl wr.heap.size wr).drew) hEn hkey)
          have HRB := Lib.hid hRB
          have HFL := Lib.hid hFL
          have HBW := Lib.hid hpa.below
          clear hRB hFL hpa hok hkey hinv hS0
          go_wp2_with fail
          go_region_law
            (first
              | (go_simp; go_at_call 21; (with_reducible refine HEN.out.mono ?_); rintro e wc ⟨⟨A8, c8, rfl, hfl⟩, hbc⟩; have hbc := undrew hbc; have c3 : wc.cell? ⟨rb, 3, none⟩ = some (.slice lA Em.length lc) := (HRB.out.kept hbc).cell 3; have HSM := Lib.hid (same15_calls wc A8 lA c8 lc Em hfl ((HFL.out.same (same_below hbc)).more hbc.size) hEn))
              | (go_simp; go_at_call 20; (with_reducible refine HSM.out.mono ?_); rintro e wd ⟨rfl, hbd⟩))
          all_goals
            have hbz := HBW.out.trans ((hbc.trans (hbd.mono hbc.size)).mono HBW.out.size)
            clear hbc hbd hfl
            go_wp2
            go_ret
            exact ⟨rfl, hbz⟩
end Go.Proofs.YtdonhmdeijidkaaGreat
