/-
  Walk: the reference's Step (layer 15).
-/
import Derived.Test.YtdonhmdeijidkaaGreatRefO
import Derived.Test.YtdonhmdeijidkaaGreatRefP
import Derived.Test.YtdonhmdeijidkaaGreatLawG
namespace Go.Proofs.YtdonhmdeijidkaaGreat
open Go.RowKit Go.Maps
attribute [local go_sem ↓] Go.wp_at_zero Go.wp_at_succ

/-- Set, in the program's words. -/
theorem set15_calls (w : World) (B rb : Nat) (k : Int) (f : Str) (q : List Cl) (E : Ents) (key : Str) (n : Int) (b : Bool) (h : RSt w B rb k f q E) (hb : decide (k = 3) = b) (hE : Rising E) (hn : E.length ≤ 100000) :
    Calls Tryz.prog 55 #[.pointer (some ⟨rb, 0, none⟩), vS key, .int .i64 n] w fun e w' => e = .returned (.tuple #[]) ∧ RSt w' B rb k f q (setE b E key n) ∧ Turn3 w w' rb := by
  subst hb
  rw [← setR_eq hE]
  by_cases h0 : n = 0
  · subst h0; exact set15_zero w B rb k f q E key h hn
  · exact set15_some w B rb k f q E key n h hn h0

theorem rst_slice {w : World} {B rb : Nat} {k : Int} {f : Str} {q : List Cl} {E : Ents} (h : RSt w B rb k f q E) : ∃ A c, w.cell? ⟨rb, 3, none⟩ = some (.slice A E.length c) := by
  obtain ⟨qA, qc, lA, lc, h1, -, -⟩ := h.cells
  exact ⟨lA, lc, h1.cell 3⟩
def Rec6 (p v : Int) (tA : Option Addr) (tc : Nat) (fA : Option Addr) (fc : Nat) (e0 : Ev) : Array Value := #[.int .i64 p, .int .i64 v, vS e0.stream, vS e0.typ, .slice tA e0.tags.length tc, .slice fA e0.flds.length fc]
theorem rec_cells {w : World} {g : Nat} {t : TypeId} {p v : Int} {tA fA : Option Addr} {tc fc : Nat} {e0 : Ev} (h : Blk w g t (Rec6 p v tA tc fA fc e0)) :
    w.cell? ⟨g, 2, none⟩ = some (vS e0.stream) ∧ w.cell? ⟨g, 3, none⟩ = some (vS e0.typ) ∧ w.cell? ⟨g, 4, none⟩ = some (.slice tA e0.tags.length tc) ∧ w.cell? ⟨g, 5, none⟩ = some (.slice fA e0.flds.length fc) :=
  ⟨h.cell 2, h.cell 3, h.cell 4, h.cell 5⟩
section
variable {f : Str} {q : List Cl} {E : Ents} {e : Ev}
theorem stepR_1 (h : matchB q e = true) : stepR 1 f q E e = (0, setE false E [] (getE E [] + 1)) := by unfold stepR; rw [h]; rfl
theorem stepR_2n (h : matchB q e = true) (ho : fieldOf e.flds f = none) : stepR 2 f q E e = (0, E) := by unfold stepR; rw [h, ho]; rfl
theorem stepR_2o {v : Int} (h : matchB q e = true) (ho : fieldOf e.flds f = some v) (hf : fitsB (getE E [] + v) = false) : stepR 2 f q E e = (4, E) := by unfold stepR; rw [h, ho]; simp [hf]
theorem stepR_2y {v : Int} (h : matchB q e = true) (ho : fieldOf e.flds f = some v) (hf : fitsB (getE E [] + v) = true) : stepR 2 f q E e = (0, setE false E [] (getE E [] + v)) := by unfold stepR; rw [h, ho]; simp [hf]
theorem stepR_3n (h : matchB q e = true) (ho : fieldOf e.flds f = none) : stepR 3 f q E e = (0, E) := by unfold stepR latestE; rw [h, ho]; rfl
theorem stepR_3y {v : Int} (h : matchB q e = true) (ho : fieldOf e.flds f = some v) : stepR 3 f q E e = (0, setE true E e.stream v) := by unfold stepR latestE; rw [h, ho]; rfl
theorem stepR_4 (h : matchB q e = true) : stepR 4 f q E e = (0, e.tags.foldl (memberE e.stream) E) := by unfold stepR membersE; rw [h]; rfl
end
def StepPost (w : World) (B rb : Nat) (k : Int) (f : Str) (q : List Cl) (r : Int × Ents) (e : Ending) (w' : World) : Prop :=
  e = .returned (.int .i64 r.1) ∧ RSt w' B rb k f q r.2 ∧ Turn3 w w' rb

set_option maxRecDepth 100000 in
set_option maxHeartbeats 4000000 in
theorem step15_calls (w : World) (B rb : Nat) (k : Int) (f : Str) (q : List Cl) (E : Ents) (n : Nat) (e0 : Ev) (tA fA : Option Addr) (tc fc : Nat) (p v : Int)
    (hS : RSt w B rb k f q E) (hs : SmallQ q) (hk1 : 1 ≤ k) (hk4 : k ≤ 4) (hI : Inv k E) (hO : Okay E n) (hn : n ≤ 10000) (hT : Strs w w.heap.size tA e0.tags) (hF : Flds w w.heap.size fA e0.flds) (hE : e0.Good) :
    Calls Tryz.prog 19 #[.pointer (some ⟨rb, 0, none⟩), .agg (#[.int .i64 p, .int .i64 v] ++ cEv tA tc fA fc e0)] w (StepPost w B rb k f q (stepR k f q E e0)) := by
  obtain ⟨w1, hw1⟩ : ∃ y, y = w.alloc (.cells #[.int .i64 p, .int .i64 v, vS e0.stream, vS e0.typ, .slice tA e0.tags.length tc, .slice fA e0.flds.length fc] 47) := ⟨_, rfl⟩
  have hb1 : Below w.heap.size w w1 := hw1 ▸ (Below.refl w.heap.size w).alloc (Nat.le_refl _) _
  have hBk : Blk w1 w.heap.size 47 (Rec6 p v tA tc fA fc e0) := hw1 ▸ Blk.new _ _ _
  have hrl := hS.lt
  have HR := Lib.hid (hS.below hb1)
  have HB1 := Lib.hid hb1
  have HBk := Lib.hid hBk
  have HT := Lib.hid ((hT.same (same_below hb1)).more hb1.size)
  have HF := Lib.hid ((hF.same (same_below hb1)).more hb1.size)
  have HI := Lib.hid hI
  have HO := Lib.hid hO
  have HE := Lib.hid hE
  have HSQ := Lib.hid hs
  have hEl : E.length ≤ 60000 := by have := hO.1; omega
  have hg0 := hO.get []
  have hval := hE.val f
  have htn : e0.tags.length ≤ 6 := hE.2.1
  have hfn : e0.flds.length ≤ 1048576 := hE.2.2.2.1
  have HW1 := Lib.hid hw1
  clear hb1 hBk hS hT hF hI hO hE hs hw1
  obtain ⟨d2, d3, d4, d5⟩ := rec_cells HBk.out
  obtain ⟨qA, qc, lA, lc, hRB, hq, -⟩ := HR.out.cells
  obtain ⟨c0, c1, c2, c3⟩ := hRB.four
  have HMT := Lib.hid (match06_calls w1.drew qA qc q e0 tA fA tc fc (hq.more (Nat.le_trans HR.out.low (Nat.le_of_lt HR.out.lt))) HSQ.out HT.out (by omega))
  clear hRB hq
  generalize hmq : matchB q e0 = mq at HMT
  have HMQ := Lib.hid hmq
  clear hmq
  go_enter Tryz.func19, Tryz.ntmps19
  go_wp2_with fail
  rw [← HW1.out]
  go_region_law (first | (go_simp; go_at_call 53; (with_reducible refine HMT.out.mono ?_); rintro e w2 ⟨rfl, hb2⟩))
  all_goals
    have hb2 := undrew hb2
    have HR2 := Lib.hid (HR.out.below hb2)
    have HB2 := Lib.hid (HB1.out.trans (hb2.mono HB1.out.size))
    have HBk2 := Lib.hid (HBk.out.kept hb2)
    have HT2 := Lib.hid ((HT.out.same (same_below hb2)).more hb2.size)
    have HF2 := Lib.hid ((HF.out.same (same_below hb2)).more hb2.size)
    clear hb2 c0 c1 c2 c3 d2 d3 d4 d5
    cases mq
    · go_wp2
      go_ret
      exact ⟨by unfold stepR; rw [HMQ.out]; rfl, by unfold stepR; rw [HMQ.out]; exact HR2.out, Turn3.of_below HB2.out⟩
    · have HV := Lib.hid (value04_calls w2.drew e0.stream e0.typ f tA fA e0.tags.length tc fc e0.flds HF2.out hfn)
      obtain ⟨d2, d3, d4, d5⟩ := rec_cells HBk2.out
      obtain ⟨qA2, qc2, lA2, lc2, hRB2, -, -⟩ := HR2.out.cells
      obtain ⟨c0, c1, c2, c3⟩ := hRB2.four
      clear hRB2
      go_wp2_with fail
      go_region_law (first | (go_simp; go_at_call 54; (with_reducible refine HV.out.mono ?_); rintro e w3 ⟨rfl, hb3⟩))
      all_goals
        have hb3 := undrew hb3
        have HR3 := Lib.hid (HR2.out.below hb3)
        have HB3 := Lib.hid (HB2.out.trans (hb3.mono HB2.out.size))
        have HBk3 := Lib.hid (HBk2.out.kept hb3)
        have HT3 := Lib.hid ((HT2.out.same (same_below hb3)).more hb3.size)
        clear hb3 c0 c1 c2 c3 d2 d3 d4 d5
        obtain ⟨d2, d3, d4, d5⟩ := rec_cells HBk3.out
        have hgne : w.heap.size ≠ rb := by omega
        have HG := Lib.hid (HR3.out.lt)
        have hkk : k = 1 ∨ k = 2 ∨ k = 3 ∨ k = 4 := by omega
        clear hk1 hk4
        generalize hfo : fieldOf e0.flds f = o at hval ⊢
        have HFO := Lib.hid hfo
        clear hfo
        obtain ⟨qA3, qc3, lA3, lc3, hRB3, -, -⟩ := HR3.out.cells
        obtain ⟨c0, c1, c2, c3⟩ := hRB3.four
        clear hRB3
        rcases hkk with rfl | rfl | rfl | rfl
        · clear d3 d4 d5 hval
          go_wp2_with fail
          refine (get15_calls w3 B rb 1 f q E [] HR3.out (by omega)).mono ?_
          rintro e w4 ⟨rfl, rfl⟩
          go_wp2_with fail
          refine (set15_calls w4 B rb 1 f q E [] (getE E [] + 1) false HR3.out rfl HI.out.rise (by omega)).mono ?_
          rintro e w5 ⟨rfl, hr5, ht5⟩
          go_wp2
          go_ret
          rw [stepR_1 HMQ.out]
          exact ⟨rfl, hr5, (Turn3.of_below HB3.out).trans ht5⟩
        · clear d3 d4 d5
          cases o with
          | none =>
            go_wp2
            go_ret
            rw [stepR_2n HMQ.out HFO.out]
            exact ⟨rfl, HR3.out, Turn3.of_below HB3.out⟩
          | some v =>
            simp only [Option.getD_some] at hval
            generalize hfb : fitsB (getE E [] + v) = fb
            have HFB := Lib.hid hfb
            clear hfb
            go_wp2_with fail
            refine (get15_calls w3 B rb 2 f q E [] HR3.out (by omega)).mono ?_
            rintro e w4 ⟨rfl, rfl⟩
            go_wp2_with fail
            refine (fits15_calls (getE E [] + v) w4).mono ?_
            rintro e w5 ⟨rfl, rfl⟩
            rw [HFB.out]
            cases fb
            · go_wp2
              go_ret
              rw [stepR_2o HMQ.out HFO.out HFB.out]
              exact ⟨rfl, HR3.out, Turn3.of_below HB3.out⟩
            · go_wp2_with fail
              refine (get15_calls w4 B rb 2 f q E [] HR3.out (by omega)).mono ?_
              rintro e w5 ⟨rfl, rfl⟩
              go_wp2_with fail
              refine (set15_calls w5 B rb 2 f q E [] (getE E [] + v) false HR3.out rfl HI.out.rise (by omega)).mono ?_
              rintro e w6 ⟨rfl, hr5, ht5⟩
              go_wp2
              go_ret
              rw [stepR_2y HMQ.out HFO.out HFB.out]
              exact ⟨rfl, hr5, (Turn3.of_below HB3.out).trans ht5⟩
        · cases o with
          | none =>
            go_wp2
            go_ret
            rw [stepR_3n HMQ.out HFO.out]
            exact ⟨rfl, HR3.out, Turn3.of_below HB3.out⟩
          | some v =>
            go_wp2_with fail
            refine (set15_calls w3 B rb 3 f q E e0.stream v true HR3.out rfl HI.out.rise (by omega)).mono ?_
            rintro e w6 ⟨rfl, hr5, ht5⟩
            go_wp2
            go_ret
            rw [stepR_3y HMQ.out HFO.out]
            exact ⟨rfl, hr5, (Turn3.of_below HB3.out).trans ht5⟩
        · go_wp2_with fail
          clear c0 c1 c2 c3 d2 d3 d4 d5 hval
          go_loopw [8, 9] (fun i _ wr => (∃ m : Nat, m ≤ e0.tags.length ∧ i = .int .i64 m ∧ RSt wr B rb 4 f q ((e0.tags.take m).foldl (memberE e0.stream) E)) ∧ Turn3 w3 wr rb) (fun i _ _ => e0.tags.length - (intOf i).toNat)
          case atStart => exact ⟨⟨0, Nat.zero_le _, rfl, HR3.out⟩, Turn3.of_below (Below.refl _ _)⟩
          case round =>
            obtain ⟨⟨m, hm, rfl, hrs⟩, htu⟩ := hrel
            have HRS := Lib.hid hrs
            have HTU := Lib.hid htu
            have hBr : Blk wr w.heap.size 47 (Rec6 p v tA tc fA fc e0) := HBk3.out.grown htu.1 (by simpa using hgne)
            obtain ⟨d2, d3, d4, d5⟩ := rec_cells hBr
            clear hrs htu hBr d3 d5
            by_cases hlt : m < e0.tags.length
            · obtain ⟨x, hx⟩ := at_some hlt
              obtain ⟨lA4, lc4, h34⟩ := rst_slice HR3.out
              obtain ⟨b, off, rfl, hbb, hc⟩ := HT3.out.turn3 (Nat.le_refl _) h34 (by intro s e; cases e) HTU.out (ne_nil_of hlt)
              have h1 := hc m x hx
              have HX := Lib.hid hx
              have hxl := HE.out.2.2.1 x (List.mem_of_getElem? hx)
              have hok := HO.out.two.members e0.stream (e0.tags.take m)
              have hris := (members_keep (s := e0.stream) (e0.tags.take m) E HI.out.rise (HI.out.zero (by decide))).1
              have hlen : (e0.tags.take m).length ≤ 6 := by simp; omega
              have hcat : (⟨x.toArray⟩ ++ ⟨#[32]⟩ ++ ⟨e0.stream.toArray⟩ : ByteArray) = ⟨(x ++ [32] ++ e0.stream).toArray⟩ := by apply ByteArray.ext; simp
              have hsucc := take_fold (g := memberE e0.stream) (b := E) hx
              have hmem : memberE e0.stream ((e0.tags.take m).foldl (memberE e0.stream) E) x = setE false ((e0.tags.take m).foldl (memberE e0.stream) E) (x ++ [32] ++ e0.stream) (getE ((e0.tags.take m).foldl (memberE e0.stream) E) (x ++ [32] ++ e0.stream) + 1) := rfl
              rw [hmem] at hsucc
              generalize (e0.tags.take m).foldl (memberE e0.stream) E = Em at HRS hok hris hsucc
              generalize x ++ [32] ++ e0.stream = key at hcat hsucc
              have hget := hok.get key
              have hemn : Em.length ≤ 100000 := by have := hok.1; omega
              have HRI := Lib.hid hris
              have HSU := Lib.hid hsucc
              have hwr : IntKind.i64.wrap (getE Em key + 1) = getE Em key + 1 := IntWalk.i64_in _ (by omega)
              have hstl := HE.out.1
              have hs1 : ¬ 9223372036854775807 < x.length + 1 := by omega
              have hs2 : ¬ 9223372036854775807 < x.length + 1 + e0.stream.length := by omega
              clear hc hx hok hris hsucc hmem h34 hlen
              go_wp2_with fail
              go_quiet (fail)
              go_wp2_with fail
              have HRSd := Lib.hid (HRS.out.below (below_drewN (Below.refl wr.heap.size wr) nq))
              refine (get15_calls _ B rb 4 f q Em key HRSd.out (by omega)).mono ?_
              rintro e w6 ⟨rfl, rfl⟩
              go_wp2_with fail
              refine (set15_calls _ B rb 4 f q Em key (getE Em key + 1) false HRSd.out rfl HRI.out hemn).mono ?_
              rintro e w7 ⟨rfl, hr5, ht5⟩
              have HR5 := Lib.hid hr5
              clear hr5
              go_wp2
              go_roundw
              case rel => exact ⟨⟨m + 1, by omega, by go_num, by rw [HSU.out]; exact HR5.out⟩, (HTU.out.trans (Turn3.of_below (below_drewN (Below.refl wr.heap.size wr) nq))).trans ht5⟩
              case measure => simp [intOf]; omega
            · obtain rfl : m = e0.tags.length := by omega
              have hrs := HRS.out
              rw [List.take_length] at hrs
              have HRS := Lib.hid hrs
              clear hrs
              go_wp2
              go_ret
              rw [stepR_4 HMQ.out]
              exact ⟨rfl, HRS.out, (Turn3.of_below HB3.out).trans HTU.out⟩
end Go.Proofs.YtdonhmdeijidkaaGreat
