/-
  Walks: (*State).Load.
-/
import Derived.Test.YtdonhmdeijidkaaGreatFoldI
import Derived.BigQuiet
namespace Go.Proofs.YtdonhmdeijidkaaGreat
open Go.RowKit Go.Maps

/-- An entry that may not stand behind p. -/
def badE (keep : Bool) (p : Option Str) (x : Str × Int) : Bool := (match p with | some k => !Op.bytesLess k x.1 | none => false) || !fitsB x.2 || (x.2 == 0 && !keep)
def prevE (l : Ents) : Nat → Option Str
  | 0 => none
  | j + 1 => (l[j]?).map (·.1)
def badAt (keep : Bool) (l : Ents) (i : Nat) : Bool := match l[i]? with | some x => badE keep (prevE l i) x | none => false
/-- Whether entries may be loaded. -/
def loadB (keep : Bool) (l : Ents) : Bool := !((List.range l.length).any (badAt keep l))
theorem load_bad {keep : Bool} {l : Ents} {i : Nat} {x : Str × Int} (hx : l[i]? = some x) (h : badE keep (prevE l i) x = true) : loadB keep l = false := by
  unfold loadB
  have hi := (List.getElem?_eq_some_iff.1 hx).1
  have : (List.range l.length).any (badAt keep l) = true := List.any_eq_true.2 ⟨i, List.mem_range.2 hi, by unfold badAt; rw [hx]; exact h⟩
  rw [this]; rfl
theorem load_good {keep : Bool} {l : Ents} (h : ∀ i x, l[i]? = some x → i < l.length → badE keep (prevE l i) x = false) : loadB keep l = true := by
  unfold loadB
  have : (List.range l.length).any (badAt keep l) = false := by
    rw [List.any_eq_false]
    intro i hi
    have hi := List.mem_range.1 hi
    obtain ⟨x, hx⟩ := at_some hi
    unfold badAt
    rw [hx]
    simp [h i x hx hi]
  rw [this]; rfl
theorem put_last {E : Ents} {k : Str} {n : Int} (h : ∀ y ∈ E, Op.bytesLess y.1 k = true) : putE E k n = E ++ [(k, n)] := by
  induction E with
  | nil => rfl
  | cons x r ih =>
    have hx := h x (by simp)
    unfold putE
    rw [less_asymm hx, if_neg (by simp), if_neg (fun e => less_ne hx e.symm), ih fun y hy => h y (by simp [hy])]
    rfl
theorem load_put {l : Ents} {i : Nat} {x : Str × Int} (hx : l[i]? = some x) (hr : Rising (l.take i)) (hp : ∀ j y, i = j + 1 → l[j]? = some y → Op.bytesLess y.1 x.1 = true) : putE (l.take i) x.1 x.2 = l.take (i + 1) ∧ Rising (l.take (i + 1)) := by
  have hall : ∀ y ∈ l.take i, Op.bytesLess y.1 x.1 = true := by
    intro y hy
    cases i with
    | zero => simp at hy
    | succ j =>
      have hj : j < l.length := by have := (List.getElem?_eq_some_iff.1 hx).1; omega
      obtain ⟨z, hz⟩ := at_some hj
      have hzx := hp j z rfl hz
      rw [List.take_add_one, hz] at hy hr
      rcases List.mem_append.1 hy with hy | hy
      · exact less_trans ((List.pairwise_append.1 hr).2.2 y hy z (by simp)) hzx
      · simp at hy; subst hy; exact hzx
  have e : l.take (i + 1) = l.take i ++ [x] := by rw [List.take_add_one, hx]; rfl
  refine ⟨by rw [put_last hall, e], ?_⟩
  rw [e]
  exact List.pairwise_append.2 ⟨hr, List.pairwise_singleton _ _, fun a ha b hb => by simp at hb; subst hb; exact hall a ha⟩

theorem quiet_same {P : Program} {f : FuncId} {args : Array Value} {w : World} {n : Nat} {v : Value} (h : Calls P f args (w.drewN n) fun e w' => e = .returned v ∧ w' = w.drewN n) :
    Calls P f args (w.drewN n) fun e w'' => e = .returned v ∧ ∃ m, w'' = w.drewN m := h.mono fun _ _ ⟨h1, h2⟩ => ⟨h1, n, h2⟩
def LoadPost (w : World) (sb : Nat) (k : Int) (f : Str) (q : List Cl) (l : Ents) (e : Ending) (w' : World) : Prop :=
  (loadB (decide (k = 3)) l = true ∧ e = .returned (.int .i64 0) ∧ ∃ mb, St w' sb mb k f q l ∧ w.heap.size ≤ mb ∧ w.grownBy w' (some sb)) ∨ (loadB (decide (k = 3)) l = false ∧ e = .returned (.int .i64 1) ∧ Below w.heap.size w w')

set_option maxRecDepth 100000 in
set_option maxHeartbeats 2000000 in
theorem load_calls (w : World) (sb mb : Nat) (k : Int) (f : Str) (q : List Cl) (E : Ents) (A : Option Addr) (c : Nat) (l : Ents) (hS : St w sb mb k f q E) (hA : Flds w w.heap.size A l) (hn : l.length ≤ 1000) (hl : ∀ x ∈ l, x.1.length ≤ 4194304 ∧ -9223372036854775808 ≤ x.2 ∧ x.2 ≤ 9223372036854775807) :
    Calls Tryz.prog 13 #[.pointer (some ⟨sb, 0, none⟩), .slice A l.length c] w (LoadPost w sb k f q l) := by
  obtain ⟨⟨qA, qc, hB, hq⟩, hM⟩ := hS
  have hlt := hB.lt
  have HB := Lib.hid hB
  have HQ := Lib.hid hq
  have HA := Lib.hid hA
  have HL := Lib.hid hl
  clear hq hM hA hl hB
  obtain ⟨w1, hw1⟩ : ∃ y, y = w.alloc (.map #[] 0) := ⟨_, rfl⟩
  have hb1 : Below w.heap.size w w1 := hw1 ▸ (Below.refl w.heap.size w).alloc (Nat.le_refl _) _
  have HM1 : Hid (MapIs w1 w.heap.size []) := Lib.hid (hw1 ▸ MapIs.made w)
  have HB1 := Lib.hid hb1
  have hmk : ∀ w : World, (Instr.makeMap 98 none).run Tryz.prog w = .ok (.map (some w.heap.size)) (w.alloc (.map #[] 0)) := fun w => run_makeMap _ w
  generalize hkp : decide (k = 3) = keep
  have HKP := Lib.hid hkp
  clear hb1 hkp
  go_enter Tryz.func13, Tryz.ntmps13
  go_wp2_with fail
  rw [← hw1]
  clear hw1
  go_loopw [6, 7, 11] (fun _ _ i wr => (∃ m : Nat, m ≤ l.length ∧ i = .int .i64 m ∧ MapIs wr w.heap.size (l.take m) ∧ Rising (l.take m) ∧ ∀ j x, l[j]? = some x → j < m → badE keep (prevE l j) x = false) ∧ Below w.heap.size w wr) (fun _ _ i _ => l.length - (intOf i).toNat)
  case atStart => exact ⟨⟨0, Nat.zero_le _, rfl, HM1.out, List.Pairwise.nil, by simp⟩, HB1.out⟩
  case round =>
    obtain ⟨⟨m, hm, rfl, hmap, hri, hno⟩, hbr⟩ := hrel
    have HMAP := Lib.hid hmap
    have HRI := Lib.hid hri
    have HNO := Lib.hid hno
    have HBR := Lib.hid hbr
    clear hmap hri hno hbr
    by_cases hlm : m < l.length
    · obtain ⟨x, hx⟩ := at_some hlm
      obtain ⟨b, off, rfl, hbb, hc⟩ := HA.out (ne_nil_of hlm)
      obtain ⟨p1, p2⟩ := hc m x hx
      have q1 := (HBR.out.cell (p := ⟨b, off + m * 2, none⟩) hbb).trans p1
      have q2 := (HBR.out.cell (p := ⟨b, off + m * 2 + 1, none⟩) hbb).trans p2
      have HX := Lib.hid hx
      have HC := Lib.hid hc
      have hxl := HL.out x (List.mem_of_getElem? hx)
      obtain ⟨w8, hw8⟩ : ∃ y, y = wr.alloc (.cells #[vS x.1, .int .i64 x.2] 92) := ⟨_, rfl⟩
      have HW8 := Lib.hid hw8
      have h8 : Below wr.heap.size wr w8 := hw8 ▸ (Below.refl wr.heap.size wr).alloc (Nat.le_refl _) _
      have hBx : Blk w8 wr.heap.size 92 #[vS x.1, .int .i64 x.2] := hw8 ▸ Blk.new _ _ _
      have HB8 := Lib.hid (HBR.out.trans (h8.mono HBR.out.size))
      have HM8 := Lib.hid (HMAP.out.below h8)
      have hS8 := Lib.hid (HB.out.kept HB8.out)
      obtain ⟨x0, x1⟩ := hBx.two
      have hgz : w.heap.size ≤ wr.heap.size := HBR.out.size
      have hval : plainElem (H := Unit) Tryz.prog 3 (.int .i64 x.2) = some (.lit (.int .i64 x.2), []) := plainElem_int Tryz.underlying3 (wf_of hxl.2.1 hxl.2.2)
      have hwf := wf_of hxl.2.1 hxl.2.2
      have hkey := key_ok (k := x.1) (by have := hxl.1; unfold maxLen; omega)
      have HVAL := Lib.hid hval
      have HWF := Lib.hid hwf
      have HML := Lib.hid (show (l.take m).length < maxLen by simp [maxLen]; omega)
      have HFIT := Lib.hid (fits_calls x.2)
      have HKEEP : Hid (∀ n, Calls Tryz.prog 48 #[.pointer (some ⟨sb, 0, none⟩)] (w8.drewN n) fun e w' => e = .returned (.bool keep) ∧ w' = w8.drewN n) := Lib.hid fun n => (keeps_calls _ sb k f _ _ (hS8.out.drewN n)).mono fun e w' ⟨h1, h2⟩ => ⟨by rw [h1, HKP.out], h2.symm⟩
      clear hc hx p1 p2 hw8 h8 hBx
      generalize hfb : fitsB x.2 = fb at HFIT
      have HF : Hid (∀ n, Calls Tryz.prog 47 #[.int .i64 x.2] (w8.drewN n) fun e w' => e = .returned (.bool fb) ∧ w' = w8.drewN n) := Lib.hid fun n => (HFIT.out _).mono fun e w' ⟨h1, h2⟩ => ⟨h1, h2.symm⟩
      have HFB := Lib.hid hfb
      have HKEY := Lib.hid hkey
      clear hfb hxl hval hwf hkey
      rcases m with _ | m
      · simp only [Nat.zero_mul, Nat.add_zero, Nat.zero_add] at q1 q2
        have hi0 : (((0 : Nat) : Int)) = 0 := rfl
        cases fb
        · go_wp2_with fail
          rw [← HW8.out]
          go_quiet (first | (go_at_call 47; exact quiet_same (HF.out _)) | (go_at_call 48; exact quiet_same (HKEEP.out _)))
          go_wp2
          go_ret
          refine .inr ⟨by rw [HKP.out]; exact load_bad HX.out (by simp [badE, HFB.out]), rfl, below_drewN HB8.out _⟩
        · by_cases hz : x.2 = 0
          · have hz1 : ((x.2 : Int) == 0) = true := beq_iff_eq.2 hz
            have HZ := Lib.hid hz
            clear hz
            cases keep
            · go_wp2_with fail
              rw [← HW8.out]
              go_quiet (first | (go_at_call 47; exact quiet_same (HF.out _)) | (go_at_call 48; exact quiet_same (HKEEP.out _)))
              go_wp2
              go_ret
              refine .inr ⟨by rw [HKP.out]; exact load_bad HX.out (by simp [badE, HZ.out]), rfl, below_drewN HB8.out _⟩
            · go_wp2_with fail
              rw [← HW8.out]
              go_quiet (first | (go_at_call 47; exact quiet_same (HF.out _)) | (go_at_call 48; exact quiet_same (HKEEP.out _)))
              go_wp2_with (first | (at_mapUpdate; refine wpList_mapUpdate_in _ rfl _ _ _ 98 rfl 9 3 key_laws map_under _ w.heap.size _ _ rfl HM8.out.1 HML.out _ _ _ rfl rfl HKEY.out _ _ HVAL.out ?_; intro w9 hown9 hturn9) | fail)
              have hlp := load_put HX.out HRI.out (fun j y h => by omega)
              have hm9 : MapIs w9 w.heap.size (l.take (0 + 1)) := by
                rw [← hlp.1]; exact MapIs.of_put HM8.out.2.1 HM8.out.2.2 HWF.out hown9
              have hb9 : Below w.heap.size w w9 := (below_drewN HB8.out _).grown hturn9.grown (below_drewN HB8.out _).size (fun k hk => by cases hk; exact Nat.le_refl _)
              go_roundw
              case rel =>
                refine ⟨⟨0 + 1, by omega, by go_num, hm9, hlp.2, fun j y hy hj => ?_⟩, hb9⟩
                rcases Nat.lt_or_ge j 0 with h | h
                · exact HNO.out j y hy h
                · obtain rfl : j = 0 := by omega
                  rw [HX.out] at hy; cases hy
                  simp [badE, HFB.out, prevE]
              case measure => simp [intOf]; omega
          · have hz1 : ((x.2 : Int) == 0) = false := beq_eq_false_iff_ne.2 hz
            have HZ := Lib.hid hz
            clear hz
            go_wp2_with fail
            rw [← HW8.out]
            go_quiet (first | (go_at_call 47; exact quiet_same (HF.out _)) | (go_at_call 48; exact quiet_same (HKEEP.out _)))
            go_wp2_with (first | (at_mapUpdate; refine wpList_mapUpdate_in _ rfl _ _ _ 98 rfl 9 3 key_laws map_under _ w.heap.size _ _ rfl HM8.out.1 HML.out _ _ _ rfl rfl HKEY.out _ _ HVAL.out ?_; intro w9 hown9 hturn9) | fail)
            have hlp := load_put HX.out HRI.out (fun j y h => by omega)
            have hm9 : MapIs w9 w.heap.size (l.take (0 + 1)) := by
              rw [← hlp.1]; exact MapIs.of_put HM8.out.2.1 HM8.out.2.2 HWF.out hown9
            have hb9 : Below w.heap.size w w9 := (below_drewN HB8.out _).grown hturn9.grown (below_drewN HB8.out _).size (fun k hk => by cases hk; exact Nat.le_refl _)
            go_roundw
            case rel =>
              refine ⟨⟨0 + 1, by omega, by go_num, hm9, hlp.2, fun j y hy hj => ?_⟩, hb9⟩
              rcases Nat.lt_or_ge j 0 with h | h
              · exact HNO.out j y hy h
              · obtain rfl : j = 0 := by omega
                rw [HX.out] at hy; cases hy
                simp [badE, HFB.out, HZ.out, prevE]
            case measure => simp [intOf]; omega
      · obtain ⟨y, hy⟩ := at_some (l := l) (k := m) (by omega)
        obtain ⟨p1, _⟩ := HC.out m y hy
        have q0 := (HB8.out.cell (p := ⟨b, off + m * 2, none⟩) hbb).trans p1
        have HY := Lib.hid hy
        have e1 : IntKind.i64.wrap ((m : Int) + 1 - 1) = (m : Int) := by rw [IntWalk.i64_in _ (by omega)]; omega
        have g1 : (0 : Int) < (m : Int) + 1 := by omega
        clear hy p1
        generalize hlb : Op.bytesLess y.1 x.1 = lb
        have HLB := Lib.hid hlb
        cases lb
        · go_wp2_with fail
          rw [← HW8.out]
          go_quiet (first | (go_at_call 47; exact quiet_same (HF.out _)) | (go_at_call 48; exact quiet_same (HKEEP.out _)))
          go_wp2
          go_ret
          refine .inr ⟨by rw [HKP.out]; exact load_bad HX.out (by simp [badE, prevE, HY.out, HLB.out]), rfl, below_drewN HB8.out _⟩
        · cases fb
          · go_wp2_with fail
            rw [← HW8.out]
            go_quiet (first | (go_at_call 47; exact quiet_same (HF.out _)) | (go_at_call 48; exact quiet_same (HKEEP.out _)))
            go_wp2
            go_ret
            refine .inr ⟨by rw [HKP.out]; exact load_bad HX.out (by simp [badE, HFB.out]), rfl, below_drewN HB8.out _⟩
          · by_cases hz : x.2 = 0
            · have hz1 : ((x.2 : Int) == 0) = true := beq_iff_eq.2 hz
              have HZ := Lib.hid hz
              clear hz
              cases keep
              · go_wp2_with fail
                rw [← HW8.out]
                go_quiet (first | (go_at_call 47; exact quiet_same (HF.out _)) | (go_at_call 48; exact quiet_same (HKEEP.out _)))
                go_wp2
                go_ret
                refine .inr ⟨by rw [HKP.out]; exact load_bad HX.out (by simp [badE, HZ.out]), rfl, below_drewN HB8.out _⟩
              · go_wp2_with fail
                rw [← HW8.out]
                go_quiet (first | (go_at_call 47; exact quiet_same (HF.out _)) | (go_at_call 48; exact quiet_same (HKEEP.out _)))
                go_wp2_with (first | (at_mapUpdate; refine wpList_mapUpdate_in _ rfl _ _ _ 98 rfl 9 3 key_laws map_under _ w.heap.size _ _ rfl HM8.out.1 HML.out _ _ _ rfl rfl HKEY.out _ _ HVAL.out ?_; intro w9 hown9 hturn9) | fail)
                have hlp := load_put HX.out HRI.out (fun j z h hz => by have e : j = m := (by omega); subst e; rw [HY.out] at hz; cases hz; exact HLB.out)
                have hm9 : MapIs w9 w.heap.size (l.take (m + 1 + 1)) := by
                  rw [← hlp.1]; exact MapIs.of_put HM8.out.2.1 HM8.out.2.2 HWF.out hown9
                have hb9 : Below w.heap.size w w9 := (below_drewN HB8.out _).grown hturn9.grown (below_drewN HB8.out _).size (fun k hk => by cases hk; exact Nat.le_refl _)
                go_roundw
                case rel =>
                  refine ⟨⟨m + 1 + 1, by omega, by go_num, hm9, hlp.2, fun j y hy hj => ?_⟩, hb9⟩
                  rcases Nat.lt_or_ge j (m + 1) with h | h
                  · exact HNO.out j y hy h
                  · obtain rfl : j = (m + 1) := by omega
                    rw [HX.out] at hy; cases hy
                    simp [badE, HFB.out, prevE, HY.out, HLB.out]
                case measure => simp [intOf]; omega
            · have hz1 : ((x.2 : Int) == 0) = false := beq_eq_false_iff_ne.2 hz
              have HZ := Lib.hid hz
              clear hz
              go_wp2_with fail
              rw [← HW8.out]
              go_quiet (first | (go_at_call 47; exact quiet_same (HF.out _)) | (go_at_call 48; exact quiet_same (HKEEP.out _)))
              go_wp2_with (first | (at_mapUpdate; refine wpList_mapUpdate_in _ rfl _ _ _ 98 rfl 9 3 key_laws map_under _ w.heap.size _ _ rfl HM8.out.1 HML.out _ _ _ rfl rfl HKEY.out _ _ HVAL.out ?_; intro w9 hown9 hturn9) | fail)
              have hlp := load_put HX.out HRI.out (fun j z h hz => by have e : j = m := (by omega); subst e; rw [HY.out] at hz; cases hz; exact HLB.out)
              have hm9 : MapIs w9 w.heap.size (l.take (m + 1 + 1)) := by
                rw [← hlp.1]; exact MapIs.of_put HM8.out.2.1 HM8.out.2.2 HWF.out hown9
              have hb9 : Below w.heap.size w w9 := (below_drewN HB8.out _).grown hturn9.grown (below_drewN HB8.out _).size (fun k hk => by cases hk; exact Nat.le_refl _)
              go_roundw
              case rel =>
                refine ⟨⟨m + 1 + 1, by omega, by go_num, hm9, hlp.2, fun j y hy hj => ?_⟩, hb9⟩
                rcases Nat.lt_or_ge j (m + 1) with h | h
                · exact HNO.out j y hy h
                · obtain rfl : j = (m + 1) := by omega
                  rw [HX.out] at hy; cases hy
                  simp [badE, HFB.out, HZ.out, prevE, HY.out, HLB.out]
              case measure => simp [intOf]; omega
    · obtain rfl : m = l.length := by omega
      have hmap := HMAP.out
      rw [List.take_length] at hmap
      have HMAP := Lib.hid hmap
      have hS8 := HB.out.kept HBR.out
      obtain ⟨c0, c1, c2⟩ := hS8.three
      have hf := hS8.frozen 2
      have HS8 := Lib.hid hS8
      clear hmap hS8
      go_wp2
      go_ret
      refine .inl ⟨by rw [HKP.out]; exact load_good HNO.out, rfl, w.heap.size, ⟨⟨qA, qc, HS8.out.set_ 2 _, ?_⟩, ?_⟩, Nat.le_refl _, ?_⟩
      · exact (HQ.out.same ((same_below HBR.out).mono (Nat.le_of_lt hlt))).same fun b o hb => World.cell?_of_block (Below.heap_setCell _ _ _ b (by simp only; omega))
      · exact HMAP.out.over (Below.heap_setCell _ _ _ _ (by simp only; omega))
      · exact ⟨HBR.out.os, HBR.out.tape, HBR.out.output, by have := HBR.out.size; simpa [World.setCell] using this, fun i hi hne => (Below.heap_setCell _ _ _ i (by simp at hne; exact hne)).trans (HBR.out.block i hi)⟩
end Go.Proofs.YtdonhmdeijidkaaGreat
