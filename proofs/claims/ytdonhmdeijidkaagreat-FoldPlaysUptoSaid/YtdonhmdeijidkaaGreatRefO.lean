/-
  Walk: the reference's set.
-/
import Derived.Test.YtdonhmdeijidkaaGreatRefN
namespace Go.Proofs.YtdonhmdeijidkaaGreat
open Go.RowKit Go.Maps

theorem fold_len {keep : Bool} {key : Str} {n : Int} : ∀ (r : Ents) (s : Bool × Ents), (r.foldl (setF keep key n) s).2.length ≤ s.2.length + 2 * r.length
  | [], s => by simp
  | x :: r, s => by
    have h1 := fold_len (keep := keep) (key := key) (n := n) r (setF keep key n s x)
    have h2 : (setF keep key n s x).2.length ≤ s.2.length + 2 := by
      unfold setF
      simp only
      split <;> split <;> simp <;> omega
    simp only [List.foldl_cons, List.length_cons]
    omega
theorem own_put {w : World} {base : Nat} {T : TypeId} {v : Value} {n : Nat} {o : Ents} {a : Str} {b : Int} (h : w.ownsRow base T 2 v (n + 1) (o.flatMap entCells ++ [vS a, .int .i64 b])) (hn : n = o.length) : w.ownsRow base T 2 v (o ++ [(a, b)]).length ((o ++ [(a, b)]).flatMap entCells) := by
  subst hn
  simpa [entCells] using h

/-- Of what was there just cell 3 of block rb may turn. -/
def Turn3 (w w' : World) (rb : Nat) : Prop := w.grownBy w' (some rb) ∧ ∀ b o, b < w.heap.size → ¬ (b = rb ∧ o = 3) → w'.cell? ⟨b, o, none⟩ = w.cell? ⟨b, o, none⟩
section
variable {w w' w'' : World} {rb : Nat}
theorem Turn3.of_below (h : Below w.heap.size w w') : Turn3 w w' rb := ⟨⟨h.os, h.tape, h.output, h.size, fun i hi _ => h.block i hi⟩, fun b o hb _ => h.cell (p := ⟨b, o, none⟩) hb⟩
theorem Turn3.trans (h : Turn3 w w' rb) (k : Turn3 w' w'' rb) : Turn3 w w'' rb := ⟨h.1.trans k.1, fun b o hb hn => (k.2 b o (Nat.lt_of_lt_of_le hb h.1.size) hn).trans (h.2 b o hb hn)⟩
theorem Strs.turn3 {B : Nat} {A : Option Addr} {l : List Str} {v : Value} (h : Strs w B A l) (hB : B ≤ w.heap.size) (h3 : w.cell? ⟨rb, 3, none⟩ = some v) (hv : ∀ s, v ≠ vS s) (ht : Turn3 w w' rb) : Strs w' B A l := fun hl => by
  obtain ⟨b, off, e, hlt, hc⟩ := h hl
  refine ⟨b, off, e, hlt, fun k s hs => ?_⟩
  rw [ht.2 b (off + k) (by omega) ?_]
  · exact hc k s hs
  · rintro ⟨rfl, e3⟩
    have := hc k s hs
    rw [e3, h3] at this
    injection this with this
    exact hv s this
theorem Flds.turn3 {B : Nat} {A : Option Addr} {l : Ents} {v : Value} (h : Flds w B A l) (hB : B ≤ w.heap.size) (h3 : w.cell? ⟨rb, 3, none⟩ = some v) (hv : ∀ s, v ≠ vS s) (hi : ∀ n, v ≠ .int .i64 n) (ht : Turn3 w w' rb) : Flds w' B A l := fun hl => by
  obtain ⟨b, off, e, hlt, hc⟩ := h hl
  refine ⟨b, off, e, hlt, fun k s hs => ⟨?_, ?_⟩⟩
  · rw [ht.2 b (off + k * 2) (by omega) ?_]
    · exact (hc k s hs).1
    · rintro ⟨rfl, e3⟩
      have := (hc k s hs).1
      rw [e3, h3] at this
      injection this with this
      exact hv s.1 this
  · rw [ht.2 b (off + k * 2 + 1) (by omega) ?_]
    · exact (hc k s hs).2
    · rintro ⟨rfl, e3⟩
      have := (hc k s hs).2
      rw [e3, h3] at this
      injection this with this
      exact hi s.2 this
end

theorem rst_end {w wr : World} {B rb : Nat} {k : Int} {f : Str} {q : List Cl} {qA lA A : Option Addr} {qc lc c m : Nat} {out : Ents} (hB : Blk w rb 51 #[.int .i64 k, vS f, .slice qA q.length qc, .slice lA m lc]) (hq : Cls w B qA q) (hl : B ≤ rb) (hb : Below w.heap.size w wr)
    (hown : wr.ownsRow w.heap.size 92 2 (.slice A out.length c) out.length (out.flatMap entCells)) :
    RSt (wr.setCell ⟨rb, 3, none⟩ (.slice A out.length c)) B rb k f q out ∧ Turn3 w (wr.setCell ⟨rb, 3, none⟩ (.slice A out.length c)) rb := by
  have hlt := hB.lt
  refine ⟨⟨⟨qA, qc, A, c, (hB.kept hb).set_ 3 _, ?_, Flds.of_own rfl (ownsRow_setCell_below hown (a := ⟨rb, 3, none⟩) hlt _)⟩, hl⟩, ⟨?_, fun b o hbl hn => ?_⟩⟩
  · exact (hq.same ((same_below hb).mono (Nat.le_trans hl (Nat.le_of_lt hlt)))).same fun b o hb2 => World.cell?_of_block (Below.heap_setCell _ _ _ b (by simp only; omega))
  · exact ⟨hb.os, hb.tape, hb.output, by have := hb.size; simpa [World.setCell] using this, fun i hi hne => (Below.heap_setCell _ _ _ i (by simp at hne; exact hne)).trans (hb.block i hi)⟩
  · rw [← hb.cell (p := ⟨b, o, none⟩) hbl]
    by_cases hbr : b = rb
    · subst hbr
      have ho : o ≠ 3 := fun e => hn ⟨rfl, e⟩
      have hk := hB.kept hb
      rw [(hk.set_ 3 (.slice A out.length c)).cell o, hk.cell o]
      obtain rfl | rfl | rfl | h4 : o = 0 ∨ o = 1 ∨ o = 2 ∨ 4 ≤ o := by omega
      · rfl
      · rfl
      · rfl
      · rw [Array.getElem?_eq_none (by simp; omega), Array.getElem?_eq_none (by simp; omega)]
    · exact World.cell?_of_block (Below.heap_setCell _ _ _ b hbr)

set_option maxRecDepth 100000 in
set_option maxHeartbeats 4000000 in
theorem set15_zero (w : World) (B rb : Nat) (k : Int) (f : Str) (q : List Cl) (E : Ents) (key : Str) (h : RSt w B rb k f q E) (hn : E.length ≤ 100000) :
    Calls Tryz.prog 55 #[.pointer (some ⟨rb, 0, none⟩), vS key, .int .i64 0] w fun e w' => e = .returned (.tuple #[]) ∧ RSt w' B rb k f q (setR (decide (k = 3)) E key 0) ∧ Turn3 w w' rb := by
  obtain ⟨i0, hi, hz0, hz1, hz2⟩ := info_parts info_ent
  obtain ⟨⟨qA, qc, lA, lc, hB, hq, hF⟩, hlow⟩ := h
  have hlt := hB.lt
  have HB := Lib.hid hB
  have HQ := Lib.hid hq
  have HF := Lib.hid hF
  have HLOW := Lib.hid hlow
  clear hB hq hF hlow
  generalize hkp : decide (k = 3) = keep
  have HKP := Lib.hid hkp
  have hbw0 : Below w.heap.size w (w.alloc (.cells #[] 92)) := (Below.refl w.heap.size w).alloc (Nat.le_refl _) _
  have hown0 := World.ownsRow_made (base := w.heap.size) (e := 92) (size := 2) w #[] 0 (Nat.le_refl _) (by simp [maxLen]) rfl
  have hk3 : ((k : Int) == 3) = keep := by rw [← hkp]; by_cases h : k = 3 <;> simp [h]
  clear hkp
  go_enter Tryz.func55, Tryz.ntmps55
  go_wp2_with fail
  go_loopw [6, 7, 8] (fun o pb i wr => (∃ m : Nat, m ≤ E.length ∧ i = .int .i64 m ∧ ∃ put out, (E.take m).foldl (setF keep key 0) (false, []) = (put, out) ∧ pb = .bool put ∧ wr.ownsRow w.heap.size 92 2 o out.length (out.flatMap entCells)) ∧ Below w.heap.size w wr) (fun _ _ i _ => E.length - (intOf i).toNat)
  case atStart => exact ⟨⟨0, Nat.zero_le _, rfl, false, [], rfl, rfl, hown0⟩, hbw0⟩
  case round =>
    obtain ⟨⟨m, hm, rfl, put, out, hfo, rfl, hown⟩, hbr⟩ := hrel
    have hol : out.length ≤ 2 * E.length := by
      have h1 := fold_len (keep := keep) (key := key) (n := 0) (E.take m) (false, [])
      rw [hfo] at h1
      simp at h1
      omega
    have HFO := Lib.hid hfo
    have HBR := Lib.hid hbr
    have HOWN := Lib.hid hown
    obtain ⟨c0, c1, c2, c3⟩ := (HB.out.kept hbr).four
    have hvb : ∀ g, u6.ownBlock = some g → w.heap.size ≤ g ∧ g < wr.heap.size := fun g e => hown.lt g e
    clear hfo hbr hown
    by_cases hlm : m < E.length
    · obtain ⟨x, hx⟩ := at_some hlm
      obtain ⟨b, off, rfl, hbb, hc⟩ := HF.out (ne_nil_of hlm)
      obtain ⟨p1, p2⟩ := hc m x hx
      have q1 := (HBR.out.cell (p := ⟨b, off + m * 2, none⟩) hbb).trans p1
      have q2 := (HBR.out.cell (p := ⟨b, off + m * 2 + 1, none⟩) hbb).trans p2
      have P1 := Lib.hid p1
      have P2 := Lib.hid p2
      have HX := Lib.hid hx
      have HS := Lib.hid (take_fold (g := setF keep key 0) (b := (false, [])) hx)
      clear hc hx p1 p2
      generalize hlb : Op.bytesLess x.1 key = lb
      have HLB := Lib.hid hlb
      cases put
      · cases lb
        · cases keep
          · skip
            by_cases he : x.1 = key
            · have p1 := P1.out
              rw [he] at p1 q1
              have P1 := Lib.hid p1
              have HEQ := Lib.hid he
              clear he p1
              go_wp2
              go_roundw
              case rel => exact ⟨⟨m + 1, by omega, by go_num, true, out, by rw [HS.out, HFO.out]; simp [setF, HLB.out, HEQ.out, less_irrefl], rfl, HOWN.out⟩, HBR.out⟩
              case measure => simp [intOf]; omega
            · have he2 : (x.1 == key) = false := beq_eq_false_iff_ne.2 he
              have he3 : (key == x.1) = false := beq_eq_false_iff_ne.2 (fun e => he e.symm)
              have hlk : Op.bytesLess key x.1 = true := less_of HLB.out (fun e => he e.symm)
              have HEQ := Lib.hid he
              clear he
              go_wp2_with (first | (at_builtin; refine wpList_append_own _ rfl _ _ 27 rfl w.heap.size 92 i0 _ 2 24 Tryz.underlying27 hi hz0 hz1 hz2 rfl (by decide) _ _ _ rfl (HOWN.out.alloc _) ⟨wr.heap.size, 0, none⟩ 1 1 [vS x.1, .int .i64 x.2] rfl rfl (World.news_of_block (cs := #[vS x.1, .int .i64 x.2]) (t := 92) (fr := (0, 0)) (heap_alloc_new wr _)) (by simp [Value.oneCell']) (by unfold maxLen; omega) (by omega) (by have := HBR.out.size; simp; omega) ?_; intro v5 w5 hown5 hgrow5 hnil; clear hnil; have hb5 := (HBR.out.alloc HBR.out.size _).grown hgrow5 (by have := HBR.out.size; simp; omega) (fun g e => (hvb g e).1); have ho5 := own_put hown5 rfl) | fail)
              go_roundw
              case rel => exact ⟨⟨m + 1, by omega, by go_num, true, out ++ [(x.1, x.2)], by rw [HS.out, HFO.out]; simp [setF, HLB.out, HEQ.out], rfl, ho5⟩, hb5⟩
              case measure => simp [intOf]; omega
          · skip
            by_cases he : x.1 = key
            · have p1 := P1.out
              rw [he] at p1 q1
              have P1 := Lib.hid p1
              have HEQ := Lib.hid he
              clear he p1
              go_wp2_with (first | (at_builtin; refine wpList_append_own _ rfl _ _ 27 rfl w.heap.size 92 i0 _ 2 24 Tryz.underlying27 hi hz0 hz1 hz2 rfl (by decide) _ _ _ rfl (HOWN.out.alloc _) ⟨wr.heap.size, 0, none⟩ 1 1 [vS key, .int .i64 0] rfl rfl (World.news_of_block (cs := #[vS key, .int .i64 0]) (t := 92) (fr := (0, 0)) (heap_alloc_new wr _)) (by simp [Value.oneCell']) (by unfold maxLen; omega) (by omega) (by have := HBR.out.size; simp; omega) ?_; intro v4 w4 hown4 hgrow4 hnil; clear hnil; have hb4 := (HBR.out.alloc HBR.out.size _).grown hgrow4 (by have := HBR.out.size; simp; omega) (fun g e => (hvb g e).1); have ho4 := own_put hown4 rfl; have hvb4 : ∀ g, v4.ownBlock = some g → w.heap.size ≤ g ∧ g < w4.heap.size := (fun g e => ho4.lt g e); clear c0 c1 c2 c3 q1 q2; obtain ⟨c0, c1, c2, c3⟩ := (HB.out.kept hb4).four; have q1 := (hb4.cell (p := ⟨b, off + m * 2, none⟩) hbb).trans P1.out; have q2 := (hb4.cell (p := ⟨b, off + m * 2 + 1, none⟩) hbb).trans P2.out; have hl4 : (out ++ [(key, 0)]).length ≤ 2 * E.length + 1 := (by simp; omega)) | fail)
              go_roundw
              case rel => exact ⟨⟨m + 1, by omega, by go_num, true, out ++ [(key, 0)], by rw [HS.out, HFO.out]; simp [setF, HLB.out, HEQ.out, less_irrefl], rfl, ho4⟩, hb4⟩
              case measure => simp [intOf]; omega
            · have he2 : (x.1 == key) = false := beq_eq_false_iff_ne.2 he
              have he3 : (key == x.1) = false := beq_eq_false_iff_ne.2 (fun e => he e.symm)
              have hlk : Op.bytesLess key x.1 = true := less_of HLB.out (fun e => he e.symm)
              have HEQ := Lib.hid he
              clear he
              go_wp2_with (first | (at_builtin; refine wpList_append_own _ rfl _ _ 27 rfl w.heap.size 92 i0 _ 2 24 Tryz.underlying27 hi hz0 hz1 hz2 rfl (by decide) _ _ _ rfl (ho4.alloc _) ⟨w4.heap.size, 0, none⟩ 1 1 [vS x.1, .int .i64 x.2] rfl rfl (World.news_of_block (cs := #[vS x.1, .int .i64 x.2]) (t := 92) (fr := (0, 0)) (heap_alloc_new w4 _)) (by simp [Value.oneCell']) (by unfold maxLen; omega) (by omega) (by have := hb4.size; simp; omega) ?_; intro v5 w5 hown5 hgrow5 hnil; clear hnil; have hb5 := (hb4.alloc hb4.size _).grown hgrow5 (by have := hb4.size; simp; omega) (fun g e => (hvb4 g e).1); have ho5 := own_put hown5 rfl) | (at_builtin; refine wpList_append_own _ rfl _ _ 27 rfl w.heap.size 92 i0 _ 2 24 Tryz.underlying27 hi hz0 hz1 hz2 rfl (by decide) _ _ _ rfl (HOWN.out.alloc _) ⟨wr.heap.size, 0, none⟩ 1 1 [vS key, .int .i64 0] rfl rfl (World.news_of_block (cs := #[vS key, .int .i64 0]) (t := 92) (fr := (0, 0)) (heap_alloc_new wr _)) (by simp [Value.oneCell']) (by unfold maxLen; omega) (by omega) (by have := HBR.out.size; simp; omega) ?_; intro v4 w4 hown4 hgrow4 hnil; clear hnil; have hb4 := (HBR.out.alloc HBR.out.size _).grown hgrow4 (by have := HBR.out.size; simp; omega) (fun g e => (hvb g e).1); have ho4 := own_put hown4 rfl; have hvb4 : ∀ g, v4.ownBlock = some g → w.heap.size ≤ g ∧ g < w4.heap.size := (fun g e => ho4.lt g e); clear c0 c1 c2 c3 q1 q2; obtain ⟨c0, c1, c2, c3⟩ := (HB.out.kept hb4).four; have q1 := (hb4.cell (p := ⟨b, off + m * 2, none⟩) hbb).trans P1.out; have q2 := (hb4.cell (p := ⟨b, off + m * 2 + 1, none⟩) hbb).trans P2.out; have hl4 : (out ++ [(key, 0)]).length ≤ 2 * E.length + 1 := (by simp; omega)))
              go_roundw
              case rel => exact ⟨⟨m + 1, by omega, by go_num, true, out ++ [(key, 0)] ++ [(x.1, x.2)], by rw [HS.out, HFO.out]; simp [setF, HLB.out, HEQ.out], rfl, ho5⟩, hb5⟩
              case measure => simp [intOf]; omega
        · skip
          by_cases he : x.1 = key
          · exact absurd he (less_ne HLB.out)
          · have he2 : (x.1 == key) = false := beq_eq_false_iff_ne.2 he
            have he3 : (key == x.1) = false := beq_eq_false_iff_ne.2 (fun e => he e.symm)
            have hlk : Op.bytesLess key x.1 = false := less_asymm HLB.out
            have HEQ := Lib.hid he
            clear he
            go_wp2_with (first | (at_builtin; refine wpList_append_own _ rfl _ _ 27 rfl w.heap.size 92 i0 _ 2 24 Tryz.underlying27 hi hz0 hz1 hz2 rfl (by decide) _ _ _ rfl (HOWN.out.alloc _) ⟨wr.heap.size, 0, none⟩ 1 1 [vS x.1, .int .i64 x.2] rfl rfl (World.news_of_block (cs := #[vS x.1, .int .i64 x.2]) (t := 92) (fr := (0, 0)) (heap_alloc_new wr _)) (by simp [Value.oneCell']) (by unfold maxLen; omega) (by omega) (by have := HBR.out.size; simp; omega) ?_; intro v5 w5 hown5 hgrow5 hnil; clear hnil; have hb5 := (HBR.out.alloc HBR.out.size _).grown hgrow5 (by have := HBR.out.size; simp; omega) (fun g e => (hvb g e).1); have ho5 := own_put hown5 rfl) | fail)
            go_roundw
            case rel => exact ⟨⟨m + 1, by omega, by go_num, false, out ++ [(x.1, x.2)], by rw [HS.out, HFO.out]; simp [setF, HLB.out, HEQ.out], rfl, ho5⟩, hb5⟩
            case measure => simp [intOf]; omega
      · skip
        by_cases he : x.1 = key
        · have p1 := P1.out
          rw [he] at p1 q1
          have P1 := Lib.hid p1
          have HEQ := Lib.hid he
          clear he p1
          go_wp2
          go_roundw
          case rel => exact ⟨⟨m + 1, by omega, by go_num, true, out, by rw [HS.out, HFO.out]; simp [setF, HLB.out, HEQ.out, less_irrefl], rfl, HOWN.out⟩, HBR.out⟩
          case measure => simp [intOf]; omega
        · have he2 : (x.1 == key) = false := beq_eq_false_iff_ne.2 he
          have he3 : (key == x.1) = false := beq_eq_false_iff_ne.2 (fun e => he e.symm)
          have HEQ := Lib.hid he
          clear he
          go_wp2_with (first | (at_builtin; refine wpList_append_own _ rfl _ _ 27 rfl w.heap.size 92 i0 _ 2 24 Tryz.underlying27 hi hz0 hz1 hz2 rfl (by decide) _ _ _ rfl (HOWN.out.alloc _) ⟨wr.heap.size, 0, none⟩ 1 1 [vS x.1, .int .i64 x.2] rfl rfl (World.news_of_block (cs := #[vS x.1, .int .i64 x.2]) (t := 92) (fr := (0, 0)) (heap_alloc_new wr _)) (by simp [Value.oneCell']) (by unfold maxLen; omega) (by omega) (by have := HBR.out.size; simp; omega) ?_; intro v5 w5 hown5 hgrow5 hnil; clear hnil; have hb5 := (HBR.out.alloc HBR.out.size _).grown hgrow5 (by have := HBR.out.size; simp; omega) (fun g e => (hvb g e).1); have ho5 := own_put hown5 rfl) | fail)
          go_roundw
          case rel => exact ⟨⟨m + 1, by omega, by go_num, true, out ++ [(x.1, x.2)], by rw [HS.out, HFO.out]; simp [setF, HLB.out, HEQ.out], rfl, ho5⟩, hb5⟩
          case measure => simp [intOf]; omega
    · obtain rfl : m = E.length := by omega
      have hsr : setR keep E key 0 = setZ keep key 0 (put, out) := by
        have e := HFO.out
        rw [List.take_length] at e
        unfold setR
        rw [e]
      have HSR := Lib.hid hsr
      clear hsr
      cases put
      · cases keep
        · obtain ⟨A3, c3', rfl⟩ := own_slice HOWN.out
          have hf := (HB.out.kept HBR.out).frozen 3
          go_wp2
          first | go_end0 | refine bodyPost_ret (results_none rfl _ _ _) rfl ?_
          have hend := rst_end HB.out HQ.out HLOW.out HBR.out HOWN.out
          refine ⟨rfl, ?_, hend.2⟩
          rw [HSR.out, show setZ false key 0 (false, out) = out by simp [setZ]]
          exact hend.1
        · go_wp2_with (first | (at_builtin; refine wpList_append_own _ rfl _ _ 27 rfl w.heap.size 92 i0 _ 2 24 Tryz.underlying27 hi hz0 hz1 hz2 rfl (by decide) _ _ _ rfl (HOWN.out.alloc _) ⟨wr.heap.size, 0, none⟩ 1 1 [vS key, .int .i64 0] rfl rfl (World.news_of_block (cs := #[vS key, .int .i64 0]) (t := 92) (fr := (0, 0)) (heap_alloc_new wr _)) (by simp [Value.oneCell']) (by unfold maxLen; omega) (by omega) (by have := HBR.out.size; simp; omega) ?_; intro v4 w4 hown4 hgrow4 hnil; clear hnil; have hb4 := (HBR.out.alloc HBR.out.size _).grown hgrow4 (by have := HBR.out.size; simp; omega) (fun g e => (hvb g e).1); have ho4 := own_put hown4 rfl; obtain ⟨A3, c3', rfl⟩ := own_slice ho4; have hf := (HB.out.kept hb4).frozen 3; clear c0 c1 c2 c3; obtain ⟨c0, c1, c2, c3⟩ := (HB.out.kept hb4).four) | fail)
          first | go_end0 | refine bodyPost_ret (results_none rfl _ _ _) rfl ?_
          have hend := rst_end HB.out HQ.out HLOW.out hb4 ho4
          rw [List.length_append] at hend
          refine ⟨rfl, ?_, hend.2⟩
          rw [HSR.out, show setZ true key 0 (false, out) = out ++ [(key, 0)] by simp [setZ]]
          exact hend.1
      · obtain ⟨A3, c3', rfl⟩ := own_slice HOWN.out
        have hf := (HB.out.kept HBR.out).frozen 3
        go_wp2
        first | go_end0 | refine bodyPost_ret (results_none rfl _ _ _) rfl ?_
        have hend := rst_end HB.out HQ.out HLOW.out HBR.out HOWN.out
        refine ⟨rfl, ?_, hend.2⟩
        rw [HSR.out, show setZ keep key 0 (true, out) = out by simp [setZ]]
        exact hend.1

set_option maxRecDepth 100000 in
set_option maxHeartbeats 4000000 in
theorem set15_some (w : World) (B rb : Nat) (k : Int) (f : Str) (q : List Cl) (E : Ents) (key : Str) (n : Int) (h : RSt w B rb k f q E) (hn : E.length ≤ 100000) (h0 : n ≠ 0) :
    Calls Tryz.prog 55 #[.pointer (some ⟨rb, 0, none⟩), vS key, .int .i64 n] w fun e w' => e = .returned (.tuple #[]) ∧ RSt w' B rb k f q (setR (decide (k = 3)) E key n) ∧ Turn3 w w' rb := by
  have hnz : ((n : Int) == 0) = false := beq_eq_false_iff_ne.2 h0
  have HZN := Lib.hid h0
  clear h0
  obtain ⟨i0, hi, hz0, hz1, hz2⟩ := info_parts info_ent
  obtain ⟨⟨qA, qc, lA, lc, hB, hq, hF⟩, hlow⟩ := h
  have hlt := hB.lt
  have HB := Lib.hid hB
  have HQ := Lib.hid hq
  have HF := Lib.hid hF
  have HLOW := Lib.hid hlow
  clear hB hq hF hlow
  generalize hkp : decide (k = 3) = keep
  have HKP := Lib.hid hkp
  have hbw0 : Below w.heap.size w (w.alloc (.cells #[] 92)) := (Below.refl w.heap.size w).alloc (Nat.le_refl _) _
  have hown0 := World.ownsRow_made (base := w.heap.size) (e := 92) (size := 2) w #[] 0 (Nat.le_refl _) (by simp [maxLen]) rfl
  have hk3 : ((k : Int) == 3) = keep := by rw [← hkp]; by_cases h : k = 3 <;> simp [h]
  clear hkp
  go_enter Tryz.func55, Tryz.ntmps55
  go_wp2_with fail
  go_loopw [6, 7, 8] (fun o pb i wr => (∃ m : Nat, m ≤ E.length ∧ i = .int .i64 m ∧ ∃ put out, (E.take m).foldl (setF keep key n) (false, []) = (put, out) ∧ pb = .bool put ∧ wr.ownsRow w.heap.size 92 2 o out.length (out.flatMap entCells)) ∧ Below w.heap.size w wr) (fun _ _ i _ => E.length - (intOf i).toNat)
  case atStart => exact ⟨⟨0, Nat.zero_le _, rfl, false, [], rfl, rfl, hown0⟩, hbw0⟩
  case round =>
    obtain ⟨⟨m, hm, rfl, put, out, hfo, rfl, hown⟩, hbr⟩ := hrel
    have hol : out.length ≤ 2 * E.length := by
      have h1 := fold_len (keep := keep) (key := key) (n := n) (E.take m) (false, [])
      rw [hfo] at h1
      simp at h1
      omega
    have HFO := Lib.hid hfo
    have HBR := Lib.hid hbr
    have HOWN := Lib.hid hown
    obtain ⟨c0, c1, c2, c3⟩ := (HB.out.kept hbr).four
    have hvb : ∀ g, u6.ownBlock = some g → w.heap.size ≤ g ∧ g < wr.heap.size := fun g e => hown.lt g e
    clear hfo hbr hown
    by_cases hlm : m < E.length
    · obtain ⟨x, hx⟩ := at_some hlm
      obtain ⟨b, off, rfl, hbb, hc⟩ := HF.out (ne_nil_of hlm)
      obtain ⟨p1, p2⟩ := hc m x hx
      have q1 := (HBR.out.cell (p := ⟨b, off + m * 2, none⟩) hbb).trans p1
      have q2 := (HBR.out.cell (p := ⟨b, off + m * 2 + 1, none⟩) hbb).trans p2
      have P1 := Lib.hid p1
      have P2 := Lib.hid p2
      have HX := Lib.hid hx
      have HS := Lib.hid (take_fold (g := setF keep key n) (b := (false, [])) hx)
      clear hc hx p1 p2
      generalize hlb : Op.bytesLess x.1 key = lb
      have HLB := Lib.hid hlb
      cases put
      · cases lb
        · skip
          by_cases he : x.1 = key
          · have p1 := P1.out
            rw [he] at p1 q1
            have P1 := Lib.hid p1
            have HEQ := Lib.hid he
            clear he p1
            go_wp2_with (first | (at_builtin; refine wpList_append_own _ rfl _ _ 27 rfl w.heap.size 92 i0 _ 2 24 Tryz.underlying27 hi hz0 hz1 hz2 rfl (by decide) _ _ _ rfl (HOWN.out.alloc _) ⟨wr.heap.size, 0, none⟩ 1 1 [vS key, .int .i64 n] rfl rfl (World.news_of_block (cs := #[vS key, .int .i64 n]) (t := 92) (fr := (0, 0)) (heap_alloc_new wr _)) (by simp [Value.oneCell']) (by unfold maxLen; omega) (by omega) (by have := HBR.out.size; simp; omega) ?_; intro v4 w4 hown4 hgrow4 hnil; clear hnil; have hb4 := (HBR.out.alloc HBR.out.size _).grown hgrow4 (by have := HBR.out.size; simp; omega) (fun g e => (hvb g e).1); have ho4 := own_put hown4 rfl; have hvb4 : ∀ g, v4.ownBlock = some g → w.heap.size ≤ g ∧ g < w4.heap.size := (fun g e => ho4.lt g e); clear c0 c1 c2 c3 q1 q2; obtain ⟨c0, c1, c2, c3⟩ := (HB.out.kept hb4).four; have q1 := (hb4.cell (p := ⟨b, off + m * 2, none⟩) hbb).trans P1.out; have q2 := (hb4.cell (p := ⟨b, off + m * 2 + 1, none⟩) hbb).trans P2.out; have hl4 : (out ++ [(key, n)]).length ≤ 2 * E.length + 1 := (by simp; omega)) | fail)
            go_roundw
            case rel => exact ⟨⟨m + 1, by omega, by go_num, true, out ++ [(key, n)], by rw [HS.out, HFO.out]; simp [setF, HLB.out, HZN.out, HEQ.out, less_irrefl], rfl, ho4⟩, hb4⟩
            case measure => simp [intOf]; omega
          · have he2 : (x.1 == key) = false := beq_eq_false_iff_ne.2 he
            have he3 : (key == x.1) = false := beq_eq_false_iff_ne.2 (fun e => he e.symm)
            have hlk : Op.bytesLess key x.1 = true := less_of HLB.out (fun e => he e.symm)
            have HEQ := Lib.hid he
            clear he
            go_wp2_with (first | (at_builtin; refine wpList_append_own _ rfl _ _ 27 rfl w.heap.size 92 i0 _ 2 24 Tryz.underlying27 hi hz0 hz1 hz2 rfl (by decide) _ _ _ rfl (ho4.alloc _) ⟨w4.heap.size, 0, none⟩ 1 1 [vS x.1, .int .i64 x.2] rfl rfl (World.news_of_block (cs := #[vS x.1, .int .i64 x.2]) (t := 92) (fr := (0, 0)) (heap_alloc_new w4 _)) (by simp [Value.oneCell']) (by unfold maxLen; omega) (by omega) (by have := hb4.size; simp; omega) ?_; intro v5 w5 hown5 hgrow5 hnil; clear hnil; have hb5 := (hb4.alloc hb4.size _).grown hgrow5 (by have := hb4.size; simp; omega) (fun g e => (hvb4 g e).1); have ho5 := own_put hown5 rfl) | (at_builtin; refine wpList_append_own _ rfl _ _ 27 rfl w.heap.size 92 i0 _ 2 24 Tryz.underlying27 hi hz0 hz1 hz2 rfl (by decide) _ _ _ rfl (HOWN.out.alloc _) ⟨wr.heap.size, 0, none⟩ 1 1 [vS key, .int .i64 n] rfl rfl (World.news_of_block (cs := #[vS key, .int .i64 n]) (t := 92) (fr := (0, 0)) (heap_alloc_new wr _)) (by simp [Value.oneCell']) (by unfold maxLen; omega) (by omega) (by have := HBR.out.size; simp; omega) ?_; intro v4 w4 hown4 hgrow4 hnil; clear hnil; have hb4 := (HBR.out.alloc HBR.out.size _).grown hgrow4 (by have := HBR.out.size; simp; omega) (fun g e => (hvb g e).1); have ho4 := own_put hown4 rfl; have hvb4 : ∀ g, v4.ownBlock = some g → w.heap.size ≤ g ∧ g < w4.heap.size := (fun g e => ho4.lt g e); clear c0 c1 c2 c3 q1 q2; obtain ⟨c0, c1, c2, c3⟩ := (HB.out.kept hb4).four; have q1 := (hb4.cell (p := ⟨b, off + m * 2, none⟩) hbb).trans P1.out; have q2 := (hb4.cell (p := ⟨b, off + m * 2 + 1, none⟩) hbb).trans P2.out; have hl4 : (out ++ [(key, n)]).length ≤ 2 * E.length + 1 := (by simp; omega)))
            go_roundw
            case rel => exact ⟨⟨m + 1, by omega, by go_num, true, out ++ [(key, n)] ++ [(x.1, x.2)], by rw [HS.out, HFO.out]; simp [setF, HLB.out, HZN.out, HEQ.out], rfl, ho5⟩, hb5⟩
            case measure => simp [intOf]; omega
        · skip
          by_cases he : x.1 = key
          · exact absurd he (less_ne HLB.out)
          · have he2 : (x.1 == key) = false := beq_eq_false_iff_ne.2 he
            have he3 : (key == x.1) = false := beq_eq_false_iff_ne.2 (fun e => he e.symm)
            have hlk : Op.bytesLess key x.1 = false := less_asymm HLB.out
            have HEQ := Lib.hid he
            clear he
            go_wp2_with (first | (at_builtin; refine wpList_append_own _ rfl _ _ 27 rfl w.heap.size 92 i0 _ 2 24 Tryz.underlying27 hi hz0 hz1 hz2 rfl (by decide) _ _ _ rfl (HOWN.out.alloc _) ⟨wr.heap.size, 0, none⟩ 1 1 [vS x.1, .int .i64 x.2] rfl rfl (World.news_of_block (cs := #[vS x.1, .int .i64 x.2]) (t := 92) (fr := (0, 0)) (heap_alloc_new wr _)) (by simp [Value.oneCell']) (by unfold maxLen; omega) (by omega) (by have := HBR.out.size; simp; omega) ?_; intro v5 w5 hown5 hgrow5 hnil; clear hnil; have hb5 := (HBR.out.alloc HBR.out.size _).grown hgrow5 (by have := HBR.out.size; simp; omega) (fun g e => (hvb g e).1); have ho5 := own_put hown5 rfl) | fail)
            go_roundw
            case rel => exact ⟨⟨m + 1, by omega, by go_num, false, out ++ [(x.1, x.2)], by rw [HS.out, HFO.out]; simp [setF, HLB.out, HEQ.out], rfl, ho5⟩, hb5⟩
            case measure => simp [intOf]; omega
      · skip
        by_cases he : x.1 = key
        · have p1 := P1.out
          rw [he] at p1 q1
          have P1 := Lib.hid p1
          have HEQ := Lib.hid he
          clear he p1
          go_wp2
          go_roundw
          case rel => exact ⟨⟨m + 1, by omega, by go_num, true, out, by rw [HS.out, HFO.out]; simp [setF, HLB.out, HEQ.out, less_irrefl], rfl, HOWN.out⟩, HBR.out⟩
          case measure => simp [intOf]; omega
        · have he2 : (x.1 == key) = false := beq_eq_false_iff_ne.2 he
          have he3 : (key == x.1) = false := beq_eq_false_iff_ne.2 (fun e => he e.symm)
          have HEQ := Lib.hid he
          clear he
          go_wp2_with (first | (at_builtin; refine wpList_append_own _ rfl _ _ 27 rfl w.heap.size 92 i0 _ 2 24 Tryz.underlying27 hi hz0 hz1 hz2 rfl (by decide) _ _ _ rfl (HOWN.out.alloc _) ⟨wr.heap.size, 0, none⟩ 1 1 [vS x.1, .int .i64 x.2] rfl rfl (World.news_of_block (cs := #[vS x.1, .int .i64 x.2]) (t := 92) (fr := (0, 0)) (heap_alloc_new wr _)) (by simp [Value.oneCell']) (by unfold maxLen; omega) (by omega) (by have := HBR.out.size; simp; omega) ?_; intro v5 w5 hown5 hgrow5 hnil; clear hnil; have hb5 := (HBR.out.alloc HBR.out.size _).grown hgrow5 (by have := HBR.out.size; simp; omega) (fun g e => (hvb g e).1); have ho5 := own_put hown5 rfl) | fail)
          go_roundw
          case rel => exact ⟨⟨m + 1, by omega, by go_num, true, out ++ [(x.1, x.2)], by rw [HS.out, HFO.out]; simp [setF, HLB.out, HEQ.out], rfl, ho5⟩, hb5⟩
          case measure => simp [intOf]; omega
    · obtain rfl : m = E.length := by omega
      have hsr : setR keep E key n = setZ keep key n (put, out) := by
        have e := HFO.out
        rw [List.take_length] at e
        unfold setR
        rw [e]
      have HSR := Lib.hid hsr
      clear hsr
      cases put
      · go_wp2_with (first | (at_builtin; refine wpList_append_own _ rfl _ _ 27 rfl w.heap.size 92 i0 _ 2 24 Tryz.underlying27 hi hz0 hz1 hz2 rfl (by decide) _ _ _ rfl (HOWN.out.alloc _) ⟨wr.heap.size, 0, none⟩ 1 1 [vS key, .int .i64 n] rfl rfl (World.news_of_block (cs := #[vS key, .int .i64 n]) (t := 92) (fr := (0, 0)) (heap_alloc_new wr _)) (by simp [Value.oneCell']) (by unfold maxLen; omega) (by omega) (by have := HBR.out.size; simp; omega) ?_; intro v4 w4 hown4 hgrow4 hnil; clear hnil; have hb4 := (HBR.out.alloc HBR.out.size _).grown hgrow4 (by have := HBR.out.size; simp; omega) (fun g e => (hvb g e).1); have ho4 := own_put hown4 rfl; obtain ⟨A3, c3', rfl⟩ := own_slice ho4; have hf := (HB.out.kept hb4).frozen 3; clear c0 c1 c2 c3; obtain ⟨c0, c1, c2, c3⟩ := (HB.out.kept hb4).four) | fail)
        first | go_end0 | refine bodyPost_ret (results_none rfl _ _ _) rfl ?_
        have hend := rst_end HB.out HQ.out HLOW.out hb4 ho4
        rw [List.length_append] at hend
        refine ⟨rfl, ?_, hend.2⟩
        rw [HSR.out, show setZ keep key n (false, out) = out ++ [(key, n)] by simp [setZ, HZN.out]]
        exact hend.1
      · obtain ⟨A3, c3', rfl⟩ := own_slice HOWN.out
        have hf := (HB.out.kept HBR.out).frozen 3
        go_wp2
        first | go_end0 | refine bodyPost_ret (results_none rfl _ _ _) rfl ?_
        have hend := rst_end HB.out HQ.out HLOW.out HBR.out HOWN.out
        refine ⟨rfl, ?_, hend.2⟩
        rw [HSR.out, show setZ keep key n (true, out) = out by simp [setZ]]
        exact hend.1
end Go.Proofs.YtdonhmdeijidkaaGreat
