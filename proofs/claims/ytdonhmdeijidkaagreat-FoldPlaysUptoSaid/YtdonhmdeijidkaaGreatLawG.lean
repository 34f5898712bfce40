/-
  Walks: the reference's clause and Match (layer 6), Same (layer 15).
-/
import Derived.Test.YtdonhmdeijidkaaGreatLawC
import Derived.BigQuiet
namespace Go.Proofs.YtdonhmdeijidkaaGreat
open Go.RowKit Go.Maps
attribute [local go_sem ↓] Go.wp_at_zero Go.wp_at_succ

set_option maxRecDepth 100000 in
set_option maxHeartbeats 4000000 in
theorem clause06_calls (w : World) (tA yA : Option Addr) (tc yc : Nat) (cl : Cl) (e0 : Ev) (eA fA : Option Addr) (ec fc : Nat) (h1 : Strs w w.heap.size tA cl.tags) (h2 : Strs w w.heap.size yA cl.types) (hs : cl.Small) (hT : Strs w w.heap.size eA e0.tags) (hn : e0.tags.length ≤ 1048576) :
    Calls Tryz.prog 97 #[.agg #[.slice tA cl.tags.length tc, .slice yA cl.types.length yc], .agg #[vS e0.stream, vS e0.typ, .slice eA e0.tags.length ec, .slice fA e0.flds.length fc]] w fun e w' => e = .returned (.bool (clauseB e0 cl)) ∧ Below w.heap.size w w' := by
  obtain ⟨⟨hs1, _⟩, hs2, _⟩ := hs
  obtain ⟨w1, hw1⟩ : ∃ y, y = (w.alloc (.cells #[.slice tA cl.tags.length tc, .slice yA cl.types.length yc] 115)).alloc (.cells #[vS e0.stream, vS e0.typ, .slice eA e0.tags.length ec, .slice fA e0.flds.length fc] 45) := ⟨_, rfl⟩
  have hb : Below w.heap.size w w1 := hw1 ▸ ((Below.refl w.heap.size w).alloc (Nat.le_refl _) _).alloc (by simp) _
  have hC : Blk w1 w.heap.size 115 #[.slice tA cl.tags.length tc, .slice yA cl.types.length yc] := hw1 ▸ (Blk.new w _ _).alloc _
  have hE : Blk w1 (w.heap.size + 1) 45 #[vS e0.stream, vS e0.typ, .slice eA e0.tags.length ec, .slice fA e0.flds.length fc] := by
    have := Blk.new (w.alloc (.cells #[.slice tA cl.tags.length tc, .slice yA cl.types.length yc] 115)) 45 #[vS e0.stream, vS e0.typ, .slice eA e0.tags.length ec, .slice fA e0.flds.length fc]
    rw [hw1]; simpa using this
  have H1 := Lib.hid ((h1.same (same_below hb)).more hb.size)
  have H2 := Lib.hid ((h2.same (same_below hb)).more hb.size)
  have HT := Lib.hid ((hT.same (same_below hb)).more hb.size)
  have HB := Lib.hid hb
  have HC := Lib.hid hC
  have HE := Lib.hid hE
  clear h1 h2 hT hb hC hE
  go_enter Tryz.func97, Tryz.ntmps97
  go_wp2_with fail
  rw [← hw1]
  clear hw1
  go_loopw [5, 6] (fun i _ wr => (∃ k : Nat, k ≤ cl.tags.length ∧ i = .int .i64 k ∧ ∀ j y, cl.tags[j]? = some y → j < k → (!(e0.tags.any (· == y))) = false) ∧ Below w1.heap.size w1 wr) (fun i _ _ => cl.tags.length - (intOf i).toNat)
  case atStart => exact ⟨⟨0, Nat.zero_le _, rfl, by simp⟩, Below.refl _ _⟩
  case round =>
    obtain ⟨⟨k, hk, rfl, hno⟩, hbr⟩ := hrel
    have HN := Lib.hid hno
    have HBR := Lib.hid hbr
    clear hno
    obtain ⟨c0, c1⟩ := (HC.out.kept hbr).two
    obtain ⟨d0, d1, d2, d3⟩ := (HE.out.kept hbr).four
    by_cases hlt : k < cl.tags.length
    · obtain ⟨x, hx⟩ := at_some hlt
      obtain ⟨b, off, rfl, hbb, hc⟩ := H1.out (ne_nil_of hlt)
      have q1 := (hbr.cell (p := ⟨b, off + k, none⟩) hbb).trans (hc k x hx)
      have HX := Lib.hid hx
      have HAS := Lib.hid (has04_calls wr.drew e0.stream e0.typ x eA fA e0.flds.length ec fc e0.tags ((HT.out.same (same_below hbr)).more hbr.size) hn)
      generalize hha : e0.tags.any (· == x) = ha at HAS
      have HHA := Lib.hid hha
      clear hc hx hbr hha
      cases ha
      · go_wp2_with fail
        go_region_law (first | (go_simp; go_at_call 130; (with_reducible refine HAS.out.mono ?_); rintro e w2 ⟨rfl, hb2⟩))
        all_goals
          have HB2 := Lib.hid (undrew hb2)
          clear hb2
          go_wp2
          go_ret
          refine ⟨ret_bool ?_, HB.out.trans ((HBR.out.trans (HB2.out.mono HBR.out.size)).mono HB.out.size)⟩
          unfold clauseB
          rw [any_hit (p := fun s => !(e0.tags.any (· == s))) HX.out (by rw [HHA.out]; rfl)]
          rfl
      · go_wp2_with fail
        go_region_law (first | (go_simp; go_at_call 130; (with_reducible refine HAS.out.mono ?_); rintro e w2 ⟨rfl, hb2⟩))
        all_goals
          have HB2 := Lib.hid (undrew hb2)
          clear hb2
          go_wp2
          go_roundw
          case rel => exact ⟨⟨k + 1, by omega, by go_num, no_succ (p := fun s => !(e0.tags.any (· == s))) HN.out HX.out (by simp only [HHA.out]; rfl)⟩, HBR.out.trans (HB2.out.mono HBR.out.size)⟩
          case measure => simp [intOf]; omega
    · obtain rfl : k = cl.tags.length := by omega
      have HALL := Lib.hid (any_miss (p := fun s => !(e0.tags.any (· == s))) HN.out)
      clear hbr
      go_wp2_with fail
      go_loopw [7] (fun i w' => (∃ k : Nat, k ≤ cl.types.length ∧ i = .int .i64 k ∧ ∀ j y, cl.types[j]? = some y → j < k → (y == e0.typ) = false) ∧ ∃ n, w' = wr.drewN n) (fun i _ => cl.types.length - (intOf i).toNat)
      case atStart => exact ⟨⟨0, Nat.zero_le _, rfl, by simp⟩, 0, rfl⟩
      case round =>
        obtain ⟨⟨k, hk, rfl, hno⟩, n, rfl⟩ := hrel
        have HN := Lib.hid hno
        clear hno
        by_cases hlt : k < cl.types.length
        · obtain ⟨x, hx⟩ := at_some hlt
          obtain ⟨b, off, rfl, hbb, hc⟩ := H2.out (ne_nil_of hlt)
          have q1 := (HBR.out.cell (p := ⟨b, off + k, none⟩) hbb).trans (hc k x hx)
          have HX := Lib.hid hx
          clear hc hx
          by_cases hxt : x = e0.typ
          · have HXT := Lib.hid hxt
            rw [hxt] at q1
            clear hxt
            go_wp2_with fail
            go_quiet (fail)
            go_wp2
            go_ret
            refine ⟨ret_bool ?_, below_drewN (below_drewN (HB.out.trans (HBR.out.mono HB.out.size)) _) _⟩
            unfold clauseB
            rw [HALL.out, any_hit (p := fun y => y == e0.typ) HX.out (by simp [HXT.out])]
            simp
          · have hz : (x == e0.typ) = false := beq_eq_false_iff_ne.2 hxt
            have HZ := Lib.hid hz
            clear hxt
            go_wp2_with fail
            go_quiet (fail)
            go_wp2
            go_roundw
            case rel => exact ⟨⟨k + 1, by omega, by go_num, no_succ (p := fun y => y == e0.typ) HN.out HX.out HZ.out⟩, _, rfl⟩
            case measure => simp [intOf]; omega
        · obtain rfl : k = cl.types.length := by omega
          go_wp2
          go_ret
          refine ⟨ret_bool ?_, below_drewN (HB.out.trans (HBR.out.mono HB.out.size)) _⟩
          unfold clauseB
          rw [HALL.out, any_miss (p := fun y => y == e0.typ) HN.out]
          by_cases h0 : cl.types.length = 0 <;> simp [h0]

set_option maxRecDepth 100000 in
set_option maxHeartbeats 4000000 in
theorem match06_calls (w : World) (A : Option Addr) (c : Nat) (q : List Cl) (e0 : Ev) (eA fA : Option Addr) (ec fc : Nat) (hq : Cls w w.heap.size A q) (hs : SmallQ q) (hT : Strs w w.heap.size eA e0.tags) (hn : e0.tags.length ≤ 1048576) :
    Calls Tryz.prog 53 #[.agg #[.slice A q.length c], .agg #[vS e0.stream, vS e0.typ, .slice eA e0.tags.length ec, .slice fA e0.flds.length fc]] w fun e w' => e = .returned (.bool (matchB q e0)) ∧ Below w.heap.size w w' := by
  obtain ⟨w1, hw1⟩ : ∃ y, y = (w.alloc (.cells #[.slice A q.length c] 24)).alloc (.cells #[vS e0.stream, vS e0.typ, .slice eA e0.tags.length ec, .slice fA e0.flds.length fc] 45) := ⟨_, rfl⟩
  have hb : Below w.heap.size w w1 := hw1 ▸ ((Below.refl w.heap.size w).alloc (Nat.le_refl _) _).alloc (by simp) _
  have hC : Blk w1 w.heap.size 24 #[.slice A q.length c] := hw1 ▸ (Blk.new w _ _).alloc _
  have hE : Blk w1 (w.heap.size + 1) 45 #[vS e0.stream, vS e0.typ, .slice eA e0.tags.length ec, .slice fA e0.flds.length fc] := by
    have := Blk.new (w.alloc (.cells #[.slice A q.length c] 24)) 45 #[vS e0.stream, vS e0.typ, .slice eA e0.tags.length ec, .slice fA e0.flds.length fc]
    rw [hw1]; simpa using this
  have HQ := Lib.hid ((hq.same (same_below hb)).more hb.size)
  have HT := Lib.hid ((hT.same (same_below hb)).more hb.size)
  have hql := hs.1
  have HS := Lib.hid hs
  have HB := Lib.hid hb
  have HC := Lib.hid hC
  have HE := Lib.hid hE
  clear hq hT hb hC hE hs
  go_enter Tryz.func53, Tryz.ntmps53
  go_wp2_with fail
  rw [← hw1]
  clear hw1
  go_loopw [5, 6] (fun i _ wr => (∃ k : Nat, k ≤ q.length ∧ i = .int .i64 k ∧ ∀ j y, q[j]? = some y → j < k → clauseB e0 y = false) ∧ Below w1.heap.size w1 wr) (fun i _ _ => q.length - (intOf i).toNat)
  case atStart => exact ⟨⟨0, Nat.zero_le _, rfl, by simp⟩, Below.refl _ _⟩
  case round =>
    obtain ⟨⟨k, hk, rfl, hno⟩, hbr⟩ := hrel
    have HN := Lib.hid hno
    have HBR := Lib.hid hbr
    clear hno
    have c0 := (HC.out.kept hbr).one
    obtain ⟨d0, d1, d2, d3⟩ := (HE.out.kept hbr).four
    by_cases hlt : k < q.length
    · obtain ⟨x, hx⟩ := at_some hlt
      obtain ⟨b, off, rfl, hbb, hc⟩ := HQ.out (ne_nil_of hlt)
      obtain ⟨tA, tc, yA, yc, p1, p2, p3, p4⟩ := hc k x hx
      have q1 := (hbr.cell (p := ⟨b, off + k * 2, none⟩) hbb).trans p1
      have q2 := (hbr.cell (p := ⟨b, off + k * 2 + 1, none⟩) hbb).trans p2
      have HX := Lib.hid hx
      have HCL := Lib.hid (clause06_calls wr.drew tA yA tc yc x e0 eA fA ec fc ((p3.same (same_below hbr)).more hbr.size) ((p4.same (same_below hbr)).more hbr.size) (HS.out.2 x (List.mem_of_getElem? hx)) ((HT.out.same (same_below hbr)).more hbr.size) hn)
      generalize hha : clauseB e0 x = ha at HCL
      have HHA := Lib.hid hha
      clear hc hx hbr hha p1 p2 p3 p4
      cases ha
      · go_wp2_with fail
        go_region_law (first | (go_simp; go_at_call 97; (with_reducible refine HCL.out.mono ?_); rintro e w2 ⟨rfl, hb2⟩))
        all_goals
          have HB2 := Lib.hid (undrew hb2)
          clear hb2
          go_wp2
          go_roundw
          case rel => exact ⟨⟨k + 1, by omega, by go_num, no_succ (p := clauseB e0) HN.out HX.out HHA.out⟩, HBR.out.trans (HB2.out.mono HBR.out.size)⟩
          case measure => simp [intOf]; omega
      · go_wp2_with fail
        go_region_law (first | (go_simp; go_at_call 97; (with_reducible refine HCL.out.mono ?_); rintro e w2 ⟨rfl, hb2⟩))
        all_goals
          have HB2 := Lib.hid (undrew hb2)
          clear hb2
          go_wp2
          go_ret
          refine ⟨ret_bool ?_, HB.out.trans ((HBR.out.trans (HB2.out.mono HBR.out.size)).mono HB.out.size)⟩
          unfold matchB
          rw [any_hit (p := clauseB e0) HX.out HHA.out]
    · obtain rfl : k = q.length := by omega
      clear hbr
      go_wp2
      go_ret
      refine ⟨ret_bool ?_, HB.out.trans (HBR.out.mono HB.out.size)⟩
      unfold matchB
      rw [any_miss (p := clauseB e0) HN.out]

set_option maxRecDepth 100000 in
set_option maxHeartbeats 4000000 in
theorem same15_calls (w : World) (A A' : Option Addr) (c c' : Nat) (E : Ents) (h : Flds w w.heap.size A E) (h' : Flds w w.heap.size A' E) (hn : E.length ≤ 1048576) :
    Calls Tryz.prog 20 #[.slice A E.length c, .slice A' E.length c'] w fun e w' => e = .returned (.bool true) ∧ Below w.heap.size w w' := by
  go_enter Tryz.func20, Tryz.ntmps20
  go_wp2_with fail
  go_loopw [5] (fun i wr => (∃ k : Nat, k ≤ E.length ∧ i = .int .i64 k) ∧ ∃ n, wr = w.drewN n) (fun i _ => E.length - (intOf i).toNat)
  case atStart => exact ⟨⟨0, Nat.zero_le _, rfl⟩, 0, rfl⟩
  case round =>
    obtain ⟨⟨k, hk, rfl⟩, n, rfl⟩ := hrel
    by_cases hlt : k < E.length
    · obtain ⟨x, hx⟩ := at_some hlt
      obtain ⟨b, off, rfl, hbb, hc⟩ := h (ne_nil_of hlt)
      obtain ⟨b', off', rfl, hbb', hc'⟩ := h' (ne_nil_of hlt)
      obtain ⟨q1, q2⟩ := hc k x hx
      obtain ⟨q3, q4⟩ := hc' k x hx
      clear hc hc' hx h h'
      go_wp2_with fail
      go_quiet (fail)
      go_wp2
      go_roundw
      case rel => exact ⟨⟨k + 1, by omega, by go_num⟩, _, rfl⟩
      case measure => simp [intOf]; omega
    · obtain rfl : k = E.length := by omega
      clear h h'
      go_wp2
      go_ret
      exact ⟨rfl, below_drewN (Below.refl _ _) _⟩
end Go.Proofs.YtdonhmdeijidkaaGreat
