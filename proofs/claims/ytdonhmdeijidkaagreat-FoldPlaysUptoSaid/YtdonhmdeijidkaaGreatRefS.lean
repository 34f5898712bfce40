/-
  Walk: the reference's Load (layer 15).
-/
import Derived.Test.YtdonhmdeijidkaaGreatRefO
import Derived.Test.YtdonhmdeijidkaaGreatRefR
import Derived.Test.YtdonhmdeijidkaaGreatFoldJ
import Derived.Laws.AppendOwnNone
namespace Go.Proofs.YtdonhmdeijidkaaGreat
open Go.RowKit Go.Maps

theorem ent_len (l : Ents) : (l.flatMap entCells).length = l.length * 2 := by
  induction l with
  | nil => rfl
  | cons x r ih => simp [entCells, ih]; omega
theorem ent_one (l : Ents) : ∀ u ∈ l.flatMap entCells, u.oneCell' = true := by
  intro u hu
  obtain ⟨x, -, hx⟩ := List.mem_flatMap.1 hu
  simp only [entCells, List.mem_cons, List.not_mem_nil, or_false] at hx
  rcases hx with rfl | rfl <;> rfl
theorem ent_split : ∀ (l : Ents) (j : Nat) (u : Value), (l.flatMap entCells)[j]? = some u → ∃ k x, l[k]? = some x ∧ ((j = k * 2 ∧ u = vS x.1) ∨ (j = k * 2 + 1 ∧ u = .int .i64 x.2))
  | [], j, u, h => by simp at h
  | x :: r, j, u, h => by
    rw [List.flatMap_cons] at h
    rcases j with _ | _ | j
    · simp [entCells] at h; exact ⟨0, x, rfl, .inl ⟨rfl, h.symm⟩⟩
    · simp [entCells] at h; exact ⟨0, x, rfl, .inr ⟨rfl, h.symm⟩⟩
    · have h' : (r.flatMap entCells)[j]? = some u := by simpa [entCells] using h
      obtain ⟨k, y, hy, hk⟩ := ent_split r j u h'
      refine ⟨k + 1, y, by simpa using hy, ?_⟩
      rcases hk with ⟨rfl, e⟩ | ⟨rfl, e⟩
      · exact .inl ⟨by omega, e⟩
      · exact .inr ⟨by omega, e⟩
theorem flds_news {w : World} {B : Nat} {ad : Addr} {l : Ents} (h : Flds w B (some ad) l) : ∀ j u, (l.flatMap entCells)[j]? = some u → w.cell? (ad.add j) = some u := by
  intro j u hu
  obtain ⟨k, x, hx, hk⟩ := ent_split l j u hu
  obtain ⟨b, off, e, hb, hc⟩ := h (fun e => by rw [e] at hx; simp at hx)
  injection e with e
  subst e
  have hadd : ∀ i, (⟨b, off, none⟩ : Addr).add i = ⟨b, off + i, none⟩ := fun i => by unfold Addr.add; split <;> simp_all
  rw [hadd]
  have := hc k x hx
  rcases hk with ⟨rfl, rfl⟩ | ⟨rfl, rfl⟩
  · exact this.1
  · rw [← Nat.add_assoc]; exact this.2

def Load15Post (w : World) (B rb : Nat) (k : Int) (f : Str) (q : List Cl) (E l : Ents) (e : Ending) (w' : World) : Prop :=
  (loadB (decide (k = 3)) l = true ∧ e = .returned (.int .i64 0) ∧ RSt w' B rb k f q l ∧ Turn3 w w' rb) ∨ (loadB (decide (k = 3)) l = false ∧ e = .returned (.int .i64 1) ∧ RSt w' B rb k f q E ∧ Turn3 w w' rb)

set_option maxRecDepth 100000 in
set_option maxHeartbeats 4000000 in
theorem load15_calls (w : World) (B rb : Nat) (k : Int) (f : Str) (q : List Cl) (E : Ents) (A : Option Addr) (c : Nat) (l : Ents) (h : RSt w B rb k f q E) (hA : Flds w w.heap.size A l) (hn : l.length ≤ 1000) (hc0 : A = none → l.length = 0 ∧ c = 0) :
    Calls Tryz.prog 15 #[.pointer (some ⟨rb, 0, none⟩), .slice A l.length c] w (Load15Post w B rb k f q E l) := by
  obtain ⟨i0, hi, hz0, hz1, hz2⟩ := info_parts info_ent
  have HR := Lib.hid h
  obtain ⟨⟨qA, qc, lA, lc, hB, hq, hF⟩, hlow⟩ := h
  have hlt := hB.lt
  have HB := Lib.hid hB
  have HQ := Lib.hid hq
  have HA := Lib.hid hA
  have HLOW := Lib.hid hlow
  have HC0 := Lib.hid hc0
  clear hB hq hF hA hlow hc0
  generalize hkp : decide (k = 3) = keep
  have HKP := Lib.hid hkp
  have hk3 : ((k : Int) == 3) = keep := by rw [← hkp]; by_cases h : k = 3 <;> simp [h]
  have hk4 : ((k : Int) != 3) = !keep := by rw [← hkp]; by_cases h : k = 3 <;> simp [h]
  clear hkp
  go_enter Tryz.func15, Tryz.ntmps15
  go_wp2_with fail
  go_loopw [5] (fun i wr => (∃ m : Nat, m ≤ l.length ∧ i = .int .i64 m ∧ ∀ j x, l[j]? = some x → j < m → badE keep (prevE l j) x = false) ∧ Below w.heap.size w wr) (fun i _ => l.length - (intOf i).toNat)
  case atStart => exact ⟨⟨0, Nat.zero_le _, rfl, by simp⟩, Below.refl _ _⟩
  case round =>
    obtain ⟨⟨m, hm, rfl, hno⟩, hbr⟩ := hrel
    have HNO := Lib.hid hno
    have HBR := Lib.hid hbr
    clear hno
    by_cases hlm : m < l.length
    · obtain ⟨x, hx⟩ := at_some hlm
      obtain ⟨b, off, rfl, hbb, hc⟩ := HA.out (ne_nil_of hlm)
      obtain ⟨p1, p2⟩ := hc m x hx
      have q1 := (HBR.out.cell (p := ⟨b, off + m * 2, none⟩) hbb).trans p1
      have q2 := (HBR.out.cell (p := ⟨b, off + m * 2 + 1, none⟩) hbb).trans p2
      obtain ⟨s0, s1, s2, s3⟩ := (HB.out.kept hbr).four
      have HX := Lib.hid hx
      have HC := Lib.hid hc
      have HFIT := Lib.hid (fits15_calls x.2)
      clear hc hx p1 p2 s1 s2 s3 hbr
      generalize hfb : fitsB x.2 = fb at HFIT
      have HF : Hid (∀ n, Calls Tryz.prog 49 #[.int .i64 x.2] (wr.drewN n) fun e w' => e = .returned (.bool fb) ∧ w' = wr.drewN n) := Lib.hid fun n => (HFIT.out _).mono fun e w' ⟨h1, h2⟩ => ⟨h1, h2.symm⟩
      have HFB := Lib.hid hfb
      clear hfb
      rcases m with _ | m
      · simp only [Nat.zero_mul, Nat.add_zero] at q1 q2
        have hi0 : (((0 : Nat) : Int)) = 0 := rfl
        cases fb
        · go_wp2_with fail
          go_quiet (first | (go_at_call 49; exact quiet_same (HF.out _)))
          go_wp2
          go_ret
          exact .inr ⟨by rw [HKP.out]; exact load_bad HX.out (by simp [badE, prevE, HFB.out]), rfl, HR.out.below (below_drewN HBR.out _), Turn3.of_below (below_drewN HBR.out _)⟩
        · by_cases hz : x.2 = 0
          · have hz1 : ((x.2 : Int) == 0) = true := beq_iff_eq.2 hz
            have HZ := Lib.hid hz
            clear hz
            cases keep
            · go_wp2_with fail
              go_quiet (first | (go_at_call 49; exact quiet_same (HF.out _)))
              go_wp2
              go_ret
              exact .inr ⟨by rw [HKP.out]; exact load_bad HX.out (by simp [badE, prevE, HZ.out]), rfl, HR.out.below (below_drewN HBR.out _), Turn3.of_below (below_drewN HBR.out _)⟩
            · go_wp2_with fail
              go_quiet (first | (go_at_call 49; exact quiet_same (HF.out _)))
              go_wp2
              go_roundw
              case rel =>
                refine ⟨⟨0 + 1, by omega, by go_num, fun j y hy hj => ?_⟩, below_drewN HBR.out _⟩
                rcases Nat.lt_or_ge j (0) with h | h
                · exact HNO.out j y hy h
                · obtain rfl : j = 0 := by omega
                  rw [HX.out] at hy; cases hy
                  simp [badE, prevE, HFB.out]
              case measure => simp [intOf]; omega
          · have hz1 : ((x.2 : Int) == 0) = false := beq_eq_false_iff_ne.2 hz
            have HZ := Lib.hid hz
            clear hz
            go_wp2_with fail
            go_quiet (first | (go_at_call 49; exact quiet_same (HF.out _)))
            go_wp2
            go_roundw
            case rel =>
              refine ⟨⟨0 + 1, by omega, by go_num, fun j y hy hj => ?_⟩, below_drewN HBR.out _⟩
              rcases Nat.lt_or_ge j (0) with h | h
              · exact HNO.out j y hy h
              · obtain rfl : j = 0 := by omega
                rw [HX.out] at hy; cases hy
                simp [badE, prevE, HFB.out, HZ.out]
            case measure => simp [intOf]; omega
      · obtain ⟨y, hy⟩ := at_some (l := l) (k := m) (by omega)
        obtain ⟨p1, _⟩ := HC.out m y hy
        have q0 := (HBR.out.cell (p := ⟨b, off + m * 2, none⟩) hbb).trans p1
        have HY := Lib.hid hy
        have e1 : IntKind.i64.wrap ((m : Int) + 1 - 1) = (m : Int) := by rw [IntWalk.i64_in _ (by omega)]; omega
        have g1 : (0 : Int) < (m : Int) + 1 := by omega
        clear hy p1
        generalize hlb : Op.bytesLess y.1 x.1 = lb
        have HLB := Lib.hid hlb
        cases lb
        · go_wp2_with fail
          go_quiet (first | (go_at_call 49; exact quiet_same (HF.out _)))
          go_wp2
          go_ret
          exact .inr ⟨by rw [HKP.out]; exact load_bad HX.out (by simp [badE, prevE, HY.out, HLB.out]), rfl, HR.out.below (below_drewN HBR.out _), Turn3.of_below (below_drewN HBR.out _)⟩
        · cases fb
          · go_wp2_with fail
            go_quiet (first | (go_at_call 49; exact quiet_same (HF.out _)))
            go_wp2
            go_ret
            exact .inr ⟨by rw [HKP.out]; exact load_bad HX.out (by simp [badE, prevE, HFB.out]), rfl, HR.out.below (below_drewN HBR.out _), Turn3.of_below (below_drewN HBR.out _)⟩
          · by_cases hz : x.2 = 0
            · have hz1 : ((x.2 : Int) == 0) = true := beq_iff_eq.2 hz
              have HZ := Lib.hid hz
              clear hz
              cases keep
              · go_wp2_with fail
                go_quiet (first | (go_at_call 49; exact quiet_same (HF.out _)))
                go_wp2
                go_ret
                exact .inr ⟨by rw [HKP.out]; exact load_bad HX.out (by simp [badE, prevE, HZ.out]), rfl, HR.out.below (below_drewN HBR.out _), Turn3.of_below (below_drewN HBR.out _)⟩
              · go_wp2_with fail
                go_quiet (first | (go_at_call 49; exact quiet_same (HF.out _)))
                go_wp2
                go_roundw
                case rel =>
                  refine ⟨⟨m + 1 + 1, by omega, by go_num, fun j y hy hj => ?_⟩, below_drewN HBR.out _⟩
                  rcases Nat.lt_or_ge j (m + 1) with h | h
                  · exact HNO.out j y hy h
                  · obtain rfl : j = m + 1 := by omega
                    rw [HX.out] at hy; cases hy
                    simp [badE, prevE, HFB.out, HY.out, HLB.out]
                case measure => simp [intOf]; omega
            · have hz1 : ((x.2 : Int) == 0) = false := beq_eq_false_iff_ne.2 hz
              have HZ := Lib.hid hz
              clear hz
              go_wp2_with fail
              go_quiet (first | (go_at_call 49; exact quiet_same (HF.out _)))
              go_wp2
              go_roundw
              case rel =>
                refine ⟨⟨m + 1 + 1, by omega, by go_num, fun j y hy hj => ?_⟩, below_drewN HBR.out _⟩
                rcases Nat.lt_or_ge j (m + 1) with h | h
                · exact HNO.out j y hy h
                · obtain rfl : j = m + 1 := by omega
                  rw [HX.out] at hy; cases hy
                  simp [badE, prevE, HFB.out, HZ.out, HY.out, HLB.out]
              case measure => simp [intOf]; omega
    · obtain rfl : m = l.length := by omega
      obtain ⟨c0, c1, c2, c3⟩ := (HB.out.kept hbr).four
      have hown0 := World.ownsRow_made (base := w.heap.size) (e := 92) (size := 2) wr #[] 0 HBR.out.size (by simp [maxLen]) rfl
      have hgood := Lib.hid (load_good HNO.out)
      clear hbr
      rcases A with _ | ad
      · obtain ⟨hl0, rfl⟩ := HC0.out rfl
        have hl : l = [] := List.eq_nil_of_length_eq_zero hl0
        subst hl
        have hb4 := HBR.out.alloc HBR.out.size (.cells #[] 92)
        have hf := (HB.out.kept hb4).frozen 3
        clear c0 c1 c2 c3 hl0
        obtain ⟨c0, c1, c2, c3⟩ := (HB.out.kept hb4).four
        go_wp2_with (first | (at_builtin; refine wpList_append_own_none _ rfl _ _ 27 rfl w.heap.size 92 i0 2 Tryz.underlying27 hi _ _ _ rfl hown0 rfl ?_) | fail)
        go_ret
        have hend := rst_end (out := []) HB.out HQ.out HLOW.out hb4 hown0
        exact .inl ⟨by rw [HKP.out]; exact hgood.out, rfl, hend.1, hend.2⟩
      · have HNEW := Lib.hid (flds_news (((HA.out.same (same_below HBR.out)).more HBR.out.size).same (same_alloc wr (.cells #[] 92))))
        have HLEN := Lib.hid (ent_len l)
        have HONE := Lib.hid (ent_one l)
        go_wp2_with (first | (at_builtin; refine wpList_append_own _ rfl _ _ 27 rfl w.heap.size 92 i0 _ 2 24 Tryz.underlying27 hi hz0 hz1 hz2 rfl (by decide) _ _ _ rfl hown0 ad l.length c (l.flatMap entCells) rfl HLEN.out HNEW.out HONE.out (by unfold maxLen; omega) (by omega) (by have := HBR.out.size; simp; omega) ?_; intro v4 w4 hown4 hgrow4 hnil; clear hnil; have hb4 := (HBR.out.alloc HBR.out.size _).grown hgrow4 (by have := HBR.out.size; simp; omega) (fun g e => (hown0.lt g e).1); simp only [Nat.zero_add, List.nil_append] at hown4; obtain ⟨A3, c3', rfl⟩ := own_slice hown4; have hf := (HB.out.kept hb4).frozen 3; clear c0 c1 c2 c3; obtain ⟨c0, c1, c2, c3⟩ := (HB.out.kept hb4).four) | fail)
        go_ret
        have hend := rst_end (out := l) HB.out HQ.out HLOW.out hb4 hown4
        exact .inl ⟨by rw [HKP.out]; exact hgood.out, rfl, hend.1, hend.2⟩
end Go.Proofs.YtdonhmdeijidkaaGreat
