/-
  Walks: the reference's projection (layer 15): get, fits; the law's entries.
-/
import Derived.Test.YtdonhmdeijidkaaGreatLawC
namespace Go.Proofs.YtdonhmdeijidkaaGreat
open Go.RowKit Go.Maps

theorem fits15_calls (n : Int) (w : World) : Calls Tryz.prog 49 #[.int .i64 n] w fun e w' => e = .returned (.bool (fitsB n)) ∧ w = w' := by
  unfold fitsB
  by_cases h1 : -1125899906842624 ≤ n
  · go_enter Tryz.func49, Tryz.ntmps49
    go_wp2
    go_ret
    exact ⟨ret_bool (by simp [h1]), rfl⟩
  · have h2 : n < -1125899906842624 := by omega
    go_enter Tryz.func49, Tryz.ntmps49
    go_wp2
    go_ret
    exact ⟨ret_bool (by rw [show decide (-1125899906842624 ≤ n) = false from decide_eq_false (by omega)]; rfl), rfl⟩

/-- The reference's state in memory: a projection whose query lies below B, and a row of entries. -/
structure RSt (w : World) (B rb : Nat) (k : Int) (f : Str) (q : List Cl) (E : Ents) : Prop where
  cells : ∃ qA qc lA lc, Blk w rb 51 #[.int .i64 k, vS f, .slice qA q.length qc, .slice lA E.length lc] ∧ Cls w B qA q ∧ Flds w w.heap.size lA E
  low : B ≤ rb
theorem RSt.lt {w : World} {B rb : Nat} {k : Int} {f : Str} {q : List Cl} {E : Ents} (h : RSt w B rb k f q E) : rb < w.heap.size := by
  obtain ⟨qA, qc, lA, lc, h1, -, -⟩ := h.cells
  exact h1.lt
theorem RSt.below {w w' : World} {B rb : Nat} {k : Int} {f : Str} {q : List Cl} {E : Ents} (h : RSt w B rb k f q E) (hb : Below w.heap.size w w') : RSt w' B rb k f q E := by
  obtain ⟨⟨qA, qc, lA, lc, h1, h2, h3⟩, hl⟩ := h
  exact ⟨⟨qA, qc, lA, lc, h1.kept hb, h2.same ((same_below hb).mono (Nat.le_trans hl (Nat.le_of_lt h1.lt))), (h3.same (same_below hb)).more hb.size⟩, hl⟩
/-- A map turns. -/
theorem RSt.turn {w w' : World} {B rb mb : Nat} {k : Int} {f : Str} {q : List Cl} {E F F' : Ents} (h : RSt w B rb k f q E) (hm0 : MapIs w mb F) (hg : w.grownBy w' (some mb)) (hm : MapIs w' mb F') : RSt w' B rb k f q E := by
  obtain ⟨⟨qA, qc, lA, lc, h1, h2, h3⟩, hl⟩ := h
  have hs := same_turn hg hm0 hm
  exact ⟨⟨qA, qc, lA, lc, h1.turn hm0 hg, h2.same (hs.mono (Nat.le_trans hl (Nat.le_of_lt h1.lt))), (h3.same hs).more hg.size⟩, hl⟩

theorem get15_calls (w : World) (B rb : Nat) (k : Int) (f : Str) (q : List Cl) (E : Ents) (key : Str) (h : RSt w B rb k f q E) (hn : E.length ≤ 1048576) :
    Calls Tryz.prog 56 #[.pointer (some ⟨rb, 0, none⟩), vS key] w fun e w' => e = .returned (.int .i64 (getE E key)) ∧ w' = w := by
  obtain ⟨qA, qc, lA, lc, hB, -, hF⟩ := h.cells
  obtain ⟨c0, c1, c2, c3⟩ := hB.four
  clear h hB c0 c1 c2
  unfold getE
  go_enter Tryz.func56, Tryz.ntmps56
  go_wp2
  go_loopw [5] (fun i wr => (∃ k : Nat, k ≤ E.length ∧ i = .int .i64 k ∧ ∀ j y, E[j]? = some y → j < k → (y.1 == key) = false) ∧ wr = w) (fun i _ => E.length - (intOf i).toNat)
  case atStart => exact ⟨⟨0, Nat.zero_le _, rfl, by simp⟩, rfl⟩
  case round =>
    obtain ⟨⟨k, hk, rfl, hno⟩, rfl⟩ := hrel
    have HN := Lib.hid hno
    clear hno
    by_cases hlt : k < E.length
    · obtain ⟨b, off, rfl, hb, hc⟩ := hF (ne_nil_of hlt)
      obtain ⟨x, hx⟩ := at_some hlt
      obtain ⟨h1, h2⟩ := hc k x hx
      have HX := Lib.hid hx
      clear hc hF hx
      go_wp2
      · go_ret
        exact ⟨by rw [fieldOf_hit HN.out HX.out ‹_›]; rfl, rfl⟩
      · go_roundw
        case rel => exact ⟨⟨k + 1, by omega, by go_num, no_succ HN.out HX.out ‹_›⟩, trivial⟩
        case measure => simp [intOf]; omega
    · obtain rfl : k = E.length := by omega
      clear hF
      go_wp2
      go_ret
      exact ⟨by rw [fieldOf_miss HN.out]; rfl, rfl⟩

theorem Flds.take {w : World} {B : Nat} {A : Option Addr} {l : Ents} (h : Flds w B A l) (n : Nat) : Flds w B A (l.take n) := fun hl => by
  have hq : l ≠ [] := fun e => by rw [e] at hl; simp at hl
  obtain ⟨b, off, e, hb, hc⟩ := h hq
  refine ⟨b, off, e, hb, fun k c hk => ?_⟩
  rw [List.getElem?_take] at hk
  split at hk
  · exact hc k c hk
  · cases hk
theorem entries15_calls (w : World) (A : Option Addr) (c : Nat) (l : Ents) (h : Flds w w.heap.size A l) (hn : l.length ≤ 1048576) (hc : l.length ≤ c) :
    Calls Tryz.prog 14 #[.slice A l.length c] w fun e w' => e = .returned (.slice A (l.take 30).length c) ∧ w' = w := by
  by_cases h30 : 30 < l.length
  · obtain ⟨b, off, rfl, -, -⟩ := h (ne_nil_of (k := 0) (by omega))
    have e1 : (l.take 30).length = 30 := by rw [List.length_take]; omega
    have E1 := Lib.hid e1
    have hc2 : 30 ≤ c := by omega
    clear h e1
    go_enter Tryz.func14, Tryz.ntmps14
    go_wp2
    go_ret
    exact ⟨by rw [E1.out]; rfl, rfl⟩
  · have e1 : l.take 30 = l := List.take_of_length_le (by omega)
    rw [e1]
    clear h e1
    go_enter Tryz.func14, Tryz.ntmps14
    go_wp2
    go_ret
    exact ⟨rfl, rfl⟩
end Go.Proofs.YtdonhmdeijidkaaGreat
