/-
  Walks: (*State).Step, whatever the kind.
-/
import Derived.Test.YtdonhmdeijidkaaGreatFoldE
namespace Go.Proofs.YtdonhmdeijidkaaGreat
open Go.RowKit Go.Maps

def kindE (k : Int) (f : Str) (E : Ents) (e : Ev) : Int × Ents := if k = 2 then sumE f E e else if k = 3 then (0, latestE f E e) else if k = 4 then (0, membersE E e) else (0, countE E)
def stepE (k : Int) (f : Str) (q : List Cl) (E : Ents) (e : Ev) : Int × Ents := if matchB q e then kindE k f E e else (0, E)

/-- A state in memory: of kind k, at a field, with a query, and entries. -/
structure St (w : World) (sb mb : Nat) (k : Int) (f : Str) (q : List Cl) (E : Ents) : Prop where
  cells : ∃ A c, Blk w sb 100 #[kindK k f, .slice A q.length c, .map (some mb)] ∧ Cls w sb A q
  map : MapIs w mb E
theorem St.below {w w' : World} {sb mb : Nat} {k : Int} {f : Str} {q : List Cl} {E : Ents} (h : St w sb mb k f q E) (hb : Below w.heap.size w w') : St w' sb mb k f q E := by
  obtain ⟨A, c, h1, h2⟩ := h.cells
  exact ⟨⟨A, c, h1.kept hb, h2.same ((same_below hb).mono (Nat.le_of_lt h1.lt))⟩, h.map.below hb⟩
/-- The state whose map has turned. -/
theorem St.turn {w w' : World} {sb mb : Nat} {k : Int} {f : Str} {q : List Cl} {E E' : Ents} (h : St w sb mb k f q E) (hg : w.grownBy w' (some mb)) (hm : MapIs w' mb E') : St w' sb mb k f q E' := by
  obtain ⟨A, c, h1, h2⟩ := h.cells
  exact ⟨⟨A, c, h1.turn h.map hg, h2.same ((same_turn hg h.map hm).mono (Nat.le_of_lt h1.lt))⟩, hm⟩
/-- A store into a younger block. -/
theorem St.far {w : World} {sb mb : Nat} {k : Int} {f : Str} {q : List Cl} {E : Ents} (h : St w sb mb k f q E) {p : Addr} (h1 : sb < p.block) (h2 : mb ≠ p.block) (u : Value) : St (w.setCell p u) sb mb k f q E := by
  obtain ⟨A, c, b1, b2⟩ := h.cells
  refine ⟨⟨A, c, b1.far (by omega) u, b2.same fun b o hb => World.cell?_of_block (w := w) (Below.heap_setCell w p u b (by omega))⟩, h.map.over (Below.heap_setCell w p u mb h2)⟩
/-- Another state, while one's map turns. -/
theorem St.other {w w' : World} {sb mb sb2 mb2 : Nat} {k k2 : Int} {f f2 : Str} {q q2 : List Cl} {E E' F : Ents} (h : St w sb2 mb2 k2 f2 q2 F) (hm0 : MapIs w mb E) (hg : w.grownBy w' (some mb)) (hm : MapIs w' mb E') (hne : mb2 ≠ mb) : St w' sb2 mb2 k2 f2 q2 F := by
  obtain ⟨A, c, h1, h2⟩ := h.cells
  exact ⟨⟨A, c, h1.turn hm0 hg, h2.same ((same_turn hg hm0 hm).mono (Nat.le_of_lt h1.lt))⟩, h.map.over (hg.block mb2 h.map.lt (by simpa using hne))⟩

theorem step_calls (w : World) (sb mb : Nat) (k : Int) (f : Str) (q : List Cl) (E : Ents) (n : Nat) (e0 : Ev) (tA fA : Option Addr) (tc fc : Nat) (p v : Int)
    (hS : St w sb mb k f q E) (hs : SmallQ q) (hO : Okay E n) (hn : n ≤ 10000) (hT : Strs w w.heap.size tA e0.tags) (hF : Flds w w.heap.size fA e0.flds) (hE : e0.Good) :
    Calls Tryz.prog 18 #[.pointer (some ⟨sb, 0, none⟩), .agg (#[.int .i64 p, .int .i64 v] ++ cEv tA tc fA fc e0)] w fun e w' => e = .returned (.int .i64 (stepE k f q E e0).1) ∧ MapIs w' mb (stepE k f q E e0).2 ∧ w.grownBy w' (some mb) := by
  obtain ⟨⟨A, c, hB, hq⟩, hM⟩ := hS
  have hq := hq.more (Nat.le_of_lt hB.lt)
  have key : ∀ r E', (stepE k f q E e0).1 = (if matchB q e0 then r else 0) → (stepE k f q E e0).2 = (if matchB q e0 then E' else E) →
    Calls Tryz.prog 18 #[.pointer (some ⟨sb, 0, none⟩), .agg (#[.int .i64 p, .int .i64 v] ++ cEv tA tc fA fc e0)] w (fun e w' => e = .returned (.int .i64 (if matchB q e0 then r else 0)) ∧ MapIs w' mb (if matchB q e0 then E' else E) ∧ w.grownBy w' (some mb)) →
    Calls Tryz.prog 18 #[.pointer (some ⟨sb, 0, none⟩), .agg (#[.int .i64 p, .int .i64 v] ++ cEv tA tc fA fc e0)] w fun e w' => e = .returned (.int .i64 (stepE k f q E e0).1) ∧ MapIs w' mb (stepE k f q E e0).2 ∧ w.grownBy w' (some mb) := by
    intro r E' h1 h2 h
    rw [h1, h2]
    exact h
  have hBk := hB
  unfold kindK kindV at hB
  simp only at hB
  by_cases h2 : k = 2
  · rw [if_pos h2] at hB
    refine key (sumE f E e0).1 (sumE f E e0).2 (by unfold stepE kindE; rw [if_pos h2]; split <;> rfl) (by unfold stepE kindE; rw [if_pos h2]; split <;> rfl) ?_
    exact step_sum w sb mb f A c q E _ _ e0 tA fA tc fc p v hB hq hs hM hT hE fun w1 hb1 =>
      sum_step w1 sb mb k f f _ E n e0 tA fA _ tc fc (hBk.kept hb1) (hM.below hb1) hO hn (by omega) ((hF.same (same_below hb1)).more hb1.size) hE
  · rw [if_neg h2] at hB
    by_cases h3 : k = 3
    · rw [if_pos h3] at hB
      subst h3
      refine key 0 (latestE f E e0) (by unfold stepE kindE; simp only [Int.reduceEq, if_false, if_true]; split <;> rfl) (by unfold stepE kindE; simp only [Int.reduceEq, if_false, if_true]; split <;> rfl) ?_
      exact step_latest w sb mb f A c q E _ _ e0 tA fA tc fc p v hB hq hs hM hT hE fun w1 hb1 =>
        latest_step w1 sb mb f f _ E n e0 tA fA _ tc fc (hBk.kept hb1) (hM.below hb1) hO hn ((hF.same (same_below hb1)).more hb1.size) hE
    · rw [if_neg h3] at hB
      by_cases h4 : k = 4
      · rw [if_pos h4] at hB
        refine key 0 (membersE E e0) (by unfold stepE kindE; rw [if_neg h2, if_neg h3, if_pos h4]; split <;> rfl) (by unfold stepE kindE; rw [if_neg h2, if_neg h3, if_pos h4]; split <;> rfl) ?_
        exact step_members w sb mb A c q E _ _ e0 tA fA tc fc p v hB hq hs hM hT hE fun w1 hb1 =>
          members_step w1 sb mb k f _ E n e0 tA fA _ tc fc (hBk.kept hb1) (hM.below hb1) hO hn h3 ((hT.same (same_below hb1)).more hb1.size) hE
      · rw [if_neg h4] at hB
        refine key 0 (countE E) (by unfold stepE kindE; rw [if_neg h2, if_neg h3, if_neg h4]; split <;> rfl) (by unfold stepE kindE; rw [if_neg h2, if_neg h3, if_neg h4]; split <;> rfl) ?_
        exact step_count w sb mb A c q E _ _ e0 tA fA tc fc p v hB hq hs hM hT hE fun w1 hb1 =>
          count_step w1 sb mb k f _ E n _ _ _ _ (hBk.kept hb1) (hM.below hb1) hO hn h3

theorem Okay.step {E : Ents} {n : Nat} (h : Okay E n) (k : Int) (f : Str) (q : List Cl) (e : Ev) (hE : e.Good) : Okay (stepE k f q E e).2 (n + 1) := by
  unfold stepE kindE
  split
  · split
    · unfold sumE
      simp only
      split
      · exact h.more
      · have := h.get []
        have := hE.val f
        exact h.set (by omega) (by omega)
    · split
      · unfold latestE
        cases hf : fieldOf e.flds f with
        | none => exact h.more
        | some v =>
          have := hE.val f
          rw [hf] at this
          simp at this
          exact h.set (by omega) (by omega)
      · split
        · have := h.two.members e.stream e.tags
          exact this.one (by have := hE.2.1; omega)
        · have := h.get []
          exact h.set (by omega) (by omega)
  · exact h.more
end Go.Proofs.YtdonhmdeijidkaaGreat
