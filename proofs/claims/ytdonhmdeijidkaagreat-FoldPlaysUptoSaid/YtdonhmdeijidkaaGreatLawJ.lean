/-
  What FoldPlays needs beside the walks: states side by side.
-/
import Derived.Test.YtdonhmdeijidkaaGreatRefS
import Derived.Test.YtdonhmdeijidkaaGreatRefT
namespace Go.Proofs.YtdonhmdeijidkaaGreat
open Go.RowKit Go.Maps

theorem evts_at {w : World} {B : Nat} {A : Option Addr} {l : List Ev} (h : Evts w B A l) {k : Nat} {x : Ev} (hx : l[k]? = some x) : ∃ b off tA tc fA fc, A = some ⟨b, off, none⟩ ∧ b < B ∧
    (w.cell? ⟨b, off + k * 4, none⟩ = some (vS x.stream) ∧ w.cell? ⟨b, off + k * 4 + 1, none⟩ = some (vS x.typ) ∧ w.cell? ⟨b, off + k * 4 + 2, none⟩ = some (.slice tA x.tags.length tc) ∧ w.cell? ⟨b, off + k * 4 + 3, none⟩ = some (.slice fA x.flds.length fc)) ∧
    Strs w B tA x.tags ∧ Flds w B fA x.flds := by
  obtain ⟨b, off, rfl, hb, hc⟩ := h (fun e => by rw [e] at hx; simp at hx)
  obtain ⟨tA, tc, fA, fc, h1, h2, h3, h4, h5, h6⟩ := hc k x hx
  exact ⟨b, off, tA, tc, fA, fc, rfl, hb, ⟨h1, h2, h3, h4⟩, h5, h6⟩
theorem new_none (w : World) (A : Option Addr) (c n : Nat) (k : Int) (f : Str) (q : List Cl) (hn : q.length = n) (h : Cls w w.heap.size A q) (hs : Df.Small ⟨k, f, q⟩) (dm : Int) (hdm : defMay ⟨k, f, q⟩ = dm) (h0 : dm ≠ 0) :
    Calls Tryz.prog 11 #[.agg #[.int .i64 k, vS f, .slice A n c]] w fun e w' => e = .returned (.tuple #[.pointer none, .int .i64 dm]) ∧ Below w.heap.size w w' := by
  subst hn
  subst hdm
  refine (new_calls w A c ⟨k, f, q⟩ h hs).mono ?_
  rintro e w' ⟨hb, h1 | h1⟩
  · exact ⟨h1.2, hb⟩
  · exact absurd h1.1 h0
theorem new_some (w : World) (A : Option Addr) (c n : Nat) (k : Int) (f : Str) (q : List Cl) (hn : q.length = n) (h : Cls w w.heap.size A q) (hs : Df.Small ⟨k, f, q⟩) (h0 : defMay ⟨k, f, q⟩ = 0) :
    Calls Tryz.prog 11 #[.agg #[.int .i64 k, vS f, .slice A n c]] w fun e w' => (∃ sb mb, e = .returned (.tuple #[.pointer (some ⟨sb, 0, none⟩), .int .i64 0]) ∧ St w' sb mb k f (normQ q) [] ∧ w.heap.size ≤ sb ∧ w.heap.size ≤ mb) ∧ Below w.heap.size w w' := by
  subst hn
  refine (new_calls w A c ⟨k, f, q⟩ h hs).mono ?_
  rintro e w' ⟨hb, h1 | ⟨_, h2⟩⟩
  · exact absurd h0 h1.1
  · exact ⟨h2, hb⟩
theorem new15_none (w : World) (A : Option Addr) (c n : Nat) (k : Int) (f : Str) (q : List Cl) (hn : q.length = n) (h : Cls w w.heap.size A q) (hs : Df.Small ⟨k, f, q⟩) (dm : Int) (hdm : defMay ⟨k, f, q⟩ = dm) (h0 : dm ≠ 0) :
    Calls Tryz.prog 12 #[.agg #[.int .i64 k, vS f, .slice A n c]] w fun e w' => e = .returned (.tuple #[.pointer none, .int .i64 dm]) ∧ Below w.heap.size w w' := by
  subst hn
  subst hdm
  refine (new15_calls w w.heap.size A c ⟨k, f, q⟩ h (Nat.le_refl _) hs).mono ?_
  rintro e w' ⟨hb, h1 | h1⟩
  · exact ⟨h1.2, hb⟩
  · exact absurd h1.1 h0
theorem new15_some (w : World) (B : Nat) (A : Option Addr) (c n : Nat) (k : Int) (f : Str) (q : List Cl) (hn : q.length = n) (h : Cls w B A q) (hB : B ≤ w.heap.size) (hs : Df.Small ⟨k, f, q⟩) (h0 : defMay ⟨k, f, q⟩ = 0) :
    Calls Tryz.prog 12 #[.agg #[.int .i64 k, vS f, .slice A n c]] w fun e w' => (∃ rb, e = .returned (.tuple #[.pointer (some ⟨rb, 0, none⟩), .int .i64 0]) ∧ RSt w' B rb k f q [] ∧ w.heap.size ≤ rb) ∧ Below w.heap.size w w' := by
  subst hn
  refine (new15_calls w B A c ⟨k, f, q⟩ h hB hs).mono ?_
  rintro e w' ⟨hb, h1 | ⟨_, h2⟩⟩
  · exact absurd h0 h1.1
  · exact ⟨h2, hb⟩

theorem Cls.take {w : World} {B : Nat} {A : Option Addr} {q : List Cl} (h : Cls w B A q) (n : Nat) : Cls w B A (q.take n) := fun hl => by
  have hq : q ≠ [] := fun e => by rw [e] at hl; simp at hl
  obtain ⟨b, off, e, hb, hc⟩ := h hq
  refine ⟨b, off, e, hb, fun k c hk => ?_⟩
  rw [List.getElem?_take] at hk
  split at hk
  · exact hc k c hk
  · cases hk
theorem Df.Small.cut {k : Int} {f : Str} {q : List Cl} (h : Df.Small ⟨k, f, q⟩) (n : Nat) : Df.Small ⟨k, f, q.take n⟩ :=
  ⟨h.1, h.2.1, h.2.2.1, by have h1 : q.length ≤ 1048576 := h.2.2.2.1; simp; omega, fun c hc => h.2.2.2.2 c (List.mem_of_mem_take hc)⟩

section
variable {w w' w'' : World} {B B2 sb mb rb : Nat} {k k2 : Int} {f f2 : Str} {q q2 : List Cl} {E E2 : Ents}
/-- The program's state and the reference's lie in blocks of their own. -/
theorem St.apart (h : St w sb mb k f q E) (hr : RSt w B2 rb k2 f2 q2 E2) : sb ≠ rb ∧ mb ≠ rb := by
  obtain ⟨A, c, h1, -⟩ := h.cells
  obtain ⟨qA, qc, lA, lc, h2, -, -⟩ := hr.cells
  refine ⟨?_, fun e => ?_⟩
  · rintro rfl
    have e0 := h1.cell 3
    rw [h2.cell 3] at e0
    cases e0
  · have := sb_ne h2 h.map
    exact this e.symm
theorem RSt.grown_nil {g : Nat} (h : RSt w B rb k f q []) (hg : w.grownBy w' (some g)) (h1 : rb ≠ g) (h3 : B ≤ g) : RSt w' B rb k f q [] := by
  have hlt := h.lt
  obtain ⟨⟨qA, qc, lA, lc, k1, k2, k3⟩, k4⟩ := h
  refine ⟨⟨qA, qc, lA, lc, k1.grown hg (by simpa using h1), k2.same fun b o hb => ?_, fun hl => absurd rfl hl⟩, k4⟩
  exact hg.cell_far ⟨b, o, none⟩ (by show b < _; omega) (by simp; omega)

/-- Of what lies below B just cell 3 of block rb may read otherwise. -/
def Far3 (B rb : Nat) (w w' : World) : Prop := ∀ b o, b < B → ¬ (b = rb ∧ o = 3) → w'.cell? ⟨b, o, none⟩ = w.cell? ⟨b, o, none⟩
theorem Far3.refl (B rb : Nat) (w : World) : Far3 B rb w w := fun _ _ _ _ => rfl
theorem Far3.same (h : Far3 B rb w w') (k : Same w'.heap.size w' w'') (hB : B ≤ w'.heap.size) : Far3 B rb w w'' := fun b o hb hn => (k b o (Nat.lt_of_lt_of_le hb hB)).trans (h b o hb hn)
theorem Far3.turn (h : Far3 B rb w w') (k : Turn3 w' w'' rb) (hB : B ≤ w'.heap.size) : Far3 B rb w w'' := fun b o hb hn => (k.2 b o (Nat.lt_of_lt_of_le hb hB) hn).trans (h b o hb hn)
theorem evts_far {A : Option Addr} {l : List Ev} {i : Int} {x2 x3 : Value} (h : Evts w B A l) (h0 : w.cell? ⟨rb, 0, none⟩ = some (.int .i64 i)) (h2 : w.cell? ⟨rb, 2, none⟩ = some x2) (h3 : w.cell? ⟨rb, 3, none⟩ = some x3) (e2 : ∀ s, x2 ≠ vS s) (e3 : ∀ s, x3 ≠ vS s) (e4 : ∀ n, x3 ≠ .int .i64 n) (hf : Far3 B rb w w') : Evts w' B A l := fun hl => by
  obtain ⟨b, off, e, hlt, hc⟩ := h hl
  refine ⟨b, off, e, hlt, fun k s hs => ?_⟩
  obtain ⟨tA, tc, fA, fc, c1, c2, c3, c4, c5, c6⟩ := hc k s hs
  have c2' := c2
  refine ⟨tA, tc, fA, fc, (hf b _ hlt ?_).trans c1, (hf b _ hlt ?_).trans c2, (hf b _ hlt ?_).trans c3, (hf b _ hlt ?_).trans c4, ?_, ?_⟩
  · rintro ⟨rfl, e5⟩
    rw [e5, h3] at c1
    injection c1 with c1
    exact e3 _ c1
  · rintro ⟨rfl, e5⟩
    rw [e5, h3] at c2
    injection c2 with c2
    exact e3 _ c2
  · rintro ⟨rfl, e5⟩
    rw [show off + k * 4 + 1 = 2 by omega, h2] at c2
    injection c2 with c2
    exact e2 _ c2
  · rintro ⟨rfl, e5⟩
    rw [show off + k * 4 = 0 by omega, h0] at c1
    injection c1 with c1
    cases c1
  · exact fun hl => by
      obtain ⟨b, off, e, hlt, hc⟩ := c5 hl
      refine ⟨b, off, e, hlt, fun k s hs => (hf b _ hlt ?_).trans (hc k s hs)⟩
      rintro ⟨rfl, e5⟩
      have c1 := hc k s hs
      rw [e5, h3] at c1
      injection c1 with c1
      exact e3 _ c1
  · exact fun hl => by
      obtain ⟨b, off, e, hlt, hc⟩ := c6 hl
      refine ⟨b, off, e, hlt, fun k s hs => ⟨(hf b _ hlt ?_).trans (hc k s hs).1, (hf b _ hlt ?_).trans (hc k s hs).2⟩⟩
      · rintro ⟨rfl, e5⟩
        have c1 := (hc k s hs).1
        rw [e5, h3] at c1
        injection c1 with c1
        exact e3 _ c1
      · rintro ⟨rfl, e5⟩
        have c1 := (hc k s hs).2
        rw [e5, h3] at c1
        injection c1 with c1
        exact e4 _ c1
end
theorem Evts.far3 {w w' : World} {B B2 rb : Nat} {k : Int} {f : Str} {q : List Cl} {E : Ents} {A : Option Addr} {l : List Ev} (h : Evts w B A l) (hr : RSt w B2 rb k f q E) (hf : Far3 B rb w w') : Evts w' B A l := by
  obtain ⟨qA, qc, lA, lc, h2, -, -⟩ := hr.cells
  exact evts_far h (h2.cell 0) (h2.cell 2) (h2.cell 3) (by intro s e; cases e) (by intro s e; cases e) (by intro s e; cases e) hf

/-- Load, whatever comes. -/
def loadR (keep : Bool) (l : Ents) : Int := if loadB keep l then 0 else 1
def loadE (keep : Bool) (l : Ents) : Ents := if loadB keep l then l else []
theorem load_to (w : World) (sb mb : Nat) (k : Int) (f : Str) (q : List Cl) (A : Option Addr) (c n : Nat) (l : Ents) (hl0 : l.length = n) (hS : St w sb mb k f q []) (hA : Flds w w.heap.size A l) (hn : l.length ≤ 1000) (hl : ∀ x ∈ l, x.1.length ≤ 4194304 ∧ -9223372036854775808 ≤ x.2 ∧ x.2 ≤ 9223372036854775807) (B : Nat) (hB : B ≤ mb) (hB2 : B ≤ w.heap.size) :
    Calls Tryz.prog 13 #[.pointer (some ⟨sb, 0, none⟩), .slice A n c] w fun e w' => e = .returned (.int .i64 (loadR (decide (k = 3)) l)) ∧ w.grownBy w' (some sb) ∧ ∃ mb', St w' sb mb' k f q (loadE (decide (k = 3)) l) ∧ B ≤ mb' := by
  subst hl0
  refine (load_calls w sb mb k f q [] A c l hS hA hn hl).mono ?_
  rintro e w' (⟨h1, rfl, mb', h2, h3, h4⟩ | ⟨h1, rfl, h2⟩)
  · unfold loadR loadE
    rw [h1]
    exact ⟨rfl, h4, mb', h2, Nat.le_trans hB2 h3⟩
  · unfold loadR loadE
    rw [h1]
    exact ⟨rfl, below_turn h2, mb, hS.below h2, hB⟩
theorem load15_to (w : World) (B rb : Nat) (k : Int) (f : Str) (q : List Cl) (A : Option Addr) (c n : Nat) (l : Ents) (hl0 : l.length = n) (h : RSt w B rb k f q []) (hA : Flds w w.heap.size A l) (hn : l.length ≤ 1000) (hc0 : A = none → l.length = 0 ∧ c = 0) :
    Calls Tryz.prog 15 #[.pointer (some ⟨rb, 0, none⟩), .slice A n c] w fun e w' => e = .returned (.int .i64 (loadR (decide (k = 3)) l)) ∧ Turn3 w w' rb ∧ RSt w' B rb k f q (loadE (decide (k = 3)) l) := by
  subst hl0
  refine (load15_calls w B rb k f q [] A c l h hA hn hc0).mono ?_
  rintro e w' (⟨h1, rfl, h2, h3⟩ | ⟨h1, rfl, h2, h3⟩)
  · unfold loadR loadE
    rw [h1]
    exact ⟨rfl, h3, h2⟩
  · unfold loadR loadE
    rw [h1]
    exact ⟨rfl, h3, h2⟩
theorem loadE_inv (k : Int) (l : Ents) : Inv k (loadE (decide (k = 3)) l) := by
  unfold loadE
  split
  · exact load_inv ‹_›
  · exact Inv.nil k
theorem loadE_ok {keep : Bool} {l : Ents} (hn : l.length ≤ 3000) : Okay (loadE keep l) 512 := by
  unfold loadE
  split
  · exact load_okay ‹_› hn
  · exact ⟨by simp, by simp⟩
theorem loadE_keys {keep : Bool} {l : Ents} (h : KeyS l) : KeyS (loadE keep l) := by
  unfold loadE
  split
  · exact h
  · exact fun x hx => absurd hx (by simp)
/-- The program's step, and the reference's: one answer. -/
theorem step15_to (w : World) (B rb : Nat) (k : Int) (f : Str) (q : List Cl) (E : Ents) (n : Nat) (e0 : Ev) (tA fA : Option Addr) (tc fc : Nat) (p v : Int) (r : Int × Ents) (hr : stepE k f (normQ q) E e0 = r)
    (hS : RSt w B rb k f q E) (hs : SmallQ q) (hk1 : 1 ≤ k) (hk4 : k ≤ 4) (hI : Inv k E) (hO : Okay E n) (hn : n ≤ 10000) (hT : Strs w w.heap.size tA e0.tags) (hF : Flds w w.heap.size fA e0.flds) (hE : e0.Good) :
    Calls Tryz.prog 19 #[.pointer (some ⟨rb, 0, none⟩), .agg #[.int .i64 p, .int .i64 v, vS e0.stream, vS e0.typ, .slice tA e0.tags.length tc, .slice fA e0.flds.length fc]] w fun e w' => e = .returned (.int .i64 r.1) ∧ RSt w' B rb k f q r.2 ∧ Turn3 w w' rb := by
  have h := step15_calls w B rb k f q E n e0 tA fA tc fc p v hS hs hk1 hk4 hI hO hn hT hF hE
  rw [stepR_eq e0 hI hk1 hk4, hr] at h
  exact h
theorem stepB_to (w : World) (B sb mb : Nat) (k : Int) (f : Str) (q : List Cl) (E : Ents) (n : Nat) (e0 : Ev) (tA fA : Option Addr) (tc fc : Nat) (p v : Int) (r : Int × Ents) (hr : stepE k f q E e0 = r)
    (hS : StB w B sb mb k f q E) (hs : SmallQ q) (hO : Okay E n) (hn : n ≤ 10000) (hT : Strs w w.heap.size tA e0.tags) (hF : Flds w w.heap.size fA e0.flds) (hE : e0.Good) :
    Calls Tryz.prog 18 #[.pointer (some ⟨sb, 0, none⟩), .agg #[.int .i64 p, .int .i64 v, vS e0.stream, vS e0.typ, .slice tA e0.tags.length tc, .slice fA e0.flds.length fc]] w fun e w' => e = .returned (.int .i64 r.1) ∧ StB w' B sb mb k f q r.2 ∧ MapIs w mb E ∧ MapIs w' mb r.2 ∧ w.grownBy w' (some mb) := by
  have h := step_calls w sb mb k f q E n e0 tA fA tc fc p v hS.st hs hO hn hT hF hE
  rw [hr] at h
  exact h.mono fun e w' ⟨h1, h2, h3⟩ => ⟨h1, hS.turn h3 h2, hS.map, h2, h3⟩
end Go.Proofs.YtdonhmdeijidkaaGreat
