/-
  What came in, read: texts, fields, events, as plain lists, and their bounds.
-/
import Derived.Test.YtdonhmdeijidkaaGreatBulk
import Derived.Test.YtdonhmdeijidkaaGreatMem
import Derived.Deep.Slices
import Derived.ChangeSame
import Derived.ChangeArms
namespace Go.Proofs.YtdonhmdeijidkaaGreat
open Go.RowKit Go.ChangeShapes Go.WideShapes Go.Deep

theorem plain_cell {w : World} {a : Addr} {v : Value} (h : w.cell? a = some v) : a.spot = none ∧ a.block < w.heap.size := by
  unfold World.cell? at h
  split at h
  · rename_i hb
    refine ⟨?_, (Array.getElem?_eq_some_iff.1 hb).1⟩
    cases hs : a.spot with
    | none => rfl
    | some x => rw [hs] at h; simp at h
  · cases h
theorem add_at (b off i : Nat) : (⟨b, off, none⟩ : Addr).add i = ⟨b, off + i, none⟩ := by
  unfold Addr.add
  split
  · simp [*]
  · simp

section
variable {H : Type} {enc : TypeId × Value → H} {w : World} {base : Nat} {spare : Nat → Bool} {held : Bool}

theorem read_slice {α : Type} {t e : TypeId} {C : Nat} (ht : Tryz.prog.underlying t = some (.slice e)) (hC : Tryz.prog.cellsOf e = C) (h0 : 0 < C) (G : α → List Value → Nat → Prop)
    (R : ∀ n cs y, DataW.trod enc Tryz.prog w base spare held n e cs = some y → ∃ z, G z cs (Rows.uptoBulk y.1)) {fuel : Nat} {cs : List Value} {x : DataW H × List MemPlace} (h : DataW.trod enc Tryz.prog w base spare held fuel t cs = some x) :
    ∃ (A : Option Addr) (c : Nat) (l : List α), cs = [.slice A l.length c] ∧ l.length ≤ Rows.uptoBulk x.1 ∧
      (l ≠ [] → ∃ b off, A = some ⟨b, off, none⟩ ∧ b < w.heap.size ∧ ∀ k z, l[k]? = some z → ∃ cs' m, (∀ i, i < C → w.cell? ⟨b, off + k * C + i, none⟩ = cs'[i]?) ∧ G z cs' m ∧ m ≤ Rows.uptoBulk x.1) ∧
      (∀ z ∈ l, ∃ cs' m, G z cs' m ∧ m ≤ Rows.uptoBulk x.1) ∧ l.length ≤ c ∧ (A = none → l.length = 0 ∧ c = 0) := by
  rcases open_slice ht h with ⟨rfl, rfl⟩ | ⟨a, len, cap, m, n, D, Pl, rfl, hb, hl, hm, hmm, rfl, hx⟩
  · exact ⟨none, 0, [], rfl, by simp, fun h => absurd rfl h, by simp, by simp, fun _ => ⟨rfl, rfl⟩⟩
  · have hlm : len ≤ m := by rw [hmm]; split <;> omega
    have each : ∀ i, i < len → ∃ q : α × List Value, w.cells? base (a.add (i * C)) C = some q.2 ∧ G q.1 q.2 (Rows.uptoBulk (D i)) := fun i hi => by
      obtain ⟨cs', h1, h2⟩ := hx i (by omega)
      obtain ⟨z, hz⟩ := R _ _ _ h2
      rw [hC] at h1
      exact ⟨(z, cs'), h1, hz⟩
    have hbulk : ∀ i, i < len → Rows.uptoBulk (D i) ≤ Rows.uptoBulk (.slice ((List.range len).map D) ((List.range (m - len)).map fun j => D (len + j))) := fun i hi => by
      have h1 := bulks.part_le (d := D i) (l := (List.range len).map D) (List.mem_map.2 ⟨i, List.mem_range.2 hi, rfl⟩)
      have h2 := bulks.slice_elems ((List.range len).map D) ((List.range (m - len)).map fun j => D (len + j))
      omega
    have hlen : len ≤ Rows.uptoBulk (.slice ((List.range len).map D) ((List.range (m - len)).map fun j => D (len + j))) := by
      have h2 := bulks.slice_le ((List.range len).map D) ((List.range (m - len)).map fun j => D (len + j))
      simp at h2
      omega
    by_cases hz : len = 0
    · subst hz
      exact ⟨some a, cap, [], rfl, by simp, fun h => absurd rfl h, by simp, by simp, fun h => by cases h⟩
    · have : Nonempty (α × List Value) := let ⟨q, _⟩ := each 0 (by omega); ⟨q⟩
      have : Inhabited (α × List Value) := ⟨Classical.choice this⟩
      obtain ⟨q, hq⟩ := choose_lt each
      have hat : ∀ (k : Nat) (z : α), ((List.range len).map fun i => (q i).1)[k]? = some z → k < len ∧ z = (q k).1 := fun k z hk => by
        rw [List.getElem?_map] at hk
        obtain ⟨i, hi, rfl⟩ := Option.map_eq_some_iff.1 hk
        rw [List.getElem?_range (by
          rcases Nat.lt_or_ge k len with h | h
          · exact h
          · rw [List.getElem?_eq_none (by simpa using h)] at hi; cases hi)] at hi
        cases hi
        refine ⟨?_, rfl⟩
        rcases Nat.lt_or_ge k len with h | h
        · exact h
        · rw [List.getElem?_eq_none (by simpa using h)] at hk; cases hk
      obtain ⟨_, hl0, hc0⟩ := World.cells?_some (hq 0 (by omega)).1
      have hc00 := hc0 0 h0
      rw [Nat.zero_mul] at hc00
      have hx0 : a.add 0 = a := rfl
      rw [hx0, hx0, List.getElem?_eq_getElem (by omega)] at hc00
      obtain ⟨hsp, hbl⟩ := plain_cell hc00
      obtain ⟨b, off, sp⟩ := a
      simp only at hsp hbl
      subst hsp
      refine ⟨some ⟨b, off, none⟩, cap, (List.range len).map fun i => (q i).1, by simp, by simpa using hlen, fun _ => ⟨b, off, rfl, hbl, fun k z hk => ?_⟩, fun z hz' => ?_, by simpa using hl, fun h => by cases h⟩
      · obtain ⟨hkl, rfl⟩ := hat k z hk
        obtain ⟨h1, h2⟩ := hq k hkl
        obtain ⟨_, h3, h4⟩ := World.cells?_some h1
        refine ⟨(q k).2, _, fun i hi => ?_, h2, hbulk k hkl⟩
        have := h4 i hi
        rw [add_at, add_at] at this
        exact this
      · obtain ⟨i, hi, rfl⟩ := List.mem_map.1 hz'
        have hi' := List.mem_range.1 hi
        exact ⟨_, _, (hq i hi').2, hbulk i hi'⟩

theorem read_str {n : Nat} {cs : List Value} {y : DataW H × List MemPlace} (h : DataW.trod enc Tryz.prog w base spare held n 9 cs = some y) : ∃ s : Str, cs = [vS s] ∧ s.length ≤ Rows.uptoBulk y.1 := by
  obtain ⟨s, rfl, rfl, _⟩ := DataW.trod_string Tryz.underlying9 h
  refine ⟨s.data.toList, by simp, ?_⟩
  rw [bulks.string_eq]
  omega
theorem read_strs {n : Nat} {cs : List Value} {x : DataW H × List MemPlace} (h : DataW.trod enc Tryz.prog w base spare held n 42 cs = some x) :
    ∃ A c l, cs = [.slice A l.length c] ∧ Strs w w.heap.size A l ∧ l.length ≤ Rows.uptoBulk x.1 ∧ ∀ s ∈ l, s.length ≤ Rows.uptoBulk x.1 := by
  obtain ⟨A, c, l, h1, h2, h3, h4, h5⟩ := read_slice (α := Str) (C := 1) Tryz.underlying42 (by kernel_rfl) (by decide) (fun z cs m => cs = [vS z] ∧ z.length ≤ m) (fun n cs y hy => read_str hy) h
  refine ⟨A, c, l, h1, fun hl => ?_, h2, fun s hs => ?_⟩
  · obtain ⟨b, off, rfl, hb, hc⟩ := h3 hl
    refine ⟨b, off, rfl, hb, fun k s hk => ?_⟩
    obtain ⟨cs', m, e1, ⟨e2, _⟩, _⟩ := hc k s hk
    have := e1 0 (by decide)
    rw [e2] at this
    simpa using this
  · obtain ⟨cs', m, ⟨_, e1⟩, e2⟩ := h4 s hs
    omega
theorem bulk_two (a b : DataW H) : Rows.uptoBulk (.agg [a, b]) = Rows.uptoBulk a + Rows.uptoBulk b + 1 := by simp [Rows.uptoBulk, Rows.uptoBulkAll]
theorem bulk_four (a b c d : DataW H) : Rows.uptoBulk (.agg [a, b, c, d]) = Rows.uptoBulk a + Rows.uptoBulk b + Rows.uptoBulk c + Rows.uptoBulk d + 1 := by simp [Rows.uptoBulk, Rows.uptoBulkAll]; omega
theorem wf_range {n : Int} (h : (Lit.int .i64 n).wf = true) : -9223372036854775808 ≤ n ∧ n ≤ 9223372036854775807 := by
  have e1 : IntKind.i64.min = -9223372036854775808 := by decide
  have e2 : IntKind.i64.max = 9223372036854775807 := by decide
  simp [Lit.wf, e1, e2] at h
  omega
set_option maxRecDepth 100000 in
theorem read_fld {n : Nat} {cs : List Value} {y : DataW H × List MemPlace} (h : DataW.trod enc Tryz.prog w base spare held n 90 cs = some y) :
    ∃ x : Fld, cs = [vS x.1, .int .i64 x.2] ∧ x.1.length ≤ Rows.uptoBulk y.1 ∧ -9223372036854775808 ≤ x.2 ∧ x.2 ≤ 9223372036854775807 := by
  obtain ⟨y0, y1, m, rfl, hl, h0, h1⟩ := trod_struct2 Tryz.underlying90 h
  have hc : Tryz.prog.cellsOf 90 = 2 := by kernel_rfl
  rw [hc] at hl
  match cs, hl with
  | [v0, v1], _ =>
    have c0 : Tryz.prog.cellsOf 9 = 1 := by kernel_rfl
    have c1 : Tryz.prog.cellsOf 3 = 1 := by kernel_rfl
    simp only [c0, c1, List.drop_zero, List.drop_succ_cons, List.take_succ_cons, List.take_zero] at h0 h1
    obtain ⟨s, e0, b0⟩ := read_str h0
    obtain ⟨k, e1, rfl, hw⟩ := DataW.trod_int Tryz.underlying3 h1
    cases e0
    cases e1
    have := wf_range hw
    exact ⟨(s, k), rfl, by rw [bulk_two]; simp only; omega, this⟩
theorem read_flds {n : Nat} {cs : List Value} {x : DataW H × List MemPlace} (h : DataW.trod enc Tryz.prog w base spare held n 43 cs = some x) :
    ∃ A c l, cs = [.slice A l.length c] ∧ Flds w w.heap.size A l ∧ l.length ≤ Rows.uptoBulk x.1 ∧ ∀ s ∈ l, s.1.length ≤ Rows.uptoBulk x.1 ∧ -9223372036854775808 ≤ s.2 ∧ s.2 ≤ 9223372036854775807 := by
  obtain ⟨A, c, l, h1, h2, h3, h4, h5⟩ := read_slice (α := Fld) (C := 2) Tryz.underlying43 (by kernel_rfl) (by decide) (fun z cs m => cs = [vS z.1, .int .i64 z.2] ∧ z.1.length ≤ m ∧ -9223372036854775808 ≤ z.2 ∧ z.2 ≤ 9223372036854775807) (fun n cs y hy => read_fld hy) h
  refine ⟨A, c, l, h1, fun hl => ?_, h2, fun s hs => ?_⟩
  · obtain ⟨b, off, rfl, hb, hc⟩ := h3 hl
    refine ⟨b, off, rfl, hb, fun k s hk => ?_⟩
    obtain ⟨cs', m, e1, ⟨e2, _⟩, _⟩ := hc k s hk
    have f0 := e1 0 (by decide)
    have f1 := e1 1 (by decide)
    rw [e2] at f0 f1
    exact ⟨by simpa using f0, by simpa using f1⟩
  · obtain ⟨cs', m, ⟨_, e1, e3, e4⟩, e2⟩ := h4 s hs
    exact ⟨by omega, e3, e4⟩

set_option maxRecDepth 100000 in
theorem read_ev {n : Nat} {cs : List Value} {y : DataW H × List MemPlace} (h : DataW.trod enc Tryz.prog w base spare held n 45 cs = some y) :
    ∃ (e : Ev) (tA : Option Addr) (tc : Nat) (fA : Option Addr) (fc : Nat), cs = [vS e.stream, vS e.typ, .slice tA e.tags.length tc, .slice fA e.flds.length fc] ∧ Strs w w.heap.size tA e.tags ∧ Flds w w.heap.size fA e.flds ∧ (Rows.uptoBulk y.1 ≤ 1048576 → e.Small) := by
  obtain ⟨xs, m, _, rfl, hl, hxl, hf⟩ := DataW.trod_struct Tryz.underlying45 h
  have hc : Tryz.prog.cellsOf 45 = 4 := by kernel_rfl
  rw [hc] at hl
  have c0 : Tryz.prog.cellsOf 9 = 1 := by kernel_rfl
  have c1 : Tryz.prog.cellsOf 42 = 1 := by kernel_rfl
  have c2 : Tryz.prog.cellsOf 43 = 1 := by kernel_rfl
  match cs, hl, xs, hxl with
  | [v0, v1, v2, v3], _, [y0, y1, y2, y3], _ =>
    have h0 := hf 0 _ rfl
    have h1 := hf 1 _ rfl
    have h2 := hf 2 _ rfl
    have h3 := hf 3 _ rfl
    simp only [c0, c1, c2, List.drop_zero, List.drop_succ_cons, List.take_succ_cons, List.take_zero, List.getElem?_cons_zero, List.getElem?_cons_succ] at h0 h1 h2 h3
    obtain ⟨s, e0, b0⟩ := read_str h0
    obtain ⟨t, e1, b1⟩ := read_str h1
    obtain ⟨A2, k2, l2, e2, q2, b2, b2'⟩ := read_strs h2
    obtain ⟨A3, k3, l3, e3, q3, b3, b3'⟩ := read_flds h3
    cases e0
    cases e1
    cases e2
    cases e3
    refine ⟨⟨s, t, l2, l3⟩, A2, k2, A3, k3, rfl, q2, q3, fun hb => ?_⟩
    simp only [List.map_cons, List.map_nil] at hb
    rw [bulk_four] at hb
    exact ⟨by simp only; omega, by simp only; omega, ⟨by simp only; omega, fun z hz => by have := b2' z hz; omega⟩, by simp only; omega, fun z hz => by
      obtain ⟨q1, q2, q3⟩ := b3' z hz
      exact ⟨by omega, q2, q3⟩⟩
theorem read_evs {n : Nat} {cs : List Value} {x : DataW H × List MemPlace} (h : DataW.trod enc Tryz.prog w base spare held n 28 cs = some x) (hb : Rows.uptoBulk x.1 ≤ 1048576) :
    ∃ A c l, cs = [.slice A l.length c] ∧ Evts w w.heap.size A l ∧ l.length ≤ 1048576 ∧ ∀ e ∈ l, e.Small := by
  obtain ⟨A, c, l, h1, h2, h3, h4, h5⟩ := read_slice (α := Ev) (C := 4) Tryz.underlying28 (by kernel_rfl) (by decide)
    (fun e cs m => ∃ (tA : Option Addr) (tc : Nat) (fA : Option Addr) (fc : Nat), cs = [vS e.stream, vS e.typ, .slice tA e.tags.length tc, .slice fA e.flds.length fc] ∧ Strs w w.heap.size tA e.tags ∧ Flds w w.heap.size fA e.flds ∧ (m ≤ 1048576 → e.Small))
    (fun n cs y hy => by obtain ⟨e, tA, tc, fA, fc, q⟩ := read_ev hy; exact ⟨e, tA, tc, fA, fc, q⟩) h
  refine ⟨A, c, l, h1, fun hl => ?_, by omega, fun e he => ?_⟩
  · obtain ⟨b, off, rfl, hbl, hc⟩ := h3 hl
    refine ⟨b, off, rfl, hbl, fun k e hk => ?_⟩
    obtain ⟨cs', m, e1, ⟨tA, tc, fA, fc, rfl, q1, q2, _⟩, _⟩ := hc k e hk
    exact ⟨tA, tc, fA, fc, by simpa using e1 0 (by decide), by simpa using e1 1 (by decide), by simpa using e1 2 (by decide), by simpa using e1 3 (by decide), q1, q2⟩
  · obtain ⟨cs', m, ⟨_, _, _, _, _, _, _, hsm⟩, hm⟩ := h4 e he
    exact hsm (by omega)
end
end Go.Proofs.YtdonhmdeijidkaaGreat
