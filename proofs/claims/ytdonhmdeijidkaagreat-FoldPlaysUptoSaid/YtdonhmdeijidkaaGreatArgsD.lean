/-
  What came in, read: clauses, queries, projections.
-/
import Derived.Test.YtdonhmdeijidkaaGreatArgs
import Derived.Test.YtdonhmdeijidkaaGreatQueC
namespace Go.Proofs.YtdonhmdeijidkaaGreat
open Go.RowKit Go.ChangeShapes Go.WideShapes Go.Deep
section
variable {H : Type} {enc : TypeId × Value → H} {w : World} {base : Nat} {spare : Nat → Bool} {held : Bool}

set_option maxRecDepth 100000 in
theorem read_cl {n : Nat} {cs : List Value} {y : DataW H × List MemPlace} (h : DataW.trod enc Tryz.prog w base spare held n 115 cs = some y) :
    ∃ (e : Cl) (tA : Option Addr) (tc : Nat) (yA : Option Addr) (yc : Nat), cs = [.slice tA e.tags.length tc, .slice yA e.types.length yc] ∧ Strs w w.heap.size tA e.tags ∧ Strs w w.heap.size yA e.types ∧ (Rows.uptoBulk y.1 ≤ 1048576 → e.Small) := by
  obtain ⟨y0, y1, m, rfl, hl, h0, h1⟩ := trod_struct2 Tryz.underlying115 h
  have hc : Tryz.prog.cellsOf 115 = 2 := by kernel_rfl
  rw [hc] at hl
  have c1 : Tryz.prog.cellsOf 42 = 1 := by kernel_rfl
  match cs, hl with
  | [v0, v1], _ =>
    simp only [c1, List.drop_zero, List.drop_succ_cons, List.take_succ_cons, List.take_zero] at h0 h1
    obtain ⟨A2, k2, l2, e2, q2, b2, b2'⟩ := read_strs h0
    obtain ⟨A3, k3, l3, e3, q3, b3, b3'⟩ := read_strs h1
    cases e2
    cases e3
    refine ⟨⟨l2, l3⟩, A2, k2, A3, k3, rfl, q2, q3, fun hb => ?_⟩
    rw [bulk_two] at hb
    exact ⟨⟨by simp only; omega, fun z hz => by have := b2' z hz; omega⟩, by simp only; omega, fun z hz => by have := b3' z hz; omega⟩
theorem read_cls {n : Nat} {cs : List Value} {x : DataW H × List MemPlace} (h : DataW.trod enc Tryz.prog w base spare held n 22 cs = some x) :
    ∃ A c l, cs = [.slice A l.length c] ∧ Cls w w.heap.size A l ∧ l.length ≤ c ∧ (Rows.uptoBulk x.1 ≤ 1048576 → SmallQ l) := by
  obtain ⟨A, c, l, h1, h2, h3, h4, h5⟩ := read_slice (α := Cl) (C := 2) Tryz.underlying22 (by kernel_rfl) (by decide)
    (fun e cs m => ∃ (tA : Option Addr) (tc : Nat) (yA : Option Addr) (yc : Nat), cs = [.slice tA e.tags.length tc, .slice yA e.types.length yc] ∧ Strs w w.heap.size tA e.tags ∧ Strs w w.heap.size yA e.types ∧ (m ≤ 1048576 → e.Small))
    (fun n cs y hy => by obtain ⟨e, tA, tc, yA, yc, q⟩ := read_cl hy; exact ⟨e, tA, tc, yA, yc, q⟩) h
  refine ⟨A, c, l, h1, fun hl => ?_, h5.1, fun hb => ⟨by omega, fun e he => ?_⟩⟩
  · obtain ⟨b, off, rfl, hbl, hc⟩ := h3 hl
    refine ⟨b, off, rfl, hbl, fun k e hk => ?_⟩
    obtain ⟨cs', m, e1, ⟨tA, tc, yA, yc, rfl, q1, q2, _⟩, _⟩ := hc k e hk
    exact ⟨tA, tc, yA, yc, e1 0 (by decide), e1 1 (by decide), q1, q2⟩
  · obtain ⟨cs', m, ⟨_, _, _, _, _, _, _, hsm⟩, hm⟩ := h4 e he
    exact hsm (by omega)
theorem bulk_one (a : DataW H) : Rows.uptoBulk (.agg [a]) = Rows.uptoBulk a + 1 := by simp [Rows.uptoBulk, Rows.uptoBulkAll]
theorem bulk_three (a b c : DataW H) : Rows.uptoBulk (.agg [a, b, c]) = Rows.uptoBulk a + Rows.uptoBulk b + Rows.uptoBulk c + 1 := by simp [Rows.uptoBulk, Rows.uptoBulkAll]; omega
set_option maxRecDepth 100000 in
theorem read_query {n : Nat} {cs : List Value} {x : DataW H × List MemPlace} (h : DataW.trod enc Tryz.prog w base spare held n 24 cs = some x) :
    ∃ A c l, cs = [.slice A l.length c] ∧ Cls w w.heap.size A l ∧ l.length ≤ c ∧ (Rows.uptoBulk x.1 ≤ 1048576 → SmallQ l) := by
  obtain ⟨y0, m, rfl, hl, h0⟩ := trod_struct1 Tryz.underlying24 h
  have hc : Tryz.prog.cellsOf 24 = 1 := by kernel_rfl
  have hc1 : Tryz.prog.cellsOf 22 = 1 := by kernel_rfl
  rw [hc] at hl
  match cs, hl with
  | [v0], _ =>
    simp only [hc1, List.drop_zero, List.take_succ_cons, List.take_zero] at h0
    obtain ⟨A, c, l, e1, q1, q2, q3⟩ := read_cls h0
    cases e1
    exact ⟨A, c, l, rfl, q1, q2, fun hb => q3 (by rw [bulk_one] at hb; omega)⟩
set_option maxRecDepth 100000 in
theorem read_def {n : Nat} {cs : List Value} {y : DataW H × List MemPlace} (h : DataW.trod enc Tryz.prog w base spare held n 26 cs = some y) :
    ∃ (d : Df) (A : Option Addr) (c : Nat), cs = [.int .i64 d.kind, vS d.field, .slice A d.q.length c] ∧ Cls w w.heap.size A d.q ∧ d.q.length ≤ c ∧ (Rows.uptoBulk y.1 ≤ 1048576 → d.Small) := by
  obtain ⟨xs, m, _, rfl, hl, hxl, hf⟩ := DataW.trod_struct Tryz.underlying26 h
  have hc : Tryz.prog.cellsOf 26 = 3 := by kernel_rfl
  rw [hc] at hl
  have c0 : Tryz.prog.cellsOf 9 = 1 := by kernel_rfl
  have c1 : Tryz.prog.cellsOf 3 = 1 := by kernel_rfl
  have c2 : Tryz.prog.cellsOf 24 = 1 := by kernel_rfl
  match cs, hl, xs, hxl with
  | [v0, v1, v2], _, [y0, y1, y2], _ =>
    have h0 := hf 0 _ rfl
    have h1 := hf 1 _ rfl
    have h2 := hf 2 _ rfl
    simp only [c0, c1, c2, List.drop_zero, List.drop_succ_cons, List.take_succ_cons, List.take_zero, List.getElem?_cons_zero, List.getElem?_cons_succ] at h0 h1 h2
    obtain ⟨k, e0, r0, hw⟩ := DataW.trod_int Tryz.underlying3 h0
    obtain ⟨s, e1, b1⟩ := read_str h1
    obtain ⟨A, c, q, e2, q1, q2, q3⟩ := read_query h2
    cases e0
    cases e1
    cases e2
    have hr := wf_range hw
    refine ⟨⟨k, s, q⟩, A, c, rfl, q1, q2, fun hb => ?_⟩
    simp only [List.map_cons, List.map_nil] at hb
    rw [bulk_three] at hb
    exact ⟨hr.1, hr.2, by simp only; omega, q3 (by omega)⟩
end
end Go.Proofs.YtdonhmdeijidkaaGreat
