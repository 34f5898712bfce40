/-
  Walks: (*State).Clone.
-/
import Derived.Test.YtdonhmdeijidkaaGreatFoldH
import Derived.Shelf.SlMaps.Clone
namespace Go.Proofs.YtdonhmdeijidkaaGreat
open Go.RowKit Go.Maps
attribute [local go_sem ↓] Go.wp_at_zero Go.wp_at_succ

set_option maxRecDepth 100000 in
set_option maxHeartbeats 2000000 in
theorem clone_map_calls (w : World) (mb : Nat) (E : Ents) (hM : MapIs w mb E) : Calls Tryz.prog 51 #[.map (some mb)] w fun e w' => e = .returned (.map (some w.heap.size)) ∧ MapIs w' w.heap.size E ∧ Below w.heap.size w w' := by
  obtain ⟨hown, hri, hwf⟩ := hM
  obtain ⟨es, clock, hb, F, hs, hD⟩ := hown
  have hq := fun w => run_eql_map_nil_sl (P := Tryz.prog) w 98 _ _ (some mb) map_under
  go_enter Tryz.func51, Tryz.ntmps51
  go_wp2
  rw [run_callFunc_extern Tryz.func90 (by kernel_rfl) (by kernel_rfl) (by kernel_rfl) (e := Extern.MapsClone.clone) (by kernel_rfl), run_maps_clone_sl w 98 hb]
  simp only [Result.andThen]
  rw [Oper.upon_value]
  go_wp2
  rw [run_typeAssert_map_sl _ 98 20 _ _ _ map_under]
  simp only [Result.andThen]
  rw [Oper.upon_value]
  go_wp2
  go_ret
  exact ⟨rfl, ⟨⟨es, clock, (MapKept.heap_alloc w _).1, F, hs, hD⟩, hri, hwf⟩, (Below.refl _ w).alloc (Nat.le_refl _) _⟩

theorem kind_iface (k : Int) (f : Str) : ∃ T x, kindK k f = .iface T x := by
  unfold kindK kindV
  repeat' split
  all_goals exact ⟨_, _, rfl⟩

/-- A state in memory whose query lies below B. -/
structure StB (w : World) (B sb mb : Nat) (k : Int) (f : Str) (q : List Cl) (E : Ents) : Prop where
  cells : ∃ A c, Blk w sb 100 #[kindK k f, .slice A q.length c, .map (some mb)] ∧ Cls w B A q
  map : MapIs w mb E
  low : B ≤ sb
section
variable {w w' : World} {B sb mb : Nat} {k : Int} {f : Str} {q : List Cl} {E E' : Ents}
theorem StB.st (h : StB w B sb mb k f q E) : St w sb mb k f q E := by
  obtain ⟨⟨A, c, h1, h2⟩, h3, h4⟩ := h
  exact ⟨⟨A, c, h1, h2.more h4⟩, h3⟩
theorem St.b (h : St w sb mb k f q E) : StB w sb sb mb k f q E := ⟨h.cells, h.map, Nat.le_refl _⟩
theorem StB.lt (h : StB w B sb mb k f q E) : sb < w.heap.size := by
  obtain ⟨⟨A, c, h1, h2⟩, h3, h4⟩ := h
  exact h1.lt
theorem StB.more {B' : Nat} (h : StB w B sb mb k f q E) (h1 : B ≤ B') (h2 : B' ≤ sb) : StB w B' sb mb k f q E := by
  obtain ⟨⟨A, c, h3, h4⟩, h5, h6⟩ := h
  exact ⟨⟨A, c, h3, h4.more h1⟩, h5, h2⟩
theorem StB.below (h : StB w B sb mb k f q E) (hb : Below w.heap.size w w') : StB w' B sb mb k f q E := by
  have hlt := h.lt
  obtain ⟨⟨A, c, h1, h2⟩, h3, h4⟩ := h
  exact ⟨⟨A, c, h1.kept hb, h2.same ((same_below hb).mono (by omega))⟩, h3.below hb, h4⟩
/-- Its map turns. -/
theorem StB.turn (h : StB w B sb mb k f q E) (hg : w.grownBy w' (some mb)) (hm : MapIs w' mb E') : StB w' B sb mb k f q E' := by
  have hlt := h.lt
  obtain ⟨⟨A, c, h1, h2⟩, h3, h4⟩ := h
  exact ⟨⟨A, c, h1.turn h3 hg, h2.same ((same_turn hg h3 hm).mono (by omega))⟩, hm, h4⟩
/-- Another's map turns. -/
theorem StB.other {m2 : Nat} {F F' : Ents} (h : StB w B sb mb k f q E) (hm0 : MapIs w m2 F) (hg : w.grownBy w' (some m2)) (hm : MapIs w' m2 F') (hne : mb ≠ m2) : StB w' B sb mb k f q E := by
  have hlt := h.lt
  obtain ⟨⟨A, c, h1, h2⟩, h3, h4⟩ := h
  exact ⟨⟨A, c, h1.turn hm0 hg, h2.same ((same_turn hg hm0 hm).mono (by omega))⟩, h3.over (hg.block mb h3.lt (by simpa using hne)), h4⟩
/-- Another block turns. -/
theorem StB.grown {g : Nat} (h : StB w B sb mb k f q E) (hg : w.grownBy w' (some g)) (h1 : sb ≠ g) (h2 : mb ≠ g) (h3 : B ≤ g) : StB w' B sb mb k f q E := by
  have hlt := h.lt
  obtain ⟨⟨A, c, k1, k2⟩, k3, k4⟩ := h
  refine ⟨⟨A, c, k1.grown hg (by simpa using h1), k2.same fun b o hb => ?_⟩, k3.over (hg.block mb k3.lt (by simpa using h2)), k4⟩
  exact hg.cell_far ⟨b, o, none⟩ (by show b < _; omega) (by simp; omega)
end

set_option maxRecDepth 100000 in
set_option maxHeartbeats 4000000 in
theorem clone_calls (w : World) (B sb mb : Nat) (k : Int) (f : Str) (q : List Cl) (E : Ents) (hS : StB w B sb mb k f q E) :
    Calls Tryz.prog 17 #[.pointer (some ⟨sb, 0, none⟩)] w fun e w' => (∃ sb' mb', e = .returned (.pointer (some ⟨sb', 0, none⟩)) ∧ StB w' B sb' mb' k f q E ∧ w.heap.size ≤ sb' ∧ w.heap.size ≤ mb') ∧ Below w.heap.size w w' := by
  obtain ⟨⟨A, c, hB, hq⟩, hM, hlow⟩ := hS
  obtain ⟨T, x, hkv⟩ := kind_iface k f
  have hlt := hB.lt
  have HKV := Lib.hid hkv
  have HQ := Lib.hid hq
  have HM := Lib.hid hM
  have HCL := Lib.hid (clone_map_calls w.drew mb E (MapIs.over (w := w) (w' := w.drew) hM rfl))
  rw [hkv] at hB
  have HB := Lib.hid hB
  obtain ⟨c0, c1, c2⟩ := hB.three
  clear hB hq hM hkv
  go_enter Tryz.func17, Tryz.ntmps17
  go_wp2_with fail
  go_region_law (first | (go_simp; go_at_call 51; (with_reducible refine HCL.out.mono ?_); rintro e w2 ⟨rfl, hm2, hb2⟩; obtain ⟨d0, d1, d2⟩ := (HB.out.kept (undrew hb2)).three))
  all_goals
    have hbu := undrew hb2
    have HM2 := Lib.hid hm2
    have HBU := Lib.hid hbu
    have hz := hbu.size
    have HQ2 := Lib.hid (HQ.out.same ((same_below hbu).mono (Nat.le_trans hlow (Nat.le_of_lt hlt))))
    clear hm2 hbu hb2
    go_wp2
    go_ret
    have hal : Below w2.heap.size w2 (w2.alloc (.cells #[.iface T x, .slice A q.length c, .map (some w.heap.size)] 100)) := (Below.refl _ _).alloc (Nat.le_refl _) _
    refine ⟨⟨w2.heap.size, w.heap.size, rfl, ⟨⟨A, c, ?_, ?_⟩, HM2.out.below hal, by omega⟩, hz, Nat.le_refl _⟩, HBU.out.trans (hal.mono hz)⟩
    · rw [HKV.out]; exact Blk.new _ _ _
    · exact HQ2.out.same ((same_below hal).mono (by omega))
end Go.Proofs.YtdonhmdeijidkaaGreat
