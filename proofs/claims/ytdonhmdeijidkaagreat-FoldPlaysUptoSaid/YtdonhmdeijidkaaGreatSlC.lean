/-
  Walks: slices.Clone, slices.Compact at texts; query.rise.
-/
import Derived.Test.YtdonhmdeijidkaaGreatSlB
import Derived.Test.YtdonhmdeijidkaaGreatOrd
namespace Go.Proofs.YtdonhmdeijidkaaGreat
open Go.RowKit Go.Shelf Go.Sort

theorem vS_one (l : List Str) : ∀ u ∈ l.map vS, u.oneCell' = true := by
  intro u hu
  obtain ⟨s, _, rfl⟩ := List.mem_map.1 hu
  rfl
theorem strs_cells {w : World} {b off : Nat} {l : List Str} (h : ∀ k s, l[k]? = some s → w.cell? ⟨b, off + k, none⟩ = some (vS s)) : ∀ j u, (l.map vS)[j]? = some u → w.cell? ((⟨b, off, none⟩ : Addr).add j) = some u := by
  intro j u hu
  rw [List.getElem?_map] at hu
  obtain ⟨s, hs, rfl⟩ := Option.map_eq_some_iff.1 hu
  have := h j s hs
  unfold Addr.add
  split
  · rename_i e; subst e; simpa using this
  · simpa using this

theorem clone_str_calls (w : World) (A : Option Addr) (c : Nat) (l : List Str) (h : Strs w w.heap.size A l) (hn : l.length ≤ 1048576) :
    Calls Tryz.prog 141 #[.slice A l.length c] w fun e w' => (∃ v, e = .returned v ∧ w'.ownsRow w.heap.size 9 1 v l.length (l.map vS)) ∧ Below w.heap.size w w' := by
  obtain ⟨i0, hi, hz0, hz1, hz2⟩ := info_parts info_str
  have q : ∀ (w : World) (a : Option Addr) (n c n' c' : Nat), (binOp .eql 42 (.slice a n c) (.slice none n' c')).run Tryz.prog w = .ok (.bool a.isNone) w := fun w a n c n' c' => Lib.run_eql_slice_nil w _ _ a n c n' c' Tryz.underlying42
  have hcells : ∀ ad, A = some ad → ∀ j u, (l.map vS)[j]? = some u → w.cell? (ad.add j) = some u := by
    rintro ad rfl j u hu
    by_cases h0 : l = []
    · subst h0; simp at hu
    · obtain ⟨b, off, e, hb, hc⟩ := h h0
      cases e
      exact strs_cells hc j u hu
  rcases A with _ | ad
  · have hl : l = [] := by
      by_cases h0 : l = []
      · exact h0
      · obtain ⟨b, off, e, _⟩ := h h0; cases e
    subst hl
    clear hcells h
    go_enter Tryz.func141, Tryz.ntmps141
    go_wp2
    go_ret
    exact ⟨⟨_, rfl, World.ownsRow_nil _ _ _ _⟩, Below.refl _ _⟩
  · have HC := Lib.hid (hcells ad rfl)
    have H1 := Lib.hid (vS_one l)
    clear hcells h
    have hbw : Below w.heap.size w (w.alloc (.cells #[] 9)) := (Below.refl w.heap.size w).alloc (Nat.le_refl _) _
    have hown0 := World.ownsRow_made (base := w.heap.size) (e := 9) (size := 1) w #[] 0 (Nat.le_refl _) (by simp [maxLen]) rfl
    have HC2 : Hid (∀ j u, (l.map vS)[j]? = some u → (w.alloc (.cells #[] 9)).cell? (ad.add j) = some u) := Lib.hid (by
      intro j u hu
      have h1 := HC.out j u hu
      rw [World.cell?_alloc_lt w _ _ (World.block_lt_of_cell? w _ h1)]
      exact h1)
    go_enter Tryz.func141, Tryz.ntmps141
    go_wp2_with (at_builtin; refine wpList_append_own _ rfl _ _ 42 rfl w.heap.size 9 i0 (.string .empty) 1 16 Tryz.underlying42 hi hz0 hz1 hz2 rfl (by decide) _ _ _ rfl hown0 ad l.length c (l.map vS) rfl (by simp) HC2.out H1.out (by unfold maxLen; omega) (by omega) (by simp) ?_; intro v' w1 hown hgrow hnil; clear hnil)
    go_ret
    exact ⟨⟨_, rfl, by simpa using hown⟩, hbw.grown hgrow (by simp) (fun k hk => by change some w.heap.size = some k at hk; cases hk; exact Nat.le_refl _)⟩

theorem compact_le (l : List Str) : (Lib.compact l).length ≤ l.length := by
  unfold Lib.compact Lib.compactUpTo
  rw [List.length_map]
  have := List.length_filter_le (Lib.keeps l.toArray) (List.range l.length)
  simpa using this
theorem holds_of_own {w : World} {base : Nat} {e : TypeId} {A : Option Addr} {c : Nat} {l : List Str} (h : w.ownsRow base e 1 (.slice A l.length c) l.length (l.map vS)) (hl : l ≠ []) :
    ∃ g, A = some ⟨g, 0, none⟩ ∧ base ≤ g ∧ l.length ≤ c ∧ g < w.heap.size ∧ Holds encStr w g 0 l.toArray := by
  have hp := List.length_pos_iff.2 hl
  rcases h.2 with ⟨_, h0⟩ | ⟨g, cap, cur, hv, hb, hg, hnc, hcm, hcs, htk⟩
  · omega
  · injection hv with hA _ hc
    subst hA; subst hc
    have hgl := (Array.getElem?_eq_some_iff.1 hg).1
    exact ⟨g, rfl, hb, hnc, hgl, holds_of_block hg (by simpa using htk)⟩

/-- Where there is an element, it lies from block B on. -/
def From (B : Nat) (A : Option Addr) (l : List Str) : Prop := l ≠ [] → ∀ a, A = some a → B ≤ a.block

/-- Whatever row of the call's own: cut to what is no repeat; nothing below the row turns. -/
theorem compact_str_calls (w : World) (base : Nat) (A : Option Addr) (c : Nat) (l : List Str) (h : w.ownsRow base 9 1 (.slice A l.length c) l.length (l.map vS)) (hn : l.length ≤ 1048576) :
    Calls Tryz.prog 123 #[.slice A l.length c] w fun e w' => (∃ v, e = .returned v ∧ ∃ A c, v = .slice A (Lib.compact l).length c ∧ Strs w' w'.heap.size A (Lib.compact l) ∧ From base A (Lib.compact l)) ∧ Below base w w' := by
  by_cases h0 : l = []
  · subst h0
    refine (Any.slices_Compact_string_empty layCompact A c w).mono ?_
    rintro e w' ⟨rfl, rfl⟩
    exact ⟨⟨_, rfl, A, c, rfl, fun h => absurd rfl h, fun h => absurd rfl h⟩, Below.refl _ _⟩
  · obtain ⟨g, rfl, hb, hlc, hgl, hH⟩ := holds_of_own h h0
    refine (Any.slices_Compact_string layCompact g 0 c l w hH (by omega) hlc).mono ?_
    rintro e w' ⟨rfl, q, rfl⟩
    have hle := compact_le l
    have hsz : (Lib.compact l ++ List.replicate (l.length - (Lib.compact l).length) []).toArray.size = l.toArray.size := by simp; omega
    have hH2 := holds_putRow encStr (Sort.ahead w q) g 0 l.toArray (Lib.compact l ++ List.replicate (l.length - (Lib.compact l).length) []).toArray (holds_ahead encStr w q g 0 l.toArray hH) hsz
    have hgr := grownBy_sorted (w := w) (g := g) (n := q) (os := #[]) (Lib.compact l ++ List.replicate (l.length - (Lib.compact l).length) []).toArray
    rw [grow_empty] at hgr
    refine ⟨⟨_, rfl, _, c, rfl, fun _ => ⟨g, 0, rfl, by simpa using hgl, fun k s hs => ?_⟩, fun _ a ha => by cases ha; exact hb⟩, ?_⟩
    · obtain ⟨hk, e⟩ := List.getElem?_eq_some_iff.1 hs
      have := (hH2 k (by simp; omega)).1
      rw [this, getElem!_pos _ k (by simp; omega)]
      simp [List.getElem_append_left hk, e, encStr]
    · exact (Below.refl base w).grown hgr (Nat.le_trans hb (Nat.le_of_lt hgl)) (fun k hk => by cases hk; exact hb)

theorem keeps_iff {l : List Str} : (Lib.compact l).length = l.length ↔ ∀ j, j < l.length → Lib.keeps l.toArray j = true := by
  unfold Lib.compact Lib.compactUpTo
  rw [List.length_map]
  constructor
  · intro h j hj
    have h2 := List.length_filter_eq_length_iff.1 (show ((List.range l.length).filter (Lib.keeps l.toArray)).length = (List.range l.length).length by rw [h]; simp)
    exact h2 j (List.mem_range.2 hj)
  · intro h
    rw [List.filter_eq_self.2 (fun j hj => h j (List.mem_range.1 hj))]
    simp
theorem keeps_at {l : List Str} {j : Nat} {a b : Str} (ha : l[j]? = some a) (hb : l[j + 1]? = some b) : Lib.keeps l.toArray (j + 1) = true ↔ a ≠ b := by
  obtain ⟨h1, e1⟩ := List.getElem?_eq_some_iff.1 ha
  obtain ⟨h2, e2⟩ := List.getElem?_eq_some_iff.1 hb
  simp only [Lib.keeps, Nat.add_sub_cancel]
  rw [getElem!_pos _ (j + 1) (by simpa using h2), getElem!_pos _ j (by simpa using h1)]
  simp [e1, e2]
  exact ne_comm
theorem rise_eq (l : List Str) : (sortedB l && ((Lib.compact l).length : Int) == (l.length : Int)) = riseB l := by
  cases hs : sortedB l
  · simp only [Bool.false_and]
    symm
    rw [Bool.eq_false_iff]
    intro hr
    have : sortedB l = true := sorted_all fun k a b ha hb => less_asymm (by
      cases h : Op.bytesLess a b
      · rw [rise_two ha hb h] at hr; cases hr
      · rfl)
    rw [hs] at this; cases this
  · simp only [Bool.true_and]
    have hns : ∀ k a b, l[k]? = some a → l[k + 1]? = some b → Op.bytesLess b a = false := fun k a b ha hb => by
      cases h : Op.bytesLess b a
      · rfl
      · rw [sorted_two ha hb h] at hs; cases hs
    rw [Bool.eq_iff_iff]
    constructor
    · intro h
      have h' : (Lib.compact l).length = l.length := by simp at h; omega
      rw [keeps_iff] at h'
      exact rise_all fun k a b ha hb => less_of (hns k a b ha hb) ((keeps_at ha hb).1 (h' (k + 1) (List.getElem?_eq_some_iff.1 hb).1))
    · intro h
      have h' : (Lib.compact l).length = l.length := by
        rw [keeps_iff]
        intro j hj
        cases j with
        | zero => simp [Lib.keeps]
        | succ j =>
          obtain ⟨a, ha⟩ := at_some (l := l) (k := j) (by omega)
          obtain ⟨b, hb⟩ := at_some hj
          refine (keeps_at ha hb).2 (less_ne ?_)
          cases hl : Op.bytesLess a b
          · rw [rise_two ha hb hl] at h; cases h
          · rfl
      simp [h']

theorem rise_query_calls (w : World) (A : Option Addr) (c : Nat) (l : List Str) (h : Strs w w.heap.size A l) (hn : l.length ≤ 1048576) :
    Calls Tryz.prog 121 #[.slice A l.length c] w fun e w' => e = .returned (.bool (riseB l)) ∧ Below w.heap.size w w' := by
  have E := Lib.hid (rise_eq l)
  have HL := Lib.hid (compact_le l)
  generalize hs : sortedB l = s at E
  have HS := Lib.hid hs
  clear hs
  go_enter Tryz.func121, Tryz.ntmps121
  go_wp2_with fail
  refine (issorted_calls w A c l h hn).mono ?_
  rintro e w1 ⟨rfl, hb1⟩
  rw [HS.out]
  cases s
  · go_wp2
    go_ret
    exact ⟨ret_bool (by rw [← E.out]; rfl), hb1⟩
  · have h1 := (h.same (same_below hb1)).more hb1.size
    go_wp2_with fail
    refine (clone_str_calls w1 A c l h1 hn).mono ?_
    rintro e w2 ⟨⟨v, rfl, hown⟩, hb2⟩
    have hbz := hb1.trans (hb2.mono hb1.size)
    obtain ⟨A2, c2, rfl⟩ : ∃ A c, v = .slice A l.length c := by
      rcases hown.2 with ⟨rfl, h0⟩ | ⟨g, cap, _, rfl, _⟩
      · exact ⟨none, 0, by rw [h0]⟩
      · exact ⟨_, _, rfl⟩
    go_wp2_with fail
    refine (compact_str_calls w2 w1.heap.size A2 c2 l hown hn).mono ?_
    rintro e w3 ⟨⟨v, rfl, A3, c3, rfl, _⟩, hb3⟩
    have hbz3 := hbz.trans (hb3.mono hb1.size)
    have hle := HL.out
    generalize hk : (Lib.compact l).length = k at hle
    rw [hk] at E
    clear hk
    go_wp2
    all_goals
      go_ret
      exact ⟨ret_bool (by rw [← E.out]; simp), hbz3⟩
end Go.Proofs.YtdonhmdeijidkaaGreat
