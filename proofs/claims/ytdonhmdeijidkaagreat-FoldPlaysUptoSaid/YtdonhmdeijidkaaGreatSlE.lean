/-
  Walks: slices.Collect, slices.Sorted over a row of texts and over a map's keys; query.sorted.
-/
import Derived.Test.YtdonhmdeijidkaaGreatSlD
namespace Go.Proofs.YtdonhmdeijidkaaGreat
open Go.RowKit Go.Shelf Go.Sort

theorem collect_calls (w : World) (A : Option Addr) (cap : Nat) (zs : List Str) (hlen : zs.length ≤ 1048576) (Bs : Nat) (hBs : Bs < w.heap.size)
    (hc : w.cell? ⟨Bs, 0, none⟩ = some (.slice A zs.length cap)) (hI : Strs w w.heap.size A zs) :
    Calls Tryz.prog 98 #[.func (.func 142) #[] #[.pointer (some ⟨Bs, 0, none⟩)]] w fun e W' =>
      (∃ v, e = .returned v ∧ W'.ownsRow w.heap.size 9 1 v zs.length (zs.map vS)) ∧ Below w.heap.size w W' := by
  have H := Lib.hid ((callsIn_wide (n := 3)).1 (appendseq_in Fence.wide 3 trivial trivial rfl (by omega) A cap zs hlen w Bs hBs hc hI))
  clear hc hI
  go_enter Tryz.func98, Tryz.ntmps98
  go_wp2_with fail
  refine H.out.mono ?_
  rintro e w1 ⟨⟨v, rfl, hown⟩, hb⟩
  go_wp2
  go_ret
  exact ⟨⟨v, rfl, hown⟩, hb⟩

abbrev leS (x y : Str) : Bool := decide (x ≤ y)
theorem own_slice {w : World} {base : Nat} {e : TypeId} {sz : Nat} {v : Value} {n : Nat} {xs : List Value} (h : w.ownsRow base e sz v n xs) : ∃ A c, v = .slice A n c := by
  rcases h.2 with ⟨rfl, h0⟩ | ⟨g, cap, _, rfl, _⟩
  · exact ⟨none, 0, by rw [h0]⟩
  · exact ⟨_, _, rfl⟩

theorem sort_calls (w : World) (base : Nat) (v : Value) (l : List Str) (h : w.ownsRow base 9 1 v l.length (l.map vS)) (hn : l.length ≤ 1048576) :
    Calls Tryz.prog 99 #[v] w fun e w' => e = .returned (.tuple #[]) ∧ w'.ownsRow base 9 1 v l.length ((l.mergeSort leS).map vS) ∧ Below base w w' := by
  rcases h.2 with ⟨rfl, h0⟩ | ⟨g, cap, cur, rfl, hb, hg, hnc, hcm, hcs, htk⟩
  · have hl : l = [] := List.eq_nil_of_length_eq_zero h0
    subst hl
    refine (AnyM.slices_Sort_string_none laySort none 0 w).mono ?_
    rintro e w' ⟨rfl, rfl⟩
    exact ⟨rfl, by simpa using h, Below.refl _ _⟩
  · have hgl := (Array.getElem?_eq_some_iff.1 hg).1
    have hH : Holds encStr w g 0 l.toArray := holds_of_block hg (by simpa using htk)
    refine (AnyM.slices_Sort_string laySort g 0 cap l w hH hgl (by omega)).mono ?_
    rintro e w' ⟨rfl, q, os, rfl⟩
    exact ⟨rfl, ownsRow_sorted (by simp) hb hg hnc hcm hcs, (Below.refl base w).grown (grownBy_sorted _) (Nat.le_trans hb (Nat.le_of_lt hgl)) (fun k hk => by cases hk; exact hb)⟩

theorem sorted_values_calls (w : World) (A : Option Addr) (cap : Nat) (zs : List Str) (hlen : zs.length ≤ 1048576) (Bs : Nat) (hBs : Bs < w.heap.size)
    (hc : w.cell? ⟨Bs, 0, none⟩ = some (.slice A zs.length cap)) (hI : Strs w w.heap.size A zs) :
    Calls Tryz.prog 57 #[.func (.func 142) #[] #[.pointer (some ⟨Bs, 0, none⟩)]] w fun e W' =>
      (∃ v, e = .returned v ∧ W'.ownsRow w.heap.size 9 1 v zs.length ((zs.mergeSort leS).map vS)) ∧ Below w.heap.size w W' := by
  have H := Lib.hid (collect_calls w A cap zs hlen Bs hBs hc hI)
  clear hc hI
  go_enter Tryz.func57, Tryz.ntmps57
  go_wp2_with fail
  refine H.out.mono ?_
  rintro e w1 ⟨⟨v, rfl, hown⟩, hb⟩
  go_wp2_with fail
  refine (sort_calls w1 w.heap.size v zs hown hlen).mono ?_
  rintro e w2 ⟨rfl, hown2, hb2⟩
  go_wp2
  go_ret
  exact ⟨⟨v, rfl, hown2⟩, hb.trans hb2⟩

/-- Texts in order, each once. -/
def sortS (l : List Str) : List Str := Lib.compact (l.mergeSort leS)
theorem mem_compact (l : List Str) (x : Str) : x ∈ Lib.compact l ↔ x ∈ l := by
  unfold Lib.compact Lib.compactUpTo
  simp only [List.mem_map, List.mem_filter, List.mem_range]
  constructor
  · rintro ⟨j, ⟨hj, _⟩, rfl⟩
    rw [getElem!_pos _ j (by simpa using hj)]
    simp
  · intro hx
    -- the first place that holds x is kept
    obtain ⟨j, hj, e⟩ := List.getElem_of_mem hx
    have key : ∀ n j (hj : j < l.length), j ≤ n → l[j] = x → ∃ a, (a < l.length ∧ Lib.keeps l.toArray a = true) ∧ l.toArray[a]! = x := by
      intro n
      induction n with
      | zero =>
        intro j hj hjn e
        obtain rfl : j = 0 := by omega
        exact ⟨0, ⟨hj, by simp [Lib.keeps]⟩, by rw [getElem!_pos _ 0 (by simpa using hj)]; simpa using e⟩
      | succ n ih =>
        intro j hj hjn e
        cases hk : Lib.keeps l.toArray j
        · cases j with
          | zero => simp [Lib.keeps] at hk
          | succ j =>
            have hk2 : l[j + 1] = l[j] := by
              simp only [Lib.keeps, Nat.add_sub_cancel] at hk
              rw [getElem!_pos _ (j + 1) (by simpa using hj), getElem!_pos _ j (by simp; omega)] at hk
              simpa using hk
            exact ih j (by omega) (by omega) (by rw [← hk2]; exact e)
        · exact ⟨j, ⟨hj, hk⟩, by rw [getElem!_pos _ j (by simpa using hj)]; simpa using e⟩
    exact key j j hj (Nat.le_refl _) e
theorem mem_sortS (l : List Str) (x : Str) : x ∈ sortS l ↔ x ∈ l := by
  unfold sortS
  rw [mem_compact]
  exact List.mem_mergeSort
theorem sortS_nil {l : List Str} : sortS l = [] ↔ l = [] := by
  constructor
  · intro h
    cases l with
    | nil => rfl
    | cons a r =>
      have := (mem_sortS (a :: r) a).2 (by simp)
      rw [h] at this; cases this
  · rintro rfl; simp [sortS, Lib.compact, Lib.compactUpTo]
theorem sortS_le (l : List Str) : (sortS l).length ≤ l.length := by
  have := compact_le (l.mergeSort leS)
  simpa [sortS] using this

theorem sorted_query_calls (w : World) (A : Option Addr) (c : Nat) (l : List Str) (h : Strs w w.heap.size A l) (hn : l.length ≤ 1048576) :
    Calls Tryz.prog 85 #[.slice A l.length c] w fun e w' => (∃ A c, e = .returned (.slice A (sortS l).length c) ∧ Strs w' w'.heap.size A (sortS l) ∧ From w.heap.size A (sortS l)) ∧ Below w.heap.size w w' := by
  have hb0 : Below w.heap.size w (w.alloc (.cells #[.slice A l.length c] 42)) := (Below.refl w.heap.size w).alloc (Nat.le_refl _) _
  have H := Lib.hid (sorted_values_calls (w.alloc (.cells #[.slice A l.length c] 42)) A c l hn w.heap.size (by simp) ((Blk.new w _ _).cell 0) ((h.same (same_below hb0)).more hb0.size))
  have HL := Lib.hid (List.length_mergeSort (le := leS) l)
  go_enter Tryz.func85, Tryz.ntmps85
  go_wp2_with fail
  refine (values_calls w A l.length c).mono ?_
  rintro e w1 ⟨rfl, rfl⟩
  go_wp2_with fail
  refine H.out.mono ?_
  rintro e w2 ⟨⟨v, rfl, hown⟩, hb2⟩
  obtain ⟨A2, c2, rfl⟩ := own_slice hown
  have hbz := hb0.trans (hb2.mono hb0.size)
  go_wp2_with fail
  rw [← HL.out] at hown ⊢
  refine (compact_str_calls w2 _ A2 c2 (l.mergeSort leS) hown (by rw [HL.out]; exact hn)).mono ?_
  rintro e w3 ⟨⟨v, rfl, A3, c3, rfl, hs, hfr⟩, hb3⟩
  go_wp2
  go_ret
  exact ⟨⟨A3, c3, rfl, hs, fun hl a ha => Nat.le_trans (by simp) (hfr hl a ha)⟩, hbz.trans (hb3.mono (by simp))⟩
end Go.Proofs.YtdonhmdeijidkaaGreat
