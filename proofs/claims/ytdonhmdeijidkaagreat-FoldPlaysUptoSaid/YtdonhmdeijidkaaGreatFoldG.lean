/-
  Walks: (*State).Entries.
-/
import Derived.Test.YtdonhmdeijidkaaGreatFoldF
namespace Go.Proofs.YtdonhmdeijidkaaGreat
open Go.RowKit Go.Maps Go.Sort Go.Shelf

theorem less_lt : ∀ {a b : Str}, Op.bytesLess a b = true → a < b
  | [], [], h => by simp [Op.bytesLess] at h
  | [], _ :: _, _ => List.nil_lt_cons _ _
  | _ :: _, [], h => by simp [Op.bytesLess] at h
  | a :: x, b :: y, h => by
    simp only [Op.bytesLess, Bool.or_eq_true, decide_eq_true_eq, Bool.and_eq_true, beq_iff_eq] at h
    rw [List.cons_lt_cons_iff]
    rcases h with h | ⟨h1, h2⟩
    · exact .inl h
    · exact .inr ⟨h1, less_lt h2⟩
theorem strKeys_toD (E : Ents) : strKeys (toD E) = E.map (·.1) := by
  show (E.map dE).map (fun p => strOf p.1) = E.map (·.1)
  rw [List.map_map]
  rfl
theorem sort_keys {E : Ents} (hE : Rising E) {ss : List Str} (h : ss.Perm (strKeys (toD E))) : ss.mergeSort (fun x y => decide (x ≤ y)) = E.map (·.1) := by
  rw [strKeys_toD] at h
  have e1 := mergeSort_of_perm h
  show ss.mergeSort leB = _
  rw [e1]
  refine List.mergeSort_of_pairwise ?_
  rw [List.pairwise_map]
  refine hE.imp fun {x y} hxy => ?_
  simp only [leB, decide_eq_true_eq]
  exact List.le_of_lt (less_lt hxy)

theorem key_sorts (m : Nat) : AnyZ.SortsIn Tryz.prog laySorted_ren Fence.wide m :=
  ⟨fun blk off cap ss W hH hblk hsz => callsIn_wide.2 (AnyM.slices_Sort_string laySort blk off cap ss W hH hblk hsz),
   fun p cap W => callsIn_wide.2 (AnyM.slices_Sort_string_none laySort p cap W)⟩
theorem maps_keys_calls (mb : Option Nat) (W : World) : Calls Tryz.prog 58 #[.map mb] W fun e w' => e = .returned (.func (.func 100) #[] #[.pointer (some ⟨W.heap.size, 0, none⟩)]) ∧ w' = W.alloc (.cells #[.map mb] 98) :=
  (callsIn_wide (n := 5)).1 (AnyZ.keys_in layKeys Fence.wide 5 trivial rfl mb W)

set_option maxHeartbeats 1000000 in
theorem sorted_keys_calls (mb : Nat) (E : Ents) (w : World) (hM : MapIs w mb E) (hn : E.length ≤ 1048576) :
    Calls Tryz.prog 57 #[.func (.func 100) #[] #[.pointer (some ⟨w.heap.size, 0, none⟩)]] (w.alloc (.cells #[.map (some mb)] 98)) fun e w' =>
      (∃ v, e = .returned v ∧ w'.ownsRow (w.heap.size + 1) 9 1 v E.length ((E.map (·.1)).map vS)) ∧ Below (w.heap.size + 1) (w.alloc (.cells #[.map (some mb)] 98)) w' := by
  have hown := hM.1
  have hbl := hown.lt
  have hsz : Maps.size (toD E) = E.length := by simp [toD, Maps.size]
  have hseq : SeqGives Fence.wide 2 Tryz.prog 100 #[.pointer (some ⟨w.heap.size, 0, none⟩)] encStr (fun ss => ss.Perm (strKeys (toD E))) (Maps.size (toD E)) (w.alloc (.cells #[.map (some mb)] 98)) :=
    AnyZ.keys_gives (ρ := layKeys_ren) { layKeys with } Fence.wide _ trivial rfl (by omega) w.heap.size mb E.length (toD E) _ (by simp) (by simp) (by
      obtain ⟨es, clock, hb, Ft, hs, hD⟩ := hown
      exact ⟨es, clock, (Below.heap_alloc _ _ mb hbl).trans hb, Ft, hs, hD⟩)
  have key := AnyZ.sorted_in laySorted Fence.wide 5 trivial trivial trivial trivial rfl (by omega) (key_sorts _) (enters_of Tryz.func99 (by kernel_rfl) rfl) 100 #[.pointer (some ⟨w.heap.size, 0, none⟩)] trivial (enters_of Tryz.func100 (by kernel_rfl) rfl) _ _ (by rw [hsz]; unfold maxLen; omega) (by rw [hsz]; omega) _ hseq
  refine ((callsIn_wide (n := 5)).1 key).mono ?_
  rintro e w' ⟨v, ss, rfl, hp, hrow, hnil, hb⟩
  have e1 := sort_keys hM.2.1 hp
  have e2 : ss.length = E.length := by rw [hp.length_eq, strKeys_toD]; simp
  rw [e1, e2] at hrow
  refine ⟨⟨v, rfl, ?_⟩, ?_⟩
  · have e3 : (w.alloc (.cells #[.map (some mb)] 98)).heap.size = w.heap.size + 1 := by simp
    rw [e3] at hrow
    exact hrow
  · simpa using hb

theorem info_ent : (Tryz.prog.info? 92).map (fun i => (i.zero, i.size, i.bytes)) = some (some (.agg #[.string .empty, .int .i64 0]), 2, 24) := by kernel_rfl
def entCells (x : Str × Int) : List Value := [vS x.1, .int .i64 x.2]
theorem ent_cells : ∀ (l : Ents) (k : Nat) (y : Str × Int), l[k]? = some y → (l.flatMap entCells)[k * 2]? = some (vS y.1) ∧ (l.flatMap entCells)[k * 2 + 1]? = some (.int .i64 y.2) := by
  intro l
  induction l with
  | nil => intro k y h; simp at h
  | cons z r ih =>
    intro k y h
    cases k with
    | zero => simp at h; subst h; simp [entCells]
    | succ k =>
      have := ih k y (by simpa using h)
      have e1 : (k + 1) * 2 = k * 2 + 1 + 1 := by omega
      rw [e1]
      simpa [entCells] using this
theorem Flds.of_own {w : World} {base : Nat} {T : TypeId} {A : Option Addr} {n c : Nat} {l : Ents} (hn : n = l.length) (h : w.ownsRow base T 2 (.slice A n c) n (l.flatMap entCells)) : Flds w w.heap.size A l := fun hl => by
  have hp := List.length_pos_iff.2 hl
  obtain ⟨g, cap, hv, _, hlt⟩ := h.form (by omega)
  have hA : A = some ⟨g, 0, none⟩ := by injection hv
  subst hA
  refine ⟨g, 0, rfl, hlt, fun k x hx => ?_⟩
  obtain ⟨q1, q2⟩ := ent_cells l k x hx
  have r1 := h.cells (g := g) rfl _ _ q1
  have r2 := h.cells (g := g) rfl _ _ q2
  rw [add_head] at r1 r2
  exact ⟨by rw [Nat.zero_add]; exact r1, by rw [Nat.zero_add]; exact r2⟩
theorem take_ents {l : Ents} {k : Nat} {x : Str × Int} (hx : l[k]? = some x) : (l.take k).flatMap entCells ++ [vS x.1, .int .i64 x.2] = (l.take (k + 1)).flatMap entCells := by
  rw [List.take_add_one, hx]; simp [entCells]

set_option maxRecDepth 100000 in
set_option maxHeartbeats 2000000 in
theorem entries_calls (w : World) (sb mb : Nat) (k : Int) (f : Str) (q : List Cl) (E : Ents) (hS : St w sb mb k f q E) (hn : E.length ≤ 1048576) (hl : ∀ x ∈ E, x.1.length ≤ 4194304) :
    Calls Tryz.prog 21 #[.pointer (some ⟨sb, 0, none⟩)] w fun e w' => (∃ A c, e = .returned (.slice A E.length c) ∧ Flds w' w'.heap.size A E) ∧ Below w.heap.size w w' := by
  obtain ⟨⟨A, c, hB, -⟩, hM⟩ := hS
  obtain ⟨i0, hi, hz0, hz1, hz2⟩ := info_parts info_ent
  have HK := Lib.hid (sorted_keys_calls mb E w hM hn)
  have HB := Lib.hid hB
  have HM := Lib.hid hM
  have HL := Lib.hid hl
  obtain ⟨c0, c1, c2⟩ := hB.three
  clear hB hM c0 c1 hl
  go_enter Tryz.func21, Tryz.ntmps21
  go_wp2_with fail
  refine (maps_keys_calls (some mb) w).mono ?_
  rintro e w1 ⟨rfl, rfl⟩
  go_wp2_with fail
  refine HK.out.mono ?_
  rintro e w2 ⟨⟨v, rfl, hown⟩, hb2⟩
  have hbw : Below w.heap.size w w2 := ((Below.refl w.heap.size w).alloc (Nat.le_refl _) _).trans (hb2.mono (by omega))
  obtain ⟨A2, cc2, rfl⟩ := own_slice hown
  have hst : Strs w2 w2.heap.size A2 (E.map (·.1)) := Strs.of_own hown
  have HST := Lib.hid hst
  have HBW := Lib.hid hbw
  clear hown hst hbw c2 hb2
  go_wp2_with fail
  go_loopw [3, 5, 13] (fun l _ i wr => (∃ m : Nat, m ≤ E.length ∧ i = .int .i64 m ∧ wr.ownsRow w2.heap.size 92 2 l m ((E.take m).flatMap entCells)) ∧ Below w2.heap.size w2 wr) (fun _ _ i _ => E.length - (intOf i).toNat)
  case atStart => exact ⟨⟨0, Nat.zero_le _, rfl, World.ownsRow_nil _ _ _ _⟩, Below.refl _ _⟩
  case round =>
    rename Value => lv
    obtain ⟨⟨m, hm, rfl, hown⟩, hbr⟩ := hrel
    by_cases hlt : m < E.length
    · obtain ⟨x, hx⟩ := at_some hlt
      have hkx : (E.map (·.1))[m]? = some x.1 := by rw [List.getElem?_map, hx]; rfl
      obtain ⟨b, off, rfl, hbb, hc⟩ := HST.out (ne_nil_of (k := m) (by simpa using hlt))
      have h1 := (hbr.cell (p := ⟨b, off + m, none⟩) hbb).trans (hc m x.1 hkx)
      have hbwr := HBW.out.trans (hbr.mono HBW.out.size)
      have c2 := (HB.out.kept hbwr).three.2.2
      have hxl := HL.out x (List.mem_of_getElem? hx)
      have hlk := (HM.out.below hbwr).look (k := x.1) (by unfold maxLen; omega)
      have hgx : getE E x.1 = x.2 := by unfold getE; rw [HM.out.2.1.get_mem (List.mem_of_getElem? hx)]; rfl
      rw [hgx] at hlk
      have HX := Lib.hid hx
      have hvb : ∀ g, Value.ownBlock _ = some g → w2.heap.size ≤ g ∧ g < wr.heap.size := fun g e => hown.lt g e
      clear hc hkx hx hbwr hgx
      go_wp2_with (at_builtin; refine wpList_append_own _ rfl _ _ 27 rfl w2.heap.size 92 i0 _ 2 24 Tryz.underlying27 hi hz0 hz1 hz2 rfl (by decide) _ _ _ rfl (hown.alloc _) ⟨wr.heap.size, 0, none⟩ 1 1 [vS x.1, .int .i64 x.2] rfl rfl (World.news_of_block (cs := #[vS x.1, .int .i64 x.2]) (t := 92) (fr := (0, 0)) (heap_alloc_new wr _)) (by simp [Value.oneCell']) (by unfold maxLen; omega) (by omega) (by have := hbr.size; simp; omega) ?_; intro v' w4 hown4 hgrow4 hnil; clear hnil; have hbr4 := (hbr.alloc hbr.size _).grown hgrow4 (by have := hbr.size; simp; omega) (fun g e => (hvb g e).1))
      go_roundw
      case rel => exact ⟨⟨m + 1, by omega, by go_num, by rw [← take_ents HX.out]; exact hown4⟩, hbr4⟩
      case measure => simp [intOf]; omega
    · obtain rfl : m = E.length := by omega
      rw [List.take_length] at hown
      obtain ⟨A3, cc3, rfl⟩ := own_slice hown
      go_wp2
      go_ret
      exact ⟨⟨A3, cc3, rfl, Flds.of_own rfl hown⟩, HBW.out.trans (hbr.mono HBW.out.size)⟩
end Go.Proofs.YtdonhmdeijidkaaGreat
