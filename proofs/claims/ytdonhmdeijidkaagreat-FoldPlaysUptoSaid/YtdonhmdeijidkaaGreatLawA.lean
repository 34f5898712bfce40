/-
  Walks: the laws' small helpers: all, number, few.
-/
import Derived.Test.YtdonhmdeijidkaaGreatFoldH
namespace Go.Proofs.YtdonhmdeijidkaaGreat
open Go.RowKit Go.Maps

theorem all_calls (w : World) : Calls Tryz.prog 42 #[] w fun e w' => (∃ A c, e = .returned (.agg #[.slice A 1 c]) ∧ Cls w' w'.heap.size A [⟨[], []⟩]) ∧ Below w.heap.size w w' := by
  go_enter Tryz.func42, Tryz.ntmps42
  go_wp2
  have hb : Below w.heap.size w ((w.alloc (.cells #[.slice (some ⟨w.heap.size + 1, 0, none⟩) 1 1] 24)).alloc (.cells #[.slice none 0 0, .slice none 0 0] 115)) := ((Below.refl w.heap.size w).alloc (Nat.le_refl _) _).alloc (by simp) _
  have h1 : Blk ((w.alloc (.cells #[.slice (some ⟨w.heap.size + 1, 0, none⟩) 1 1] 24)).alloc (.cells #[.slice none 0 0, .slice none 0 0] 115)) w.heap.size 24 #[.slice (some ⟨w.heap.size + 1, 0, none⟩) 1 1] :=
    (Blk.new w 24 #[.slice (some ⟨w.heap.size + 1, 0, none⟩) 1 1]).alloc _
  have h2 : Blk ((w.alloc (.cells #[.slice (some ⟨w.heap.size + 1, 0, none⟩) 1 1] 24)).alloc (.cells #[.slice none 0 0, .slice none 0 0] 115)) (w.heap.size + 1) 115 #[.slice none 0 0, .slice none 0 0] := by
    have := Blk.new (w.alloc (.cells #[.slice (some ⟨w.heap.size + 1, 0, none⟩) 1 1] 24)) 115 #[.slice none 0 0, .slice none 0 0]
    simpa using this
  have k1 := h1.one
  refine bodyPost_ret (v := .agg #[.slice (some ⟨w.heap.size + 1, 0, none⟩) 1 1]) (by simp [results, Tryz.results42, go_sem, k1]) rfl ?_
  refine ⟨⟨_, _, rfl, fun _ => ⟨w.heap.size + 1, 0, rfl, by simp, fun k x hx => ?_⟩⟩, hb⟩
  cases k with
  | zero =>
    simp at hx
    subst hx
    exact ⟨none, 0, none, 0, by rw [show 0 + 0 * 2 = 0 from rfl]; exact h2.two.1, by rw [show 0 + 0 * 2 + 1 = 1 from rfl]; exact h2.two.2, fun h => absurd rfl h, fun h => absurd rfl h⟩
  | succ k => simp at hx

/-- Where the two rows of an event lie. -/
abbrev RawE := (Option Addr × Nat) × (Option Addr × Nat)
def evCells (x : RawE × Ev) : List Value := [vS x.2.stream, vS x.2.typ, .slice x.1.1.1 x.2.tags.length x.1.1.2, .slice x.1.2.1 x.2.flds.length x.1.2.2]
theorem ev_cells : ∀ (l : List (RawE × Ev)) (k : Nat) (y : RawE × Ev), l[k]? = some y → (l.flatMap evCells)[k * 4]? = some (vS y.2.stream) ∧ (l.flatMap evCells)[k * 4 + 1]? = some (vS y.2.typ) ∧
    (l.flatMap evCells)[k * 4 + 2]? = some (.slice y.1.1.1 y.2.tags.length y.1.1.2) ∧ (l.flatMap evCells)[k * 4 + 3]? = some (.slice y.1.2.1 y.2.flds.length y.1.2.2) := by
  intro l
  induction l with
  | nil => intro k y h; simp at h
  | cons z r ih =>
    intro k y h
    cases k with
    | zero => simp at h; subst h; simp [evCells]
    | succ k =>
      have := ih k y (by simpa using h)
      have e1 : (k + 1) * 4 = k * 4 + 1 + 1 + 1 + 1 := by omega
      rw [e1]
      simpa [evCells] using this
theorem Evts.of_own {w0 w : World} {base : Nat} {T : TypeId} {A : Option Addr} {n c : Nat} {L : List (RawE × Ev)} (hn : n = L.length) (h : w.ownsRow base T 4 (.slice A n c) n (L.flatMap evCells)) (hB : Below w0.heap.size w0 w)
    (hx : ∀ x ∈ L, Strs w0 w0.heap.size x.1.1.1 x.2.tags ∧ Flds w0 w0.heap.size x.1.2.1 x.2.flds) : Evts w w.heap.size A (L.map (·.2)) := fun hl => by
  have hp : 0 < L.length := by have := List.length_pos_iff.2 hl; simpa using this
  obtain ⟨g, cap, hv, _, hlt⟩ := h.form (by omega)
  have hA : A = some ⟨g, 0, none⟩ := by injection hv
  subst hA
  refine ⟨g, 0, rfl, hlt, fun k x hk => ?_⟩
  rw [List.getElem?_map] at hk
  obtain ⟨y, hy, rfl⟩ := Option.map_eq_some_iff.1 hk
  obtain ⟨p1, p2⟩ := hx y (List.mem_of_getElem? hy)
  obtain ⟨q1, q2, q3, q4⟩ := ev_cells L k y hy
  have r1 := h.cells (g := g) rfl _ _ q1
  have r2 := h.cells (g := g) rfl _ _ q2
  have r3 := h.cells (g := g) rfl _ _ q3
  have r4 := h.cells (g := g) rfl _ _ q4
  rw [add_head] at r1 r2 r3 r4
  exact ⟨_, _, _, _, by rw [Nat.zero_add]; exact r1, by rw [Nat.zero_add]; exact r2, by rw [Nat.zero_add]; exact r3, by rw [Nat.zero_add]; exact r4, (p1.same (same_below hB)).more hB.size, (p2.same (same_below hB)).more hB.size⟩
theorem info_ev : (Tryz.prog.info? 45).map (fun i => (i.zero, i.size, i.bytes)) = some (some (.agg #[.string .empty, .string .empty, .slice none 0 0, .slice none 0 0]), 4, 80) := by kernel_rfl

def mayE (e : Ev) : Bool := evMay e == 0
/-- At most 40, those that may be. -/
def fewE (l : List Ev) : List Ev := (l.take 40).filter mayE
theorem filter_succ {l : List Ev} {k : Nat} {x : Ev} (hx : l[k]? = some x) : (l.take (k + 1)).filter mayE = (l.take k).filter mayE ++ (if mayE x then [x] else []) := by
  rw [List.take_add_one, hx]
  simp [List.filter_append, List.filter_cons]

set_option maxRecDepth 100000 in
set_option maxHeartbeats 2000000 in
theorem few_calls (w : World) (A : Option Addr) (c : Nat) (l : List Ev) (h : Evts w w.heap.size A l) (hn : l.length ≤ 1048576) (hs : ∀ e ∈ l, e.Small) :
    Calls Tryz.prog 16 #[.slice A l.length c] w fun e w' => (∃ A c, e = .returned (.slice A (fewE l).length c) ∧ Evts w' w'.heap.size A (fewE l)) ∧ Below w.heap.size w w' := by
  obtain ⟨i0, hi, hz0, hz1, hz2⟩ := info_parts info_ev
  have hbw0 : Below w.heap.size w (w.alloc (.cells #[] 45)) := (Below.refl w.heap.size w).alloc (Nat.le_refl _) _
  have hown0 := World.ownsRow_made (base := w.heap.size) (e := 45) (size := 4) w #[] 0 (Nat.le_refl _) (by simp [maxLen]) rfl
  go_enter Tryz.func16, Tryz.ntmps16
  go_wp2_with fail
  go_loopw [3, 4] (fun v i wr => (∃ m : Nat, m ≤ l.length ∧ m ≤ 40 ∧ i = .int .i64 m ∧ ∃ L : List (RawE × Ev), wr.ownsRow w.heap.size 45 4 v L.length (L.flatMap evCells) ∧ (∀ x ∈ L, Strs w w.heap.size x.1.1.1 x.2.tags ∧ Flds w w.heap.size x.1.2.1 x.2.flds) ∧ L.map (·.2) = (l.take m).filter mayE) ∧ Below w.heap.size w wr) (fun _ i _ => l.length - (intOf i).toNat)
  case atStart => exact ⟨⟨0, Nat.zero_le _, by omega, rfl, [], hown0, by simp, rfl⟩, hbw0⟩
  case round =>
    obtain ⟨⟨m, hm, hm40, rfl, L, hown, hL, hLm⟩, hbr⟩ := hrel
    have hLl : L.length ≤ 40 := by
      have e1 := congrArg List.length hLm
      rw [List.length_map] at e1
      have e2 := List.length_filter_le mayE (l.take m)
      rw [List.length_take] at e2
      omega
    have HL := Lib.hid hL
    have HLm := Lib.hid hLm
    clear hL hLm
    by_cases hlt : m < l.length
    · by_cases h40 : m < 40
      · obtain ⟨b, off, rfl, hbb, hc⟩ := h (ne_nil_of hlt)
        obtain ⟨x, hx⟩ := at_some hlt
        obtain ⟨tA, tc, fA, fc, q1, q2, q3, q4, q5, q6⟩ := hc m x hx
        have hxs := hs x (List.mem_of_getElem? hx)
        have h1 := (hbr.cell (p := ⟨b, off + m * 4, none⟩) hbb).trans q1
        have h2 := (hbr.cell (p := ⟨b, off + m * 4 + 1, none⟩) hbb).trans q2
        have h3 := (hbr.cell (p := ⟨b, off + m * 4 + 2, none⟩) hbb).trans q3
        have h4 := (hbr.cell (p := ⟨b, off + m * 4 + 3, none⟩) hbb).trans q4
        have HMAY := Lib.hid (may04_calls wr x tA fA tc fc ((q5.same (same_below hbr)).more hbr.size) ((q6.same (same_below hbr)).more hbr.size) hxs)
        have HX := Lib.hid hx
        have Q1 := Lib.hid q1
        have Q2 := Lib.hid q2
        have Q3 := Lib.hid q3
        have Q4 := Lib.hid q4
        have Q5 := Lib.hid q5
        have Q6 := Lib.hid q6
        have HBR := Lib.hid hbr
        have hvb : ∀ g, u3.ownBlock = some g → w.heap.size ≤ g ∧ g < wr.heap.size := fun g e => hown.lt g e
        have HOWN := Lib.hid hown
        clear hc hx q1 q2 q3 q4 q5 q6 hxs h hs hown
        go_wp2_with fail
        refine HMAY.out.mono ?_
        rintro e w1 ⟨rfl, hb1⟩
        have hbr1 := HBR.out.trans (hb1.mono HBR.out.size)
        have h1 := (hbr1.cell (p := ⟨b, off + m * 4, none⟩) hbb).trans Q1.out
        have h2 := (hbr1.cell (p := ⟨b, off + m * 4 + 1, none⟩) hbb).trans Q2.out
        have h3 := (hbr1.cell (p := ⟨b, off + m * 4 + 2, none⟩) hbb).trans Q3.out
        have h4 := (hbr1.cell (p := ⟨b, off + m * 4 + 3, none⟩) hbb).trans Q4.out
        have hown1 := own_below HOWN.out hb1
        generalize hev : evMay x = ex
        have HEV := Lib.hid hev
        have z1 := hb1.size
        have HB1 := Lib.hid hb1
        clear hev hb1
        by_cases he : ex = 0
        · have hz : ((ex : Int) == 0) = true := beq_iff_eq.2 he
          have HE := Lib.hid he
          clear he
          go_wp2_with (at_builtin; refine wpList_append_own _ rfl _ _ 28 rfl w.heap.size 45 i0 _ 4 80 Tryz.underlying28 hi hz0 hz1 hz2 rfl (by decide) _ _ _ rfl (hown1.alloc _) ⟨w1.heap.size, 0, none⟩ 1 1 [vS x.stream, vS x.typ, .slice tA x.tags.length tc, .slice fA x.flds.length fc] rfl rfl (World.news_of_block (cs := #[vS x.stream, vS x.typ, .slice tA x.tags.length tc, .slice fA x.flds.length fc]) (t := 45) (fr := (0, 0)) (heap_alloc_new w1 _)) (by simp [Value.oneCell']) (by unfold maxLen; omega) (by omega) (by have := hbr1.size; simp; omega) ?_; intro v' w4 hown4 hgrow4 hnil; clear hnil; have hbr4 := (hbr1.alloc hbr1.size _).grown hgrow4 (by have := hbr1.size; simp; omega) (fun g e => (hvb g e).1))
          go_roundw
          case rel =>
            refine ⟨⟨m + 1, by omega, by omega, by go_num, L ++ [(((tA, tc), (fA, fc)), x)], ?_, ?_, ?_⟩, hbr4⟩
            · simpa [evCells] using hown4
            · intro y hy
              rcases List.mem_append.1 hy with hy | hy
              · exact HL.out y hy
              · simp at hy; subst hy; exact ⟨Q5.out, Q6.out⟩
            · rw [List.map_append, HLm.out, filter_succ HX.out, if_pos (by simp [mayE, HEV.out, HE.out])]; rfl
          case measure => simp [intOf]; omega
        · have hz : ((ex : Int) == 0) = false := beq_eq_false_iff_ne.2 he
          have HE := Lib.hid he
          clear he
          go_wp2
          go_roundw
          case rel =>
            refine ⟨⟨m + 1, by omega, by omega, by go_num, L, hown1, HL.out, ?_⟩, hbr1⟩
            rw [HLm.out, filter_succ HX.out, if_neg (by simp [mayE, HEV.out, HE.out])]; simp
          case measure => simp [intOf]; omega
      · obtain rfl : m = 40 := by omega
        obtain ⟨A3, cc3, rfl⟩ := own_slice hown
        have HH := Lib.hid (Evts.of_own rfl hown hbr HL.out)
        have HLE : L.length = (fewE l).length := by have := congrArg List.length HLm.out; simpa [fewE] using this
        have HLE := Lib.hid HLE
        clear h hs hown
        go_wp2
        go_ret
        exact ⟨⟨A3, cc3, by first | rfl | (rw [HLE.out]; rfl), by have := HH.out; rw [HLm.out] at this; exact this⟩, hbr⟩
    · obtain rfl : m = l.length := by omega
      obtain ⟨A3, cc3, rfl⟩ := own_slice hown
      have HH := Lib.hid (Evts.of_own rfl hown hbr HL.out)
      have hfe : (l.take l.length).filter mayE = fewE l := by unfold fewE; rw [List.take_length, List.take_of_length_le hm40]
      have HFE := Lib.hid hfe
      have HLE : L.length = (fewE l).length := by have := congrArg List.length HLm.out; rw [HFE.out, List.length_map] at this; exact this
      have HLE := Lib.hid HLE
      clear h hs hown hfe
      go_wp2
      go_ret
      exact ⟨⟨A3, cc3, by first | rfl | (rw [HLE.out]; rfl), by have := HH.out; rw [HLm.out, HFE.out] at this; exact this⟩, hbr⟩
end Go.Proofs.YtdonhmdeijidkaaGreat
