/-
  Walks: query.Match, event.Has; qcode.MayDef.
-/
import Derived.Test.YtdonhmdeijidkaaGreatQueA
namespace Go.Proofs.YtdonhmdeijidkaaGreat
open Go.RowKit

/-- Is a clause true of an event? -/
def clauseB (e : Ev) (c : Cl) : Bool := !(c.tags.any fun s => !(e.tags.any (· == s))) && (decide (c.types.length = 0) || c.types.any (· == e.typ))
def matchB (q : List Cl) (e : Ev) : Bool := q.any (clauseB e)
abbrev cEv (tA : Option Addr) (tc : Nat) (fA : Option Addr) (fc : Nat) (e : Ev) : Array Value := #[vS e.stream, vS e.typ, .slice tA e.tags.length tc, .slice fA e.flds.length fc]

theorem has_event_calls (w : World) (e0 : Ev) (tA fA : Option Addr) (tc fc : Nat) (s : Str) (hT : Strs w w.heap.size tA e0.tags) (hn : e0.tags.length ≤ 1048576) :
    Calls Tryz.prog 94 #[.agg (cEv tA tc fA fc e0), vS s] w fun e w' => e = .returned (.bool (e0.tags.any (· == s))) ∧ Below w.heap.size w w' := by
  obtain ⟨es, et, tags, flds⟩ := e0
  simp only at hT hn ⊢
  have hb0 : Below w.heap.size w (w.alloc (.cells (cEv tA tc fA fc ⟨es, et, tags, flds⟩) 45)) := (Below.refl w.heap.size w).alloc (Nat.le_refl _) _
  have H := Lib.hid (contains_str_calls (w.alloc (.cells (cEv tA tc fA fc ⟨es, et, tags, flds⟩) 45)) tA tc tags s ((hT.same (same_below hb0)).more hb0.size) hn)
  go_enter Tryz.func94, Tryz.ntmps94
  go_wp2_with fail
  refine H.out.mono ?_
  rintro e w1 ⟨rfl, rfl⟩
  go_wp2
  go_ret
  exact ⟨rfl, hb0⟩

theorem without_calls (w : World) (eb : Nat) (e0 : Ev) (tA fA : Option Addr) (tc fc : Nat) (s : Str) (hE : Blk w eb 45 (cEv tA tc fA fc e0)) (hT : Strs w w.heap.size tA e0.tags) (hn : e0.tags.length ≤ 1048576) :
    Calls Tryz.prog 93 #[vS s, .pointer (some ⟨eb, 0, none⟩)] w fun e w' => e = .returned (.bool (!(e0.tags.any (· == s)))) ∧ Below w.heap.size w w' := by
  have H := Lib.hid (has_event_calls w e0 tA fA tc fc s hT hn)
  obtain ⟨c0, c1, c2, c3⟩ := hE.four
  clear hE
  go_enter Tryz.func93, Tryz.ntmps93
  go_wp2_with fail
  refine H.out.mono ?_
  rintro e w1 ⟨rfl, hb1⟩
  go_wp2
  go_ret
  exact ⟨rfl, hb1⟩

theorem clause_calls (w : World) (eb : Nat) (e0 : Ev) (tA fA : Option Addr) (tc fc : Nat) (hE : Blk w eb 45 (cEv tA tc fA fc e0)) (hT : Strs w w.heap.size tA e0.tags) (hn : e0.tags.length ≤ 1048576)
    (c0 : Cl) (cA yA : Option Addr) (cc yc : Nat) (h1 : Strs w w.heap.size cA c0.tags) (h2 : Strs w w.heap.size yA c0.types) (hs : c0.Small) :
    Calls Tryz.prog 92 #[vCl cA cc yA yc c0, .pointer (some ⟨eb, 0, none⟩)] w fun e w' => e = .returned (.bool (clauseB e0 c0)) ∧ Below w.heap.size w w' := by
  obtain ⟨tags, types⟩ := c0
  obtain ⟨s1, s2⟩ := hs
  simp only at h1 h2 s1 s2
  have hb0 : Below w.heap.size w (w.alloc (.cells #[.slice cA tags.length cc, .slice yA types.length yc] 115)) := (Below.refl w.heap.size w).alloc (Nat.le_refl _) _
  have HB : Blk (w.alloc (.cells #[.slice cA tags.length cc, .slice yA types.length yc] 115)) w.heap.size 115 #[.slice cA tags.length cc, .slice yA types.length yc] := Blk.new w _ _
  have hp : PredS 93 #[.pointer (some ⟨eb, 0, none⟩)] (fun s => !(e0.tags.any (· == s))) tags (w.alloc (.cells #[.slice cA tags.length cc, .slice yA types.length yc] 115)) :=
    ⟨enters_of Tryz.func93 (by kernel_rfl) rfl, fun x hx W hW => without_calls W eb e0 tA fA tc fc x ((hE.kept hb0).kept hW) ((hT.same ((same_below hb0).trans (same_below (hW.mono hb0.size)))).more (Nat.le_trans hb0.size hW.size)) hn⟩
  have H1 := Lib.hid (containsfunc_str_calls (w.alloc (.cells #[.slice cA tags.length cc, .slice yA types.length yc] 115)) cA cc tags 93 #[.pointer (some ⟨eb, 0, none⟩)] (fun s => !(e0.tags.any (· == s))) ((h1.same (same_below hb0)).more hb0.size) s1.1 hp)
  have HE := Lib.hid hE
  have HT := Lib.hid hT
  clear hp hE hT
  unfold clauseB
  simp only
  generalize hg1 : (tags.any fun s => !(e0.tags.any (· == s))) = g1
  have G1 := Lib.hid hg1
  clear hg1
  go_enter Tryz.func92, Tryz.ntmps92
  go_wp2_with fail
  refine H1.out.mono ?_
  rintro e w1 ⟨rfl, hb1⟩
  rw [G1.out]
  have HB1 := HB.kept hb1
  have hbz := hb0.trans (hb1.mono hb0.size)
  obtain ⟨d0, d1⟩ := HB1.two
  cases g1
  · by_cases h0 : types = []
    · subst h0
      go_wp2
      go_ret
      exact ⟨ret_bool (by simp), hbz⟩
    · have hl : 0 < types.length := List.length_pos_iff.2 h0
      have hl2 : ((types.length : Int) == 0) = false := beq_eq_false_iff_ne.2 (by omega)
      clear h0
      obtain ⟨e1, e2, e3, e4⟩ := (HE.out.kept hbz).four
      have H2 := Lib.hid (contains_str_calls w1 yA yc types e0.typ ((h2.same (same_below hbz)).more hbz.size) s2.1)
      have HL := Lib.hid (show decide (types.length = 0) = false by simp; rintro rfl; simp at hl)
      go_wp2_with fail
      refine H2.out.mono ?_
      rintro e w2 ⟨rfl, rfl⟩
      go_wp2
      go_ret
      exact ⟨ret_bool (by rw [HL.out]; simp), hbz⟩
  · go_wp2
    go_ret
    exact ⟨ret_bool (by simp), hbz⟩

theorem match_calls (w : World) (A : Option Addr) (c : Nat) (q : List Cl) (e0 : Ev) (tA fA : Option Addr) (tc fc : Nat) (hq : Cls w w.heap.size A q) (hs : SmallQ q) (hT : Strs w w.heap.size tA e0.tags) (hn : e0.tags.length ≤ 1048576) :
    Calls Tryz.prog 52 #[.agg #[.slice A q.length c], .agg (cEv tA tc fA fc e0)] w fun e w' => e = .returned (.bool (matchB q e0)) ∧ Below w.heap.size w w' := by
  have hb0 : Below w.heap.size w (w.alloc (.cells #[.slice A q.length c] 24)) := (Below.refl w.heap.size w).alloc (Nat.le_refl _) _
  have hb1 := hb0.alloc (o := .cells (cEv tA tc fA fc e0) 45) hb0.size
  have HE : Blk ((w.alloc (.cells #[.slice A q.length c] 24)).alloc (.cells (cEv tA tc fA fc e0) 45)) (w.heap.size + 1) 45 (cEv tA tc fA fc e0) := by
    have := Blk.new (w.alloc (.cells #[.slice A q.length c] 24)) 45 (cEv tA tc fA fc e0)
    simpa using this
  have hT1 := (hT.same (same_below hb1)).more hb1.size
  have H := Lib.hid (some_calls ((w.alloc (.cells #[.slice A q.length c] 24)).alloc (.cells (cEv tA tc fA fc e0) 45)) A c q 92 #[.pointer (some ⟨w.heap.size + 1, 0, none⟩)] (clauseB e0) ((hq.same (same_below hb1)).more hb1.size) hs.1
    (fun w' hw' => ⟨enters_of Tryz.func92 (by kernel_rfl) rfl, fun x hx cA cc yA yc k1 k2 W hW => clause_calls W (w.heap.size + 1) e0 tA fA tc fc ((HE.kept hw').kept hW) ((hT1.same ((same_below hw').trans (same_below (hW.mono hw'.size)))).more (Nat.le_trans hw'.size hW.size)) hn x cA yA cc yc ((k1.same (same_below hW)).more hW.size) ((k2.same (same_below hW)).more hW.size) (hs.2 x hx)⟩))
  clear HE hT1 hT hq
  go_enter Tryz.func52, Tryz.ntmps52
  go_wp2_with fail
  refine H.out.mono ?_
  rintro e w1 ⟨rfl, hb2⟩
  go_wp2
  go_ret
  exact ⟨rfl, hb1.trans (hb2.mono hb1.size)⟩
end Go.Proofs.YtdonhmdeijidkaaGreat
