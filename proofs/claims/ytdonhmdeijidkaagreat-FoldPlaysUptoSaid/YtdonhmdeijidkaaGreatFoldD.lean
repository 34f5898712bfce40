/-
  Walks: members.step; (*State).Step.
-/
import Derived.Test.YtdonhmdeijidkaaGreatFoldC
namespace Go.Proofs.YtdonhmdeijidkaaGreat
open Go.RowKit Go.Maps

theorem length_setE (b : Bool) (E : Ents) (k : Str) (n : Int) : (setE b E k n).length ≤ E.length + 1 := by
  unfold setE
  split
  · have := length_delE E k; omega
  · exact length_putE E k n
theorem mem_setE {b : Bool} {E : Ents} {k : Str} {n : Int} {x : Str × Int} (h : x ∈ setE b E k n) : x = (k, n) ∨ x ∈ E := by
  unfold setE at h
  split at h
  · exact .inr (List.mem_filter.1 h).1
  · exact mem_putE h
/-- Entries in the middle of a step. -/
def Okay2 (E : Ents) (n j : Nat) : Prop := E.length ≤ 6 * n + j ∧ ∀ x ∈ E, -(2199023255552 * (n : Int)) - j ≤ x.2 ∧ x.2 ≤ 2199023255552 * (n : Int) + j
theorem Okay2.get {E : Ents} {n j : Nat} (h : Okay2 E n j) (k : Str) : -(2199023255552 * (n : Int)) - j ≤ getE E k ∧ getE E k ≤ 2199023255552 * (n : Int) + j := by
  unfold getE fieldOf
  cases hf : E.find? (fun x => x.1 == k) with
  | none => simp; omega
  | some x => exact h.2 x (List.mem_of_find?_eq_some hf)
theorem Okay2.member {E : Ents} {n j : Nat} (h : Okay2 E n j) (s t : Str) : Okay2 (memberE s E t) n (j + 1) := by
  have hg := h.get (t ++ [32] ++ s)
  refine ⟨?_, fun x hx => ?_⟩
  · have := length_setE false E (t ++ [32] ++ s) (getE E (t ++ [32] ++ s) + 1)
    have := h.1
    unfold memberE
    omega
  · rcases mem_setE hx with rfl | hx
    · simp only; omega
    · have := h.2 x hx; omega
theorem Okay2.members {E : Ents} {n j : Nat} (h : Okay2 E n j) (s : Str) (l : List Str) : Okay2 (l.foldl (memberE s) E) n (j + l.length) := by
  induction l generalizing E j with
  | nil => exact h
  | cons t r ih =>
    have := ih (h.member s t)
    simp only [List.foldl_cons, List.length_cons]
    rw [show j + (r.length + 1) = j + 1 + r.length by omega]
    exact this
theorem Okay.two {E : Ents} {n : Nat} (h : Okay E n) : Okay2 E n 0 := ⟨by have := h.1; omega, fun x hx => by have := h.2 x hx; omega⟩
theorem Okay2.one {E : Ents} {n j : Nat} (h : Okay2 E n j) (hj : j ≤ 6) : Okay E (n + 1) := ⟨by have := h.1; omega, fun x hx => by have := h.2 x hx; omega⟩
theorem Okay.set {b : Bool} {E : Ents} {n : Nat} {k : Str} {v : Int} (h : Okay E n) (h1 : -(2199023255552 * ((n : Int) + 1)) ≤ v) (h2 : v ≤ 2199023255552 * ((n : Int) + 1)) : Okay (setE b E k v) (n + 1) := by
  refine ⟨?_, fun x hx => ?_⟩
  · have := length_setE b E k v
    have := h.1
    omega
  · rcases mem_setE hx with rfl | hx
    · simp only; omega
    · have := h.2 x hx; omega
theorem Okay.more {E : Ents} {n : Nat} (h : Okay E n) : Okay E (n + 1) := ⟨by have := h.1; omega, fun x hx => by have := h.2 x hx; omega⟩

theorem take_fold {α β : Type} {g : β → α → β} {b : β} {l : List α} {k : Nat} {x : α} (hx : l[k]? = some x) : (l.take (k + 1)).foldl g b = g ((l.take k).foldl g b) x := by
  rw [List.take_add_one, hx]; simp

set_option maxRecDepth 100000 in
set_option maxHeartbeats 1000000 in
theorem members_step (w : World) (sb mb : Nat) (k : Int) (f2 : Str) (u : Value) (E : Ents) (n : Nat) (e0 : Ev) (tA fA : Option Addr) (fn tc fc : Nat) (hS : Blk w sb 100 #[kindK k f2, u, .map (some mb)]) (hM : MapIs w mb E) (hO : Okay E n) (hn : n ≤ 10000) (hk : k ≠ 3)
    (hT : Strs w w.heap.size tA e0.tags) (hE : e0.Good) :
    Calls Tryz.prog 195 #[.agg #[], .pointer (some ⟨sb, 0, none⟩), .agg #[vS e0.stream, vS e0.typ, .slice tA e0.tags.length tc, .slice fA fn fc]] w fun e w' => e = .returned (.int .i64 0) ∧ MapIs w' mb (membersE E e0) ∧ w.grownBy w' (some mb) := by
  obtain ⟨w1, hw1⟩ : ∃ x, x = (w.alloc (.cells #[] 151)).alloc (.cells #[vS e0.stream, vS e0.typ, .slice tA e0.tags.length tc, .slice fA fn fc] 45) := ⟨_, rfl⟩
  have hb : Below w.heap.size w w1 := hw1 ▸ ((Below.refl w.heap.size w).alloc (Nat.le_refl _) _).alloc (by simp) _
  have hBk : Blk w1 (w.heap.size + 1) 45 #[vS e0.stream, vS e0.typ, .slice tA e0.tags.length tc, .slice fA fn fc] := by
    have := Blk.new (w.alloc (.cells #[] 151)) 45 #[vS e0.stream, vS e0.typ, .slice tA e0.tags.length tc, .slice fA fn fc]
    rw [hw1]; simpa using this
  have hS1 : Blk w1 sb 100 #[kindK k f2, u, .map (some mb)] := hS.kept hb
  have hM1 : MapIs w1 mb E := hM.below hb
  have hT1 : Strs w1 w1.heap.size tA e0.tags := (hT.same (same_below hb)).more hb.size
  obtain ⟨hst, htn, htl, -, -⟩ := hE
  have HS := Lib.hid hS1
  have HM := Lib.hid hM1
  have HO := Lib.hid hO
  have HT := Lib.hid hT1
  have HB := Lib.hid hb
  have HBk := Lib.hid hBk
  have HTL := Lib.hid htl
  clear hS hM hS1 hM1 hO hT hT1 hb hBk htl
  go_enter Tryz.func195, Tryz.ntmps195
  go_wp2_with fail
  rw [← hw1]
  clear hw1
  go_loopw [8, 9, 13] (fun _ _ i wr => (∃ m : Nat, m ≤ e0.tags.length ∧ i = .int .i64 m ∧ MapIs wr mb ((e0.tags.take m).foldl (memberE e0.stream) E)) ∧ w1.grownBy wr (some mb)) (fun _ _ i _ => e0.tags.length - (intOf i).toNat)
  case atStart => exact ⟨⟨0, Nat.zero_le _, rfl, HM.out⟩, World.grownBy.refl _ _⟩
  case round =>
    obtain ⟨⟨m, hm, rfl, hmap⟩, hgr⟩ := hrel
    by_cases hlt : m < e0.tags.length
    · obtain ⟨x, hx⟩ := at_some hlt
      have hsm := same_turn hgr HM.out hmap
      obtain ⟨b, off, rfl, hbb, hc⟩ := (HT.out.same hsm) (ne_nil_of hlt)
      have h1 := hc m x hx
      have HX := Lib.hid hx
      have hxl := HTL.out x (List.mem_of_getElem? hx)
      obtain ⟨b0, b1, b2, b3⟩ := (HBk.out.turn HM.out hgr).four
      have hSr := HS.out.turn HM.out hgr
      obtain ⟨c0, c1, c2⟩ := hSr.three
      have hok := HO.out.two.members e0.stream (e0.tags.take m)
      have hlen : (e0.tags.take m).length ≤ 6 := by simp; omega
      generalize hEm : (e0.tags.take m).foldl (memberE e0.stream) E = Em at hmap hok
      have hkl : (x ++ [32] ++ e0.stream).length ≤ maxLen := by simp [maxLen]; omega
      have hcat : (⟨x.toArray⟩ ++ ⟨#[32]⟩ ++ ⟨e0.stream.toArray⟩ : ByteArray) = ⟨(x ++ [32] ++ e0.stream).toArray⟩ := by apply ByteArray.ext; simp
      generalize hky : x ++ [32] ++ e0.stream = key at hkl hcat
      have hget := hok.get key
      have hlk := hmap.look hkl
      have hset := set_calls wr sb mb k f2 u Em key (getE Em key + 1) hSr hmap hkl (by have := hok.1; simp [maxLen]; omega) (wf_of (by omega) (by omega))
      rw [decide_eq_false hk] at hset
      have hwr : IntKind.i64.wrap (getE Em key + 1) = getE Em key + 1 := IntWalk.i64_in _ (by omega)
      have HEm := Lib.hid hEm
      have HKY := Lib.hid hky
      have HSET := Lib.hid hset
      have HGR := Lib.hid hgr
      clear hc hx hsm hSr c0 c1 hok hget hkl hset hmap hEm hgr b1 b3 hbb hky
      go_wp2_with fail
      refine HSET.out.mono ?_
      rintro e w4 ⟨rfl, h2, h3⟩
      have HH := Lib.hid h2
      clear h2
      go_wp2
      go_roundw
      case rel =>
        refine ⟨⟨m + 1, by omega, by go_num, ?_⟩, HGR.out.trans h3⟩
        rw [take_fold HX.out, HEm.out]
        unfold memberE
        rw [HKY.out]
        exact HH.out
      case measure => simp [intOf]; omega
    · obtain rfl : m = e0.tags.length := by omega
      rw [List.take_length] at hmap
      go_wp2
      go_ret
      exact ⟨rfl, hmap, (below_turn HB.out).trans hgr⟩
end Go.Proofs.YtdonhmdeijidkaaGreat
