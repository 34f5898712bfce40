/-
  What the rows have in common: arguments that came in are read, and read behind the call as they did.
-/
import Derived.Test.YtdonhmdeijidkaaGreatArgs
import Derived.Test.YtdonhmdeijidkaaGreatArgsD
import Derived.ProofKit
import Derived.OpenShut
import Derived.JoinedCond
import Derived.ChangeSame
import Derived.Below
import Derived.ChangeMaps5
namespace Go.Proofs.YtdonhmdeijidkaaGreat
open Go.ChangeShapes Go.WideShapes Go.ChangeAt Go.RowKit

section
variable {H : Type} {enc : TypeId × Value → H} {P : Program}
theorem post_of_below {f : Func} {s : ChangeSpec} {apart fresh handsOn again : Bool} {W W' : World} {args : Array Value} {v : Value} {ds gs : List (DataW H)} {before pa pv : List MemPlace}
    (hW : DataW.Whole enc P f.params.toList s.vars apart W args.toList ds gs before)
    (hres : ∀ (b : Nat) (sp : Nat → Bool) (hd : Bool), DataW.TrodAll enc P W' b sp hd f.resultTypes.toList (v.resultList f.resultTypes.size) (s.fn H (ds ++ gs)).results [])
    (hargs : ∀ sp : Nat → Bool, (∀ p ∈ before, sp p.block = true) → DataW.TrodAll enc P W' 0 sp true f.params.toList args.toList (s.fn H (ds ++ gs)).args pa)
    (hvars : ∀ sp : Nat → Bool, (∀ p ∈ before, sp p.block = true) → DataW.TrodVars enc P W' sp s.vars (s.fn H (ds ++ gs)).vars pv)
    (hps : before = pa ++ pv) (hb : Below W.heap.size W W')
    (hok : ∀ (j : Nat) (t : TypeId) (r : Value), f.resultTypes[j]? = some t → (v.resultList f.resultTypes.size)[j]? = some r → Value.okWide P W' .any 0 t r) :
    s.post enc P f apart fresh handsOn again W args v W' := by
  have hlt : ∀ p ∈ before, p.block < W.heap.size := fun p hp => hW.lt p hp
  have hold : ∀ p ∈ before, (fun b => decide (b < W.heap.size)) p.block = true := fun p hp => by simpa using hlt p hp
  refine ⟨ds, gs, before, [], pa, pv, hW, hres _ _ _, hargs _ hold, hvars _ hold, World.keptBut_mono (fun p hp => ⟨hp, ?_⟩) (hb.frame (· ∈ before)), fun _ => ?_⟩
  · rw [hps, List.mem_append] at hp
    exact Or.inr hp
  · obtain ⟨_, _, _, _, _, hz, hn⟩ := hW
    refine ⟨hok, _, _, ([] ++ pa) ++ pv, ⟨[] ++ pa, pv, trodAll_append (hargs _ (fun _ _ => rfl)) (hres _ _ _), hvars _ (fun _ _ => rfl), rfl, ?_, ?_⟩, ?_⟩
    · intro b off hp
      have hin : MemPlace.cell b off ∈ before := by rw [hps]; simpa using hp
      rw [hb.frozen (hlt _ hin)]
      exact hz b off hin
    · intro ha
      have := hn ha
      rw [hps] at this
      simpa using this
    · intro p hp _
      rw [hps]
      simpa using hp
end
theorem laid_out : laidOutB Tryz.prog = true := by kernel_rfl
theorem own_knob : ownKnob Tryz.prog.godebug = none := by kernel_rfl

set_option maxRecDepth 100000 in
/-- A string that came in. -/
theorem read_arg {H : Type} {enc : TypeId × Value → H} {W : World} {base : Nat} {v : Value} {d : DataW H} {p : List MemPlace} (hval : Value.okWide Tryz.prog W .any base 9 v) (h : DataW.Trod enc Tryz.prog W 0 (fun _ => true) true 9 v d p) :
    ∃ s : Str, v = vS s ∧ s.length ≤ Rows.uptoBulk d := by
  obtain ⟨s, rfl, rfl, -, hs⟩ := Go.ChangeMaps.open_string Tryz.underlying9 hval h
  refine ⟨s.data.toList, by simp, ?_⟩
  rw [bulks.string_eq]
  omega
set_option maxRecDepth 100000 in
/-- Events that came in. -/
theorem read_events {H : Type} {enc : TypeId × Value → H} {W : World} {base : Nat} {v : Value} {d : DataW H} {p : List MemPlace} (hval : Value.okWide Tryz.prog W .any base 28 v) (h : DataW.Trod enc Tryz.prog W 0 (fun _ => true) true 28 v d p)
    (hb : Rows.uptoBulk d ≤ 1048576) : ∃ A c l, v = .slice A l.length c ∧ Evts W W.heap.size A l ∧ l.length ≤ 1048576 ∧ ∀ e ∈ l, e.Small := by
  obtain ⟨a, len, cap, rfl⟩ := okWide_slice Tryz.underlying28 hval
  obtain ⟨n, hn⟩ := h
  obtain ⟨A, c, l, h1, h2⟩ := read_evs (x := (d, p)) hn hb
  injection h1 with h1
  exact ⟨A, c, l, h1, h2⟩
set_option maxRecDepth 100000 in
/-- It reads behind the call as it did. -/
theorem again_reads {H : Type} {enc : TypeId × Value → H} {t : TypeId} (hr : Tryz.prog.readableRec t = true) (hrow : t < Tryz.prog.types.size) {W W' : World} {v : Value} {d : DataW H} {ps : List MemPlace} {sp : Nat → Bool}
    (h : DataW.Trod enc Tryz.prog W 0 (fun _ => true) true t v d ps) (hb : Below W.heap.size W W') (hlt : ∀ x ∈ ps, x.block < W.heap.size) (hsp : ∀ x ∈ ps, sp x.block = true) : DataW.Trod enc Tryz.prog W' 0 sp true t v d ps :=
  WideElems.Trod_stays laid_out hr hrow h (fun x hx => hb.same (hlt x hx)) hsp
set_option maxRecDepth 100000 in
/-- A projection that came in. -/
theorem read_projection {H : Type} {enc : TypeId × Value → H} {W : World} {base : Nat} {v : Value} {d : DataW H} {p : List MemPlace} (hval : Value.okWide Tryz.prog W .any base 26 v) (h : DataW.Trod enc Tryz.prog W 0 (fun _ => true) true 26 v d p)
    (hb : Rows.uptoBulk d ≤ 1048576) : ∃ (D : Df) (A : Option Addr) (c : Nat), v = .agg (cDf A c D) ∧ Cls W W.heap.size A D.q ∧ D.q.length ≤ c ∧ D.Small := by
  obtain ⟨cs, rfl, hsz⟩ := okWide_struct Tryz.underlying26 hval
  obtain ⟨n, hn⟩ := h
  obtain ⟨D, A, c, h1, h2, h3, h4⟩ := read_def (y := (d, p)) hn
  have h1' : cs.toList = [.int .i64 D.kind, vS D.field, .slice A D.q.length c] := h1
  obtain ⟨l⟩ := cs
  simp only at h1'
  subst h1'
  exact ⟨D, A, c, rfl, h2, h3, h4 hb⟩

section
variable {H : Type} {enc : TypeId × Value → H} {w : World} {base : Nat} {spare : Nat → Bool} {held : Bool}
set_option maxRecDepth 100000 in
theorem read_ent {n : Nat} {cs : List Value} {y : DataW H × List MemPlace} (h : DataW.trod enc Tryz.prog w base spare held n 92 cs = some y) :
    ∃ x : Str × Int, cs = [vS x.1, .int .i64 x.2] ∧ x.1.length ≤ Rows.uptoBulk y.1 ∧ -9223372036854775808 ≤ x.2 ∧ x.2 ≤ 9223372036854775807 := by
  obtain ⟨y0, y1, m, rfl, hl, h0, h1⟩ := trod_struct2 Tryz.underlying92 h
  have hc : Tryz.prog.cellsOf 92 = 2 := by kernel_rfl
  rw [hc] at hl
  match cs, hl with
  | [v0, v1], _ =>
    have c0 : Tryz.prog.cellsOf 9 = 1 := by kernel_rfl
    have c1 : Tryz.prog.cellsOf 3 = 1 := by kernel_rfl
    simp only [c0, c1, List.drop_zero, List.drop_succ_cons, List.take_succ_cons, List.take_zero] at h0 h1
    obtain ⟨s, e0, b0⟩ := read_str h0
    obtain ⟨k, e1, rfl, hw⟩ := DataW.trod_int Tryz.underlying3 h1
    cases e0
    cases e1
    have := wf_range hw
    exact ⟨(s, k), rfl, by rw [bulk_two]; simp only; omega, this⟩
theorem read_ents {n : Nat} {cs : List Value} {x : DataW H × List MemPlace} (h : DataW.trod enc Tryz.prog w base spare held n 27 cs = some x) :
    ∃ A c l, cs = [.slice A l.length c] ∧ Flds w w.heap.size A l ∧ l.length ≤ Rows.uptoBulk x.1 ∧ l.length ≤ c ∧ (A = none → l.length = 0 ∧ c = 0) ∧ ∀ s ∈ l, s.1.length ≤ Rows.uptoBulk x.1 ∧ -9223372036854775808 ≤ s.2 ∧ s.2 ≤ 9223372036854775807 := by
  obtain ⟨A, c, l, h1, h2, h3, h4, h5, h6⟩ := read_slice (α := Str × Int) (C := 2) Tryz.underlying27 (by kernel_rfl) (by decide) (fun z cs m => cs = [vS z.1, .int .i64 z.2] ∧ z.1.length ≤ m ∧ -9223372036854775808 ≤ z.2 ∧ z.2 ≤ 9223372036854775807) (fun n cs y hy => read_ent hy) h
  refine ⟨A, c, l, h1, fun hl => ?_, h2, h5, h6, fun s hs => ?_⟩
  · obtain ⟨b, off, rfl, hb, hc⟩ := h3 hl
    refine ⟨b, off, rfl, hb, fun k s hk => ?_⟩
    obtain ⟨cs', m, e1, ⟨e2, _⟩, _⟩ := hc k s hk
    have f0 := e1 0 (by decide)
    have f1 := e1 1 (by decide)
    rw [e2] at f0 f1
    exact ⟨by simpa using f0, by simpa using f1⟩
  · obtain ⟨cs', m, ⟨_, e1, e3, e4⟩, e2⟩ := h4 s hs
    exact ⟨by omega, e3, e4⟩
end
set_option maxRecDepth 100000 in
/-- Entries that came in. -/
theorem read_entries {H : Type} {enc : TypeId × Value → H} {W : World} {base : Nat} {v : Value} {d : DataW H} {p : List MemPlace} (hval : Value.okWide Tryz.prog W .any base 27 v) (h : DataW.Trod enc Tryz.prog W 0 (fun _ => true) true 27 v d p)
    (hb : Rows.uptoBulk d ≤ 1048576) : ∃ A c l, v = .slice A l.length c ∧ Flds W W.heap.size A l ∧ l.length ≤ 1048576 ∧ l.length ≤ c ∧ (A = none → l.length = 0 ∧ c = 0) ∧ ∀ s ∈ l, s.1.length ≤ 1048576 ∧ -9223372036854775808 ≤ s.2 ∧ s.2 ≤ 9223372036854775807 := by
  obtain ⟨a, len, cap, rfl⟩ := okWide_slice Tryz.underlying27 hval
  obtain ⟨n, hn⟩ := h
  obtain ⟨A, c, l, h1, h2, h3, h4, h5, h6⟩ := read_ents (x := (d, p)) hn
  injection h1 with h1
  simp only at h3 h6
  exact ⟨A, c, l, h1, h2, by omega, h4, h5, fun s hs => by have := h6 s hs; exact ⟨by omega, this.2⟩⟩
end Go.Proofs.YtdonhmdeijidkaaGreat
