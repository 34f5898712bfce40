/-
  Walks: the four kinds' step.
-/
import Derived.Test.YtdonhmdeijidkaaGreatFoldB
namespace Go.Proofs.YtdonhmdeijidkaaGreat
open Go.RowKit Go.Maps

/-- Entries behind n steps: not many, none great. -/
def Okay (E : Ents) (n : Nat) : Prop := E.length ≤ 6 * n ∧ ∀ x ∈ E, -(2199023255552 * (n : Int)) ≤ x.2 ∧ x.2 ≤ 2199023255552 * (n : Int)
theorem Okay.get {E : Ents} {n : Nat} (h : Okay E n) (k : Str) : -(2199023255552 * (n : Int)) ≤ getE E k ∧ getE E k ≤ 2199023255552 * (n : Int) := by
  unfold getE fieldOf
  cases hf : E.find? (fun x => x.1 == k) with
  | none => simp; omega
  | some x => exact h.2 x (List.mem_of_find?_eq_some hf)
theorem wf_of {n : Int} (h1 : -9223372036854775808 ≤ n) (h2 : n ≤ 9223372036854775807) : (Lit.int .i64 n).wf = true := by
  have e1 : IntKind.i64.min = -9223372036854775808 := by decide
  have e2 : IntKind.i64.max = 9223372036854775807 := by decide
  simp [Lit.wf, e1, e2]
  omega
theorem wf_inv {n : Int} (h : (Lit.int .i64 n).wf = true) : -9223372036854775808 ≤ n ∧ n ≤ 9223372036854775807 := by
  have e1 : IntKind.i64.min = -9223372036854775808 := by decide
  have e2 : IntKind.i64.max = 9223372036854775807 := by decide
  simp [Lit.wf, e1, e2] at h
  omega

def countE (E : Ents) : Ents := setE false E [] (getE E [] + 1)
def sumE (f : Str) (E : Ents) (e : Ev) : Int × Ents :=
  let v := (fieldOf e.flds f).getD 0
  if fitsB (getE E [] + v) = false ∧ v ≠ 0 then (4, E) else (0, setE false E [] (getE E [] + v))
def latestE (f : Str) (E : Ents) (e : Ev) : Ents := match fieldOf e.flds f with
  | some v => setE true E e.stream v
  | none => E
def memberE (s : Str) (E : Ents) (t : Str) : Ents := setE false E (t ++ [32] ++ s) (getE E (t ++ [32] ++ s) + 1)
def membersE (E : Ents) (e : Ev) : Ents := e.tags.foldl (memberE e.stream) E

set_option maxRecDepth 100000 in
theorem count_step (w : World) (sb mb : Nat) (k : Int) (f : Str) (u : Value) (E : Ents) (n : Nat) (s t : Str) (tA fA : Value) (hS : Blk w sb 100 #[kindK k f, u, .map (some mb)]) (hM : MapIs w mb E) (hO : Okay E n) (hn : n ≤ 10000) (hk : k ≠ 3) :
    Calls Tryz.prog 196 #[.agg #[], .pointer (some ⟨sb, 0, none⟩), .agg #[vS s, vS t, tA, fA]] w fun e w' => e = .returned (.int .i64 0) ∧ MapIs w' mb (countE E) ∧ w.grownBy w' (some mb) := by
  obtain ⟨w1, hw1⟩ : ∃ x, x = (w.alloc (.cells #[] 152)).alloc (.cells #[vS s, vS t, tA, fA] 45) := ⟨_, rfl⟩
  have hb : Below w.heap.size w w1 := hw1 ▸ ((Below.refl w.heap.size w).alloc (Nat.le_refl _) _).alloc (by simp) _
  have hS1 : Blk w1 sb 100 #[kindK k f, u, .map (some mb)] := hS.kept hb
  have hM1 : MapIs w1 mb E := hM.below hb
  have hg := hO.get []
  have hwr : IntKind.i64.wrap (getE E [] + 1) = getE E [] + 1 := IntWalk.i64_in _ (by omega)
  have hlk : (Instr.lookup 98 (.map (some mb)) (.string ⟨#[]⟩) false).run Tryz.prog w1 = .ok (.int .i64 (getE E [])) w1 := hM1.look (k := []) (by decide)
  have hset := set_calls w1 sb mb k f u E [] (getE E [] + 1) hS1 hM1 (by decide) (by have := hO.1; simp [maxLen]; omega) (wf_of (by omega) (by omega))
  obtain ⟨c0, c1, c2⟩ := hS1.three
  rw [decide_eq_false hk] at hset
  have HT := Lib.hid hset
  clear hS hM hS1 hM1 hO hg c0 c1 hset
  subst hw1
  go_enter Tryz.func196, Tryz.ntmps196
  go_wp2_with fail
  refine HT.out.mono ?_
  rintro e w2 ⟨rfl, h2, h3⟩
  go_wp2
  go_ret
  exact ⟨rfl, h2, (below_turn hb).trans h3⟩

/-- A good event: what 'may' has let through, of moderate size. -/
def Ev.Good (e : Ev) : Prop := e.stream.length ≤ 1048576 ∧ e.tags.length ≤ 6 ∧ (∀ t ∈ e.tags, t.length ≤ 1048576) ∧ e.flds.length ≤ 1048576 ∧ ∀ x ∈ e.flds, -1099511627776 ≤ x.2 ∧ x.2 ≤ 1099511627776
theorem Ev.Good.val {e : Ev} (h : e.Good) (f : Str) : -1099511627776 ≤ (fieldOf e.flds f).getD 0 ∧ (fieldOf e.flds f).getD 0 ≤ 1099511627776 := by
  unfold fieldOf
  cases hf : e.flds.find? (fun x => x.1 == f) with
  | none => simp
  | some x => exact h.2.2.2.2 x (List.mem_of_find?_eq_some hf)

set_option maxRecDepth 100000 in
set_option maxHeartbeats 1000000 in
theorem sum_step (w : World) (sb mb : Nat) (k : Int) (f f2 : Str) (u : Value) (E : Ents) (n : Nat) (e0 : Ev) (tA fA : Option Addr) (tn tc fc : Nat) (hS : Blk w sb 100 #[kindK k f2, u, .map (some mb)]) (hM : MapIs w mb E) (hO : Okay E n) (hn : n ≤ 10000) (hk : k ≠ 3)
    (hF : Flds w w.heap.size fA e0.flds) (hE : e0.Good) :
    Calls Tryz.prog 190 #[.agg #[vS f], .pointer (some ⟨sb, 0, none⟩), .agg #[vS e0.stream, vS e0.typ, .slice tA tn tc, .slice fA e0.flds.length fc]] w fun e w' => e = .returned (.int .i64 (sumE f E e0).1) ∧ MapIs w' mb (sumE f E e0).2 ∧ w.grownBy w' (some mb) := by
  obtain ⟨w1, hw1⟩ : ∃ x, x = (w.alloc (.cells #[vS f] 148)).alloc (.cells #[vS e0.stream, vS e0.typ, .slice tA tn tc, .slice fA e0.flds.length fc] 45) := ⟨_, rfl⟩
  have hb : Below w.heap.size w w1 := hw1 ▸ ((Below.refl w.heap.size w).alloc (Nat.le_refl _) _).alloc (by simp) _
  have hval := value_event_calls w1 e0.stream e0.typ f tA fA tn tc fc e0.flds ((hF.same (same_below hb)).more hb.size) hE.2.2.2.1
  have hv := hE.val f
  have hsm : sumE f E e0 = (if fitsB (getE E [] + (fieldOf e0.flds f).getD 0) = false ∧ (fieldOf e0.flds f).getD 0 ≠ 0 then (4, E) else (0, setE false E [] (getE E [] + (fieldOf e0.flds f).getD 0))) := rfl
  generalize sumE f E e0 = sm at hsm ⊢
  generalize (fieldOf e0.flds f).getD 0 = v at hval hv hsm ⊢
  have HSM := Lib.hid hsm
  clear hsm
  have hg := hO.get []
  have hwr : IntKind.i64.wrap (getE E [] + v) = getE E [] + v := IntWalk.i64_in _ (by omega)
  have hS1 : Blk w1 sb 100 #[kindK k f2, u, .map (some mb)] := hS.kept hb
  have hM1 : MapIs w1 mb E := hM.below hb
  have HL : ∀ w2, Below w1.heap.size w1 w2 → (Instr.lookup 98 (.map (some mb)) (.string ⟨#[]⟩) false).run Tryz.prog w2 = .ok (.int .i64 (getE E [])) w2 ∧ w2.cell? ⟨sb, 2, none⟩ = some (.map (some mb)) ∧
      Calls Tryz.prog 192 #[.pointer (some ⟨sb, 0, none⟩), .string ⟨#[]⟩, .int .i64 (getE E [] + v)] w2 fun e w' => e = .returned (.tuple #[]) ∧ MapIs w' mb (setE false E [] (getE E [] + v)) ∧ w2.grownBy w' (some mb) := by
    intro w2 hb2
    have hS2 := hS1.kept hb2
    have hM2 := hM1.below hb2
    refine ⟨hM2.look (k := []) (by decide), hS2.three.2.2, ?_⟩
    have hset := set_calls w2 sb mb k f2 u E [] (getE E [] + v) hS2 hM2 (by decide) (by have := hO.1; simp [maxLen]; omega) (wf_of (by omega) (by omega))
    rw [decide_eq_false hk] at hset
    exact hset
  have HB := Lib.hid hb
  have HM := Lib.hid hM1
  have HL := Lib.hid HL
  have HV := Lib.hid hval
  have hfits := fits_calls (getE E [] + v)
  have hf1 := Lib.hid hfits
  clear hS hM hS1 hM1 hO hg hF hE hval hfits hb
  subst hw1
  go_enter Tryz.func190, Tryz.ntmps190
  go_wp2_with fail
  refine HV.out.mono ?_
  rintro e w2 ⟨rfl, hb2⟩
  obtain ⟨q1, q2, q3⟩ := HL.out _ hb2
  have HM2 := Lib.hid (HM.out.below hb2)
  have HB2 := Lib.hid hb2
  have HQ := Lib.hid q3
  clear q3 hb2
  go_wp2_with fail
  refine (hf1.out _).mono ?_
  rintro e w3 ⟨rfl, rfl⟩
  have HG : w.grownBy w2 (some mb) := (below_turn HB.out).trans (below_turn HB2.out)
  have HG := Lib.hid HG
  generalize hfb : fitsB (getE E [] + v) = fb
  have HF := Lib.hid hfb
  clear hfb
  cases fb
  · by_cases h0 : v = 0
    · have hz : ((v : Int) == 0) = true := beq_iff_eq.2 h0
      have H0 := Lib.hid h0
      clear h0
      go_wp2_with fail
      refine HQ.out.mono ?_
      rintro e w4 ⟨rfl, h2, h3⟩
      go_wp2
      go_ret
      have e1 : sm = (0, setE false E [] (getE E [] + v)) := by rw [HSM.out, if_neg (by simp [H0.out])]
      rw [e1]
      exact ⟨rfl, h2, HG.out.trans h3⟩
    · have hz : ((v : Int) == 0) = false := beq_eq_false_iff_ne.2 h0
      have H0 := Lib.hid h0
      clear h0
      go_wp2_with fail
      go_ret
      have e1 : sm = (4, E) := by rw [HSM.out, if_pos ⟨HF.out, H0.out⟩]
      rw [e1]
      exact ⟨rfl, HM2.out, HG.out⟩
  · go_wp2_with fail
    refine HQ.out.mono ?_
    rintro e w4 ⟨rfl, h2, h3⟩
    go_wp2
    go_ret
    have e1 : sm = (0, setE false E [] (getE E [] + v)) := by rw [HSM.out, if_neg (by simp [HF.out])]
    rw [e1]
    exact ⟨rfl, h2, HG.out.trans h3⟩

set_option maxRecDepth 100000 in
theorem latest_step (w : World) (sb mb : Nat) (f f2 : Str) (u : Value) (E : Ents) (n : Nat) (e0 : Ev) (tA fA : Option Addr) (tn tc fc : Nat) (hS : Blk w sb 100 #[kindK 3 f2, u, .map (some mb)]) (hM : MapIs w mb E) (hO : Okay E n) (hn : n ≤ 10000)
    (hF : Flds w w.heap.size fA e0.flds) (hE : e0.Good) :
    Calls Tryz.prog 194 #[.agg #[vS f], .pointer (some ⟨sb, 0, none⟩), .agg #[vS e0.stream, vS e0.typ, .slice tA tn tc, .slice fA e0.flds.length fc]] w fun e w' => e = .returned (.int .i64 0) ∧ MapIs w' mb (latestE f E e0) ∧ w.grownBy w' (some mb) := by
  obtain ⟨w1, hw1⟩ : ∃ x, x = (w.alloc (.cells #[vS f] 149)).alloc (.cells #[vS e0.stream, vS e0.typ, .slice tA tn tc, .slice fA e0.flds.length fc] 45) := ⟨_, rfl⟩
  have hb : Below w.heap.size w w1 := hw1 ▸ ((Below.refl w.heap.size w).alloc (Nat.le_refl _) _).alloc (by simp) _
  have hval := value_event_calls w1 e0.stream e0.typ f tA fA tn tc fc e0.flds ((hF.same (same_below hb)).more hb.size) hE.2.2.2.1
  have hv := hE.val f
  have hBk : Blk w1 (w.heap.size + 1) 45 #[vS e0.stream, vS e0.typ, .slice tA tn tc, .slice fA e0.flds.length fc] := by
    have := Blk.new (w.alloc (.cells #[vS f] 149)) 45 #[vS e0.stream, vS e0.typ, .slice tA tn tc, .slice fA e0.flds.length fc]
    rw [hw1]; simpa using this
  have hS1 : Blk w1 sb 100 #[kindK 3 f2, u, .map (some mb)] := hS.kept hb
  have hM1 : MapIs w1 mb E := hM.below hb
  have hst := hE.1
  have HL : ∀ w2, Below w1.heap.size w1 w2 → ∀ v : Int, -1099511627776 ≤ v → v ≤ 1099511627776 →
      Calls Tryz.prog 192 #[.pointer (some ⟨sb, 0, none⟩), vS e0.stream, .int .i64 v] w2 fun e w' => e = .returned (.tuple #[]) ∧ MapIs w' mb (setE true E e0.stream v) ∧ w2.grownBy w' (some mb) := by
    intro w2 hb2 v hv1 hv2
    exact set_calls w2 sb mb 3 f2 u E e0.stream v (hS1.kept hb2) (hM1.below hb2) (by simp [maxLen]; omega) (by have := hO.1; simp [maxLen]; omega) (wf_of (by omega) (by omega))
  have HB := Lib.hid hb
  have HM := Lib.hid hM1
  have HL := Lib.hid HL
  have HV := Lib.hid hval
  have HBk := Lib.hid hBk
  have HX := Lib.hid hv
  clear hS hM hS1 hM1 hO hF hE hval hb hBk hv
  subst hw1
  go_enter Tryz.func194, Tryz.ntmps194
  go_wp2_with fail
  refine HV.out.mono ?_
  rintro e w2 ⟨rfl, hb2⟩
  obtain ⟨b0, b1, b2, b3⟩ := (HBk.out.kept hb2).four
  have HQ := Lib.hid (HL.out _ hb2)
  have HM2 := Lib.hid (HM.out.below hb2)
  have HG : w.grownBy w2 (some mb) := (below_turn HB.out).trans (below_turn hb2)
  have HG := Lib.hid HG
  clear hb2
  generalize hfo : fieldOf e0.flds f = o at HX ⊢
  have HFo := Lib.hid hfo
  clear hfo
  cases o with
  | none =>
    go_wp2_with fail
    go_ret
    exact ⟨rfl, by unfold latestE; rw [HFo.out]; exact HM2.out, HG.out⟩
  | some v =>
    go_wp2_with fail
    refine (HQ.out v HX.out.1 HX.out.2).mono ?_
    rintro e w4 ⟨rfl, h2, h3⟩
    go_wp2
    go_ret
    exact ⟨rfl, by unfold latestE; rw [HFo.out]; exact h2, HG.out.trans h3⟩
end Go.Proofs.YtdonhmdeijidkaaGreat
