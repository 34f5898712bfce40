/-
  Plain facts on what is folded.
-/
import Derived.Test.YtdonhmdeijidkaaGreatLawB
namespace Go.Proofs.YtdonhmdeijidkaaGreat
open Go.RowKit Go.Maps

theorem may_good {e : Ev} (hs : e.Small) (h : mayE e = true) : e.Good := by
  obtain ⟨h1, h2, ⟨h3, h4⟩, h5, h6⟩ := hs
  have h0 : evMay e = 0 := by simpa [mayE] using h
  unfold evMay at h0
  split at h0
  · omega
  · split at h0
    · omega
    · rename_i hb
      split at h0
      · omega
      · split at h0
        · omega
        · split at h0
          · omega
          · rename_i hf
            have hfit : fitB e.flds = true := by
              cases hc : fitB e.flds
              · exact absurd (.inl hc) hf
              · rfl
            refine ⟨h1, by omega, h4, h5, fun x hx => ?_⟩
            unfold fitB at hfit
            have := List.all_eq_true.1 hfit x hx
            simpa using this
theorem few_good {l : List Ev} (hs : ∀ e ∈ l, e.Small) : ∀ e ∈ fewE l, e.Good := by
  intro e he
  unfold fewE at he
  obtain ⟨h1, h2⟩ := List.mem_filter.1 he
  exact may_good (hs e (List.mem_of_mem_take h1)) h2
theorem few_len (l : List Ev) : (fewE l).length ≤ 40 := by
  unfold fewE
  have e2 := List.length_filter_le mayE (l.take 40)
  rw [List.length_take] at e2
  omega

def KeyS (E : Ents) : Prop := ∀ x ∈ E, x.1.length ≤ 4194304
theorem KeyS.set {E : Ents} (h : KeyS E) {b : Bool} {k : Str} {n : Int} (hk : k.length ≤ 4194304) : KeyS (setE b E k n) := fun x hx => by
  rcases mem_setE hx with rfl | hx
  · exact hk
  · exact h x hx
theorem KeyS.members {E : Ents} (h : KeyS E) {s : Str} (hs : s.length ≤ 1048576) (l : List Str) (hl : ∀ t ∈ l, t.length ≤ 1048576) : KeyS (l.foldl (memberE s) E) := by
  induction l generalizing E with
  | nil => exact h
  | cons t r ih =>
    have ht := hl t (by simp)
    exact ih (h.set (by simp; omega)) fun y hy => hl y (by simp [hy])
theorem KeyS.step {E : Ents} (h : KeyS E) (k : Int) (f : Str) (q : List Cl) {e : Ev} (hE : e.Good) : KeyS (stepE k f q E e).2 := by
  unfold stepE kindE
  split
  · split
    · unfold sumE
      simp only
      split
      · exact h
      · exact h.set (by simp)
    · split
      · unfold latestE
        cases fieldOf e.flds f with
        | none => exact h
        | some v => exact h.set (by have := hE.1; omega)
      · split
        · exact h.members hE.1 e.tags hE.2.2.1
        · exact h.set (by simp)
  · exact h

def foldE (k : Int) (f : Str) (q : List Cl) (L : List Ev) : Ents := L.foldl (fun E e => (stepE k f q E e).2) []
theorem foldE_succ {k : Int} {f : Str} {q : List Cl} {L : List Ev} {i : Nat} {x : Ev} (hx : L[i]? = some x) : foldE k f q (L.take (i + 1)) = (stepE k f q (foldE k f q (L.take i)) x).2 := take_fold hx
theorem fold_ok (k : Int) (f : Str) (q : List Cl) (L : List Ev) (hL : ∀ e ∈ L, e.Good) (E : Ents) (n : Nat) (hO : Okay E n) (hK : KeyS E) : Okay (L.foldl (fun E e => (stepE k f q E e).2) E) (n + L.length) ∧ KeyS (L.foldl (fun E e => (stepE k f q E e).2) E) := by
  induction L generalizing E n with
  | nil => exact ⟨hO, hK⟩
  | cons x r ih =>
    have hx := hL x (by simp)
    have := ih (fun e he => hL e (by simp [he])) _ _ (hO.step k f q x hx) (hK.step k f q hx)
    simp only [List.foldl_cons, List.length_cons]
    rw [show n + (r.length + 1) = n + 1 + r.length by omega]
    exact this
theorem foldE_ok (k : Int) (f : Str) (q : List Cl) (L : List Ev) (hL : ∀ e ∈ L, e.Good) : Okay (foldE k f q L) L.length ∧ KeyS (foldE k f q L) := by
  have := fold_ok k f q L hL [] 0 okay_nil (by simp [KeyS])
  simpa [foldE] using this
theorem take_good {L : List Ev} (hL : ∀ e ∈ L, e.Good) (i : Nat) : ∀ e ∈ L.take i, e.Good := fun e he => hL e (List.mem_of_mem_take he)

theorem field_put (E : Ents) (k k' : Str) (n : Int) : fieldOf (putE E k n) k' = if k' = k then some n else fieldOf E k' := by
  have cons : ∀ (x : Str × Int) (r : Ents) (k : Str), fieldOf (x :: r) k = if k = x.1 then some x.2 else fieldOf r k := by
    intro x r k
    unfold fieldOf
    by_cases h : k = x.1
    · simp [h]
    · have : (x.1 == k) = false := by simpa using fun e => h e.symm
      simp [this, h]
  induction E with
  | nil => simp only [putE, cons]
  | cons x r ih =>
    unfold putE
    split
    · rw [cons]
    · split
      · rename_i h2
        rw [cons, cons]
        by_cases h : k' = k
        · simp [h]
        · have : k' ≠ x.1 := by rw [← h2]; exact h
          simp [h, this]
      · rename_i h2
        rw [cons, cons, ih]
        by_cases h : k' = x.1
        · have : k' ≠ k := fun e => h2 (e.symm.trans h)
          simp [h]
          intro e; exact absurd e.symm h2
        · simp [h]
/-- The last number of field f of an event of that stream. -/
def lastN (f s : Str) (L : List Ev) : Option Int := L.foldl (fun o e => if (fieldOf e.flds f).isSome = true ∧ e.stream = s then fieldOf e.flds f else o) none
theorem lastN_succ {f s : Str} {L : List Ev} {i : Nat} {x : Ev} (hx : L[i]? = some x) : lastN f s (L.take (i + 1)) = if (fieldOf x.flds f).isSome = true ∧ x.stream = s then fieldOf x.flds f else lastN f s (L.take i) := take_fold hx
theorem latest_last (f s : Str) (L : List Ev) : fieldOf (foldE 3 f allQ L) s = lastN f s L := by
  have key : ∀ (L : List Ev) (E : Ents) (o : Option Int), fieldOf E s = o → fieldOf (L.foldl (fun E e => (stepE 3 f allQ E e).2) E) s = L.foldl (fun o e => if (fieldOf e.flds f).isSome = true ∧ e.stream = s then fieldOf e.flds f else o) o := by
    intro L
    induction L with
    | nil => intro E o h; exact h
    | cons x r ih =>
      intro E o h
      simp only [List.foldl_cons]
      refine ih _ _ ?_
      have e1 : (stepE 3 f allQ E x).2 = latestE f E x := by unfold stepE kindE; simp [all_match]
      rw [e1]
      unfold latestE
      cases hf : fieldOf x.flds f with
      | none => simp [h]
      | some v =>
        simp only [setE, Bool.true_eq_false, and_false, if_false, field_put, h]
        by_cases hs : s = x.stream
        · simp [hs]
        · simp [hs]
          intro e; exact absurd e.symm hs
  exact key L [] none rfl
theorem any_field {E : Ents} (s : Str) : (E.any fun x => x.1 == s) = (fieldOf E s).isSome := by
  unfold fieldOf
  rw [Option.isSome_map]
  induction E with
  | nil => rfl
  | cons x r ih =>
    cases h : (x.1 == s) <;> simp [h, ih]
end Go.Proofs.YtdonhmdeijidkaaGreat
