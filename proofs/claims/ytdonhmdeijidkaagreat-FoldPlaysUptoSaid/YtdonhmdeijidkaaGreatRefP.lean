/-
  Plain facts: the reference's step is the program's on entries that may be; entries that are loaded may be.
-/
import Derived.Test.YtdonhmdeijidkaaGreatRefO
import Derived.Test.YtdonhmdeijidkaaGreatLawH
import Derived.Test.YtdonhmdeijidkaaGreatFoldJ
namespace Go.Proofs.YtdonhmdeijidkaaGreat

/-- Entries that may be of a kind. -/
structure Inv (k : Int) (E : Ents) : Prop where
  rise : Rising E
  zero : k ≠ 3 → NoZero E
  fits : k = 2 → ∀ x ∈ E, fitsB x.2 = true
theorem Inv.nil (k : Int) : Inv k [] := ⟨List.Pairwise.nil, fun _ _ hx => absurd hx (by simp), fun _ _ hx => absurd hx (by simp)⟩

theorem fits_get {E : Ents} (h : ∀ x ∈ E, fitsB x.2 = true) (k : Str) : fitsB (getE E k) = true := by
  unfold getE fieldOf
  cases hf : E.find? (fun x => x.1 == k) with
  | none => decide
  | some x => exact h x (List.mem_of_find?_eq_some hf)
theorem set_self {E : Ents} (h : Rising E) (hz : NoZero E) (k : Str) : setE false E k (getE E k) = E :=
  ents_ext (h.set false k _) h (hz.set k _) hz fun k' => by rw [get_set]; split <;> simp [*]

/-- What the reference's step comes to. -/
def stepR (k : Int) (f : Str) (q : List Cl) (E : Ents) (e : Ev) : Int × Ents :=
  if matchB q e then
    if k = 1 then (0, countE E)
    else if k = 2 then match fieldOf e.flds f with
      | none => (0, E)
      | some v => if fitsB (getE E [] + v) then (0, setE false E [] (getE E [] + v)) else (4, E)
    else if k = 3 then (0, latestE f E e)
    else (0, membersE E e)
  else (0, E)
theorem stepR_eq {k : Int} {f : Str} {q : List Cl} {E : Ents} (e : Ev) (h : Inv k E) (h1 : 1 ≤ k) (h4 : k ≤ 4) : stepR k f q E e = stepE k f (normQ q) E e := by
  unfold stepR stepE kindE
  rw [norm_match]
  cases matchB q e with
  | false => simp
  | true =>
    simp only [if_true]
    by_cases k2 : k = 2
    · subst k2
      simp only [Int.reduceEq, if_false, if_true]
      unfold sumE
      cases hf : fieldOf e.flds f with
      | none =>
        have := set_self h.rise (h.zero (by decide)) []
        simp [this]
      | some v =>
        simp only [Option.getD_some]
        cases hb : fitsB (getE E [] + v) with
        | true => simp
        | false =>
          have hv : v ≠ 0 := by
            rintro rfl
            have := fits_get (h.fits rfl) []
            rw [Int.add_zero, this] at hb
            cases hb
          simp [hv]
    · by_cases k1 : k = 1
      · subst k1; simp
      · by_cases k3 : k = 3
        · subst k3; simp
        · have k4 : k = 4 := by omega
          subst k4; simp
theorem Inv.step {k : Int} {E : Ents} (h : Inv k E) (f : Str) (q : List Cl) (e : Ev) : Inv k (stepE k f q E e).2 := by
  by_cases k3 : k = 3
  · refine ⟨?_, fun h3 => absurd k3 h3, fun h2 => by omega⟩
    subst k3
    unfold stepE kindE
    simp only [Int.reduceEq, if_false, if_true]
    split
    · unfold latestE
      cases hf : fieldOf e.flds f with
      | none => exact h.rise
      | some v => exact h.rise.set _ _ _
    · exact h.rise
  · have hk := step_keep k3 f q e h.rise (h.zero k3)
    refine ⟨hk.1, fun _ => hk.2, fun k2 => ?_⟩
    subst k2
    unfold stepE kindE
    simp only [if_true]
    split
    · unfold sumE
      simp only
      split
      · exact h.fits rfl
      · rename_i hn
        intro x hx
        rcases mem_setE hx with rfl | hx
        · simp only
          cases hb : fitsB (getE E [] + (fieldOf e.flds f).getD 0) with
          | true => rfl
          | false =>
            have hv : (fieldOf e.flds f).getD 0 = 0 := Classical.byContradiction fun hv => hn ⟨hb, hv⟩
            rw [hv, Int.add_zero] at hb
            rw [fits_get (h.fits rfl) []] at hb
            cases hb
        · exact h.fits rfl x hx
    · exact h.fits rfl

theorem load_at {keep : Bool} {l : Ents} (h : loadB keep l = true) {i : Nat} {x : Str × Int} (hx : l[i]? = some x) : badE keep (prevE l i) x = false := by
  cases hb : badE keep (prevE l i) x with
  | false => rfl
  | true => rw [load_bad hx hb] at h; cases h
theorem load_rising {keep : Bool} {l : Ents} (h : loadB keep l = true) : ∀ i, i ≤ l.length → Rising (l.take i)
  | 0, _ => by simp [Rising]
  | i + 1, hi => by
    obtain ⟨x, hx⟩ := at_some (l := l) (k := i) (by omega)
    refine (load_put hx (load_rising h i (by omega)) fun j y hj hy => ?_).2
    have hb := load_at h hx
    subst hj
    simp only [badE, prevE, hy, Option.map_some, Bool.or_eq_false_iff, Bool.not_eq_false'] at hb
    exact hb.1.1
theorem load_inv {k : Int} {l : Ents} (h : loadB (decide (k = 3)) l = true) : Inv k l := by
  refine ⟨?_, fun k3 x hx => ?_, fun _ x hx => ?_⟩
  · have := load_rising h l.length (Nat.le_refl _)
    rwa [List.take_length] at this
  · obtain ⟨i, hi, e⟩ := List.getElem_of_mem hx
    have hb := load_at h (i := i) (x := x) (by rw [List.getElem?_eq_getElem hi, e])
    simp only [badE, Bool.or_eq_false_iff] at hb
    have := hb.2
    simp [k3] at this
    exact this
  · obtain ⟨i, hi, e⟩ := List.getElem_of_mem hx
    have hb := load_at h (i := i) (x := x) (by rw [List.getElem?_eq_getElem hi, e])
    simp only [badE, Bool.or_eq_false_iff] at hb
    simpa using hb.1.2
theorem load_okay {keep : Bool} {l : Ents} (h : loadB keep l = true) (hn : l.length ≤ 3000) : Okay l 512 := by
  refine ⟨by omega, fun x hx => ?_⟩
  obtain ⟨i, hi, e⟩ := List.getElem_of_mem hx
  have hb := load_at h (i := i) (x := x) (by rw [List.getElem?_eq_getElem hi, e])
  simp only [badE, Bool.or_eq_false_iff] at hb
  have hf : fitsB x.2 = true := by simpa using hb.1.2
  unfold fitsB at hf
  simp at hf
  omega

/-- What a row of events comes to, behind entries. -/
def playE (k : Int) (f : Str) (q : List Cl) (E : Ents) (L : List Ev) : Ents := L.foldl (fun E e => (stepE k f q E e).2) E
theorem playE_succ {k : Int} {f : Str} {q : List Cl} {E : Ents} {L : List Ev} {i : Nat} {x : Ev} (hx : L[i]? = some x) : playE k f q E (L.take (i + 1)) = (stepE k f q (playE k f q E (L.take i)) x).2 := take_fold hx
theorem playE_inv {k : Int} {f : Str} {q : List Cl} : ∀ {L : List Ev} {E : Ents}, Inv k E → Inv k (playE k f q E L)
  | [], _, h => h
  | x :: L, _, h => playE_inv (L := L) (h.step f q x)
theorem playE_ok {k : Int} {f : Str} {q : List Cl} {L : List Ev} (hL : ∀ e ∈ L, e.Good) {E : Ents} {n : Nat} (hO : Okay E n) (hK : KeyS E) : Okay (playE k f q E L) (n + L.length) ∧ KeyS (playE k f q E L) := fold_ok k f q L hL E n hO hK
end Go.Proofs.YtdonhmdeijidkaaGreat
