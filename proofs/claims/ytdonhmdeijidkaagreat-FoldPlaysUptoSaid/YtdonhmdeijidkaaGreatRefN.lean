/-
  Plain facts: the reference's set, entry by entry, is setE on rising entries.
-/
import Derived.Test.YtdonhmdeijidkaaGreatRefM
namespace Go.Proofs.YtdonhmdeijidkaaGreat

/-- One round of the reference's set. -/
def setF (keep : Bool) (key : Str) (n : Int) (s : Bool × Ents) (x : Str × Int) : Bool × Ents :=
  let hit := !s.1 && !Op.bytesLess x.1 key
  let o := if hit = true ∧ (n ≠ 0 ∨ keep = true) then s.2 ++ [(key, n)] else s.2
  (s.1 || hit, if x.1 = key then o else o ++ [x])
def setZ (keep : Bool) (key : Str) (n : Int) (s : Bool × Ents) : Ents := if s.1 = false ∧ (n ≠ 0 ∨ keep = true) then s.2 ++ [(key, n)] else s.2
def setR (keep : Bool) (E : Ents) (key : Str) (n : Int) : Ents := setZ keep key n (E.foldl (setF keep key n) (false, []))
theorem setZ_true {keep : Bool} {key : Str} {n : Int} {o : Ents} : setZ keep key n (true, o) = o := by simp [setZ]
theorem set_cons_lt {keep : Bool} {x : Str × Int} {r : Ents} {key : Str} {n : Int} (h : Op.bytesLess x.1 key = true) : setE keep (x :: r) key n = x :: setE keep r key n := by
  have hne : x.1 ≠ key := less_ne h
  unfold setE
  split
  · have : (x.1 == key) = false := by simpa using hne
    simp [delE, this]
  · conv => lhs; unfold putE
    rw [less_asymm h, if_neg (by simp), if_neg (fun e => hne e.symm)]
/-- Behind the place nothing is struck or put. -/
theorem fold_put {keep : Bool} {key : Str} {n : Int} : ∀ (r o : Ents), (∀ y ∈ r, Op.bytesLess key y.1 = true) → r.foldl (setF keep key n) (true, o) = (true, o ++ r)
  | [], o, _ => by simp
  | x :: r, o, h => by
    have hx := h x (by simp)
    have hne : x.1 ≠ key := fun e => less_ne hx e.symm
    simp only [List.foldl_cons]
    have e : setF keep key n (true, o) x = (true, o ++ [x]) := by simp [setF, hne]
    rw [e, fold_put r _ fun y hy => h y (by simp [hy])]
    simp
theorem set_rest {keep : Bool} {key : Str} {n : Int} : ∀ (r o : Ents), Rising r → setZ keep key n (r.foldl (setF keep key n) (false, o)) = o ++ setE keep r key n
  | [], o, _ => by
    by_cases h : n ≠ 0 ∨ keep = true
    · have h2 : ¬ (n = 0 ∧ keep = false) := by rintro ⟨h3, h4⟩; rcases h with h | h; exact h h3; rw [h4] at h; cases h
      simp [setZ, setE, h2, putE, h]
    · have h2 : n = 0 ∧ keep = false := by
        refine ⟨Classical.byContradiction fun h3 => h (.inl h3), ?_⟩
        cases keep
        · rfl
        · exact absurd (.inr rfl) h
      simp [setZ, setE, h2, delE]
  | x :: r, o, hr => by
    have ht := hr.tail
    have hh := hr.head
    simp only [List.foldl_cons]
    by_cases hl : Op.bytesLess x.1 key = true
    · have hne : x.1 ≠ key := less_ne hl
      have e : setF keep key n (false, o) x = (false, o ++ [x]) := by simp [setF, hl, hne]
      rw [e, set_rest r _ ht, set_cons_lt hl]
      simp
    · have hl' : Op.bytesLess x.1 key = false := by simpa using hl
      have hbeh : ∀ y ∈ r, Op.bytesLess key y.1 = true := fun y hy => by
        by_cases he : x.1 = key
        · rw [← he]; exact hh y hy
        · exact less_trans (less_of hl' (fun e => he e.symm)) (hh y hy)
      have hstrike : ∀ y ∈ r, y.1 ≠ key := fun y hy e => less_ne (hbeh y hy) e.symm
      by_cases h : n ≠ 0 ∨ keep = true
      · have h2 : ¬ (n = 0 ∧ keep = false) := by rintro ⟨h3, h4⟩; rcases h with h | h; exact h h3; rw [h4] at h; cases h
        by_cases he : x.1 = key
        · have e : setF keep key n (false, o) x = (true, o ++ [(key, n)]) := by simp [setF, hl', he, h, less_irrefl]
          rw [e, fold_put r _ hbeh, setZ_true]
          simp [setE, h2, putE, he, less_irrefl]
        · have hk : Op.bytesLess key x.1 = true := less_of hl' (fun e => he e.symm)
          have e : setF keep key n (false, o) x = (true, o ++ [(key, n)] ++ [x]) := by simp [setF, hl', he, h]
          rw [e, fold_put r _ hbeh, setZ_true]
          simp [setE, h2, putE, hk]
      · have h2 : n = 0 ∧ keep = false := by
          refine ⟨Classical.byContradiction fun h3 => h (.inl h3), ?_⟩
          cases keep
          · rfl
          · exact absurd (.inr rfl) h
        have hd : delE r key = r := filter_id hstrike
        by_cases he : x.1 = key
        · have e : setF keep key n (false, o) x = (true, o) := by simp [setF, hl', he, h, less_irrefl]
          rw [e, fold_put r _ hbeh, setZ_true]
          have : delE (x :: r) key = delE r key := by simp [delE, he]
          simp [setE, h2, this, hd]
        · have e : setF keep key n (false, o) x = (true, o ++ [x]) := by simp [setF, hl', he, h]
          rw [e, fold_put r _ hbeh, setZ_true]
          have hb : (x.1 == key) = false := by simpa using he
          have : delE (x :: r) key = x :: delE r key := by simp [delE, hb]
          simp [setE, h2, this, hd]
theorem setR_eq {keep : Bool} {E : Ents} {key : Str} {n : Int} (hE : Rising E) : setR keep E key n = setE keep E key n := by
  have := set_rest (keep := keep) (key := key) (n := n) E [] hE
  simpa [setR] using this
end Go.Proofs.YtdonhmdeijidkaaGreat
