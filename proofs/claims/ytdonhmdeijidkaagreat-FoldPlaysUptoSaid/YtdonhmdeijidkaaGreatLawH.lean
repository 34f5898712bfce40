/-
  Plain facts: what is folded hangs not on the order of the events; a query asks the same when its texts are put in order.
-/
import Derived.Test.YtdonhmdeijidkaaGreatLawE
namespace Go.Proofs.YtdonhmdeijidkaaGreat

theorem sort_any (l : List Str) (p : Str → Bool) : (sortS l).any p = l.any p := by
  rw [Bool.eq_iff_iff]
  simp only [List.any_eq_true]
  constructor
  · rintro ⟨x, hx, h⟩; exact ⟨x, (mem_sortS l x).1 hx, h⟩
  · rintro ⟨x, hx, h⟩; exact ⟨x, (mem_sortS l x).2 hx, h⟩
theorem norm_clause (e : Ev) (c : Cl) : clauseB e (normC c) = clauseB e c := by
  unfold clauseB normC
  simp only
  rw [sort_any, sort_any]
  have : decide ((sortS c.types).length = 0) = decide (c.types.length = 0) := by
    by_cases h : c.types = []
    · rw [h, sortS_nil.2 rfl]
    · have h2 : sortS c.types ≠ [] := fun e => h (sortS_nil.1 e)
      rw [decide_eq_false (by simpa using h2), decide_eq_false (by simpa using h)]
  rw [this]
theorem norm_match (q : List Cl) (e : Ev) : matchB (normQ q) e = matchB q e := by
  unfold matchB normQ
  rw [List.any_map]
  congr 1
  funext c
  exact norm_clause e c
theorem norm_small {q : List Cl} (h : SmallQ q) : SmallQ (normQ q) := by
  refine ⟨by simpa [normQ] using h.1, fun c hc => ?_⟩
  unfold normQ at hc
  obtain ⟨d, hd, rfl⟩ := List.mem_map.1 hc
  obtain ⟨⟨h1, h2⟩, h3, h4⟩ := h.2 d hd
  exact ⟨⟨Nat.le_trans (sortS_le _) h1, fun s hs => h2 s ((mem_sortS _ _).1 hs)⟩, Nat.le_trans (sortS_le _) h3, fun s hs => h4 s ((mem_sortS _ _).1 hs)⟩

/-- No entry of a number 0. -/
def NoZero (E : Ents) : Prop := ∀ x ∈ E, x.2 ≠ 0
theorem NoZero.set {E : Ents} (h : NoZero E) (k : Str) (n : Int) : NoZero (setE false E k n) := by
  intro x hx
  unfold setE at hx
  split at hx
  · exact h x (List.mem_filter.1 hx).1
  · rename_i h0
    rcases mem_putE hx with rfl | hx
    · exact fun e => h0 ⟨e, rfl⟩
    · exact h x hx
theorem Rising.set {E : Ents} (h : Rising E) (b : Bool) (k : Str) (n : Int) : Rising (setE b E k n) := by
  unfold setE
  split
  · exact h.del k
  · exact h.put k n
theorem get_mem_iff {E : Ents} (h : Rising E) (hz : NoZero E) (x : Str × Int) : x ∈ E ↔ getE E x.1 = x.2 ∧ x.2 ≠ 0 := by
  constructor
  · intro hx
    refine ⟨?_, hz x hx⟩
    unfold getE
    rw [h.get_mem hx]; rfl
  · rintro ⟨h1, h2⟩
    unfold getE fieldOf at h1
    cases hf : E.find? (fun y => y.1 == x.1) with
    | none => rw [hf] at h1; simp at h1; exact absurd h1.symm h2
    | some y =>
      rw [hf] at h1
      have hy := List.find?_some hf
      have hm := List.mem_of_find?_eq_some hf
      have e1 : y.1 = x.1 := by simpa using hy
      have e2 : y.2 = x.2 := by simpa using h1
      have : y = x := Prod.ext e1 e2
      exact this ▸ hm
theorem ents_ext {E F : Ents} (hE : Rising E) (hF : Rising F) (zE : NoZero E) (zF : NoZero F) (h : ∀ k, getE E k = getE F k) : E = F :=
  hE.ext hF fun x => by rw [get_mem_iff hE zE, get_mem_iff hF zF, h]

/-- What an event adds at a key. -/
def adds (k : Int) (f : Str) (q : List Cl) (key : Str) (e : Ev) : Int :=
  if matchB q e = true then (if k = 2 then (if key = [] then (fieldOf e.flds f).getD 0 else 0) else if k = 4 then (e.tags.map fun t => if key = t ++ [32] ++ e.stream then (1 : Int) else 0).sum else (if key = [] then 1 else 0)) else 0

theorem members_sum (s key : Str) : ∀ (l : List Str) (E : Ents), getE (l.foldl (memberE s) E) key = getE E key + (l.map fun t => if key = t ++ [32] ++ s then (1 : Int) else 0).sum := by
  intro l
  induction l with
  | nil => intro E; simp
  | cons t r ih =>
    intro E
    simp only [List.foldl_cons, List.map_cons, List.sum_cons]
    rw [ih]
    unfold memberE
    rw [get_set]
    by_cases h : key = t ++ [32] ++ s
    · rw [if_pos h, if_pos h, ← h]; omega
    · rw [if_neg h, if_neg h]; omega
theorem members_keep {s : Str} : ∀ (l : List Str) (E : Ents), Rising E → NoZero E → Rising (l.foldl (memberE s) E) ∧ NoZero (l.foldl (memberE s) E) := by
  intro l
  induction l with
  | nil => intro E h1 h2; exact ⟨h1, h2⟩
  | cons t r ih => intro E h1 h2; exact ih _ (h1.set _ _ _) (h2.set _ _)

theorem step_keep {k : Int} (hk : k ≠ 3) (f : Str) (q : List Cl) {E : Ents} (e : Ev) (h1 : Rising E) (h2 : NoZero E) : Rising (stepE k f q E e).2 ∧ NoZero (stepE k f q E e).2 := by
  unfold stepE kindE
  split
  · split
    · unfold sumE
      simp only
      split
      · exact ⟨h1, h2⟩
      · exact ⟨h1.set _ _ _, h2.set _ _⟩
    · split
      · exact members_keep e.tags E h1 h2
      · exact ⟨h1.set _ _ _, h2.set _ _⟩
  · exact ⟨h1, h2⟩
theorem step_adds {k : Int} (hk : k ≠ 3) (f : Str) (q : List Cl) (E : Ents) (e : Ev) (key : Str) (hE : e.Good) (hb : -(43980465111040 : Int) ≤ getE E [] ∧ getE E [] ≤ 43980465111040) :
    getE (stepE k f q E e).2 key = getE E key + adds k f q key e := by
  unfold stepE kindE adds
  by_cases hm : matchB q e = true
  · rw [if_pos hm, if_pos hm]
    by_cases h2 : k = 2
    · rw [if_pos h2, if_pos h2]
      have hv := hE.val f
      unfold sumE
      simp only
      have hfit : fitsB (getE E [] + (fieldOf e.flds f).getD 0) = true := by
        unfold fitsB
        rw [decide_eq_true (by omega), decide_eq_true (by omega)]; rfl
      rw [if_neg (by simp [hfit]), get_set]
      by_cases h : key = []
      · rw [if_pos h, if_pos h, h]
      · rw [if_neg h, if_neg h]; omega
    · rw [if_neg h2, if_neg hk, if_neg h2]
      by_cases h4 : k = 4
      · rw [if_pos h4, if_pos h4]
        exact members_sum e.stream key e.tags E
      · rw [if_neg h4, if_neg h4]
        unfold countE
        rw [get_set]
        by_cases h : key = []
        · rw [if_pos h, if_pos h, h]
        · rw [if_neg h, if_neg h]; omega
  · rw [if_neg hm, if_neg hm]; simp
/-- How much an event adds at the empty key. -/
theorem adds_le {k : Int} (hk : k ≠ 3) (f : Str) (q : List Cl) (e : Ev) (hE : e.Good) : -1099511627776 ≤ adds k f q [] e ∧ adds k f q [] e ≤ 1099511627776 := by
  have hv := hE.val f
  have hsum : (e.tags.map fun t => if ([] : Str) = t ++ [32] ++ e.stream then (1 : Int) else 0).sum = 0 := by
    induction e.tags with
    | nil => rfl
    | cons t r ih => simp only [List.map_cons, List.sum_cons, ih]; simp
  unfold adds
  rw [hsum]
  split
  · split
    · simpa using hv
    · split
      · omega
      · simp
  · omega
theorem fold_adds {k : Int} (hk : k ≠ 3) (f : Str) (q : List Cl) : ∀ (L : List Ev) (E : Ents) (j : Nat), (∀ e ∈ L, e.Good) → Rising E → NoZero E → -(1099511627776 * (j : Int)) ≤ getE E [] ∧ getE E [] ≤ 1099511627776 * (j : Int) → j + L.length ≤ 40 →
    (∀ key, getE (L.foldl (fun E e => (stepE k f q E e).2) E) key = getE E key + (L.map (adds k f q key)).sum) ∧ Rising (L.foldl (fun E e => (stepE k f q E e).2) E) ∧ NoZero (L.foldl (fun E e => (stepE k f q E e).2) E) := by
  intro L
  induction L with
  | nil => intro E j _ h1 h2 _ _; exact ⟨fun key => by simp, h1, h2⟩
  | cons x r ih =>
    intro E j hL h1 h2 h3 h4
    simp only [List.foldl_cons, List.length_cons] at h4 ⊢
    have hx := hL x (by simp)
    have hst := fun key => step_adds hk f q E x key hx ⟨by omega, by omega⟩
    obtain ⟨k1, k2⟩ := step_keep hk f q x h1 h2
    have ha := adds_le hk f q x hx
    have h0 := hst []
    obtain ⟨r1, r2, r3⟩ := ih _ (j + 1) (fun e he => hL e (by simp [he])) k1 k2 ⟨by omega, by omega⟩ (by omega)
    refine ⟨fun key => ?_, r2, r3⟩
    rw [r1 key, hst key, List.map_cons, List.sum_cons]
    omega
theorem sum_rev (l : List Int) : l.reverse.sum = l.sum := by
  induction l with
  | nil => rfl
  | cons x r ih => rw [List.reverse_cons, List.sum_append, ih]; simp; omega
theorem fold_rev {k : Int} (hk : k ≠ 3) (f : Str) (q : List Cl) (L : List Ev) (hL : ∀ e ∈ L, e.Good) (hn : L.length ≤ 40) : foldE k f q L.reverse = foldE k f q L := by
  obtain ⟨a1, a2, a3⟩ := fold_adds hk f q L [] 0 hL List.Pairwise.nil (by simp [NoZero]) (by simp [getE, fieldOf]) (by omega)
  obtain ⟨b1, b2, b3⟩ := fold_adds hk f q L.reverse [] 0 (fun e he => hL e (by simpa using he)) List.Pairwise.nil (by simp [NoZero]) (by simp [getE, fieldOf]) (by simp; omega)
  refine ents_ext b2 a2 b3 a3 fun key => ?_
  show getE (L.reverse.foldl (fun E e => (stepE k f q E e).2) []) key = getE (L.foldl (fun E e => (stepE k f q E e).2) []) key
  rw [a1, b1, List.map_reverse, sum_rev]
theorem rev_at {L : List Ev} {i : Nat} (hi : i < L.length) : L.reverse[i]? = L[L.length - 1 - i]? := by
  rw [List.getElem?_reverse hi]
theorem step_skip {k : Int} {f : Str} {q : List Cl} {E : Ents} {e : Ev} (h : matchB q e = false) : (stepE k f q E e).2 = E := by
  unfold stepE
  rw [h]; rfl
end Go.Proofs.YtdonhmdeijidkaaGreat
