/-
  Plain facts: what a Count, a Sum and Members come to.
-/
import Derived.Test.YtdonhmdeijidkaaGreatLawC
namespace Go.Proofs.YtdonhmdeijidkaaGreat

/-- A text in which no byte is a space. -/
def NoSp (s : Str) : Prop := ∀ b ∈ s, b ≠ 32
theorem plain_ne {c : UInt8} (h : plainB c = true) : c ≠ 32 := by
  rintro rfl
  revert h
  decide
theorem two_ne {c d : UInt8} (h : two c d = true) : c ≠ 32 ∧ d ≠ 32 := by
  constructor
  · rintro rfl
    revert h
    simp [two]
  · rintro rfl
    revert h
    simp [two]
theorem letters_ne : ∀ s : Str, letters s = true → NoSp s
  | [], _ => fun b hb => by simp at hb
  | [c], h => fun b hb => by
    simp [letters] at h
    simp at hb
    subst hb
    exact plain_ne h
  | c :: d :: r, h => by
    unfold letters at h
    split at h
    · rename_i hp
      have ih := letters_ne (d :: r) h
      intro b hb
      rcases List.mem_cons.1 hb with rfl | hb
      · exact plain_ne hp
      · exact ih b hb
    · simp only [Bool.and_eq_true] at h
      have ih := letters_ne r h.2
      have ht := two_ne h.1
      intro b hb
      rcases List.mem_cons.1 hb with rfl | hb
      · exact ht.1
      · rcases List.mem_cons.1 hb with rfl | hb
        · exact ht.2
        · exact ih b hb
theorem may_sp {s : Str} (h : mayB s = true) : NoSp s := by
  unfold mayB at h
  simp only [Bool.and_eq_true] at h
  exact letters_ne s h.2
theorem tag_sp {s : Str} (h : tagB s = true) : NoSp s := by
  unfold tagB at h
  simp only [Bool.and_eq_true, decide_eq_true_eq] at h
  obtain ⟨h1, h2, h3⟩ := h
  have e : s = s.take (s.findIdx (· == 58)) ++ (s[s.findIdx (· == 58)] :: s.drop (s.findIdx (· == 58) + 1)) := by
    rw [← List.drop_eq_getElem_cons h1, List.take_append_drop]
  have hx : (s[s.findIdx (· == 58)] == 58) = true := List.findIdx_getElem (p := (· == 58)) (w := h1)
  intro b hb
  rw [e] at hb
  rcases List.mem_append.1 hb with hb | hb
  · exact may_sp h2 b hb
  · rcases List.mem_cons.1 hb with hb | hb
    · rw [← hb] at hx
      rintro rfl
      revert hx; decide
    · exact may_sp h3 b hb
/-- One space parts. -/
theorem one_space : ∀ {t s a b : Str}, NoSp t → NoSp s → (t ++ [32] ++ s = a ++ [32] ++ b ↔ t = a ∧ s = b)
  | [], s, [], b, _, _ => by simp
  | [], s, y :: a, b, _, hs => by
    constructor
    · intro h
      simp at h
      exact absurd rfl (hs 32 (by rw [h.2]; simp))
    · rintro ⟨h, _⟩; cases h
  | x :: t, s, [], b, ht, _ => by
    constructor
    · intro h
      simp at h
      exact absurd h.1 (ht x (by simp))
    · rintro ⟨h, _⟩; cases h
  | x :: t, s, y :: a, b, ht, hs => by
    have ih := one_space (t := t) (s := s) (a := a) (b := b) (fun z hz => ht z (by simp [hz])) hs
    simp only [List.cons_append, List.cons.injEq]
    constructor
    · rintro ⟨h1, h2⟩
      obtain ⟨h3, h4⟩ := ih.1 h2
      exact ⟨⟨h1, h3⟩, h4⟩
    · rintro ⟨⟨h1, h3⟩, h4⟩
      exact ⟨h1, ih.2 ⟨h3, h4⟩⟩
theorem rise_pairs : ∀ {l : List Str}, riseB l = true → l.Pairwise fun a b => Op.bytesLess a b = true
  | [], _ => List.Pairwise.nil
  | [a], _ => List.pairwise_singleton _ _
  | a :: b :: r, h => by
    unfold riseB at h
    simp only [Bool.and_eq_true] at h
    have ih := rise_pairs (l := b :: r) h.2
    refine List.pairwise_cons.2 ⟨fun y hy => ?_, ih⟩
    rcases List.mem_cons.1 hy with rfl | hy
    · exact h.1
    · exact less_trans h.1 ((List.pairwise_cons.1 ih).1 y hy)

/-- What 'may' tells of names. -/
def Ev.Named (e : Ev) : Prop := NoSp e.stream ∧ (∀ t ∈ e.tags, NoSp t) ∧ e.tags.Nodup
theorem may_named {e : Ev} (h : mayE e = true) : e.Named := by
  have h0 : evMay e = 0 := by simpa [mayE] using h
  unfold evMay at h0
  split at h0
  · omega
  · rename_i h1
    split at h0
    · omega
    · split at h0
      · omega
      · split at h0
        · omega
        · rename_i h2
          split at h0
          · omega
          · rename_i h3
            have m1 : mayB e.stream = true := by
              cases hc : mayB e.stream
              · exact absurd (.inl hc) h1
              · rfl
            have m2 : e.tags.all tagB = true := by
              cases hc : e.tags.all tagB
              · exact absurd hc h2
              · rfl
            have m3 : riseB e.tags = true := by
              cases hc : riseB e.tags
              · exact absurd (.inr (.inl hc)) h3
              · rfl
            exact ⟨may_sp m1, fun t ht => tag_sp (List.all_eq_true.1 m2 t ht), (rise_pairs m3).imp fun hab => less_ne hab⟩
theorem few_named (l : List Ev) : ∀ e ∈ fewE l, e.Named := by
  intro e he
  unfold fewE at he
  exact may_named (List.mem_filter.1 he).2

theorem get_set (b : Bool) (E : Ents) (k k' : Str) (n : Int) : getE (setE b E k n) k' = if k' = k then n else getE E k' := by
  unfold setE
  split
  · rename_i h
    rw [get_del, h.1]
  · rw [get_put]

theorem fold_count (L : List Ev) : getE (foldE 1 [] allQ L) [] = L.length := by
  have key : ∀ (L : List Ev) (E : Ents), getE (L.foldl (fun E e => (stepE 1 [] allQ E e).2) E) [] = getE E [] + L.length := by
    intro L
    induction L with
    | nil => intro E; simp
    | cons x r ih =>
      intro E
      simp only [List.foldl_cons, List.length_cons]
      rw [ih]
      have e1 : (stepE 1 [] allQ E x).2 = countE E := by unfold stepE kindE; simp [all_match]
      rw [e1]
      unfold countE
      rw [get_set]
      simp
      omega
  have := key L []
  simp only [foldE, this]
  simp [getE, fieldOf]

/-- The numbers of field f, all in all. -/
def sumN (f : Str) (L : List Ev) : Int := L.foldl (fun n e => n + (fieldOf e.flds f).getD 0) 0
theorem sumN_succ {f : Str} {L : List Ev} {i : Nat} {x : Ev} (hx : L[i]? = some x) : sumN f (L.take (i + 1)) = sumN f (L.take i) + (fieldOf x.flds f).getD 0 := take_fold hx
theorem fold_sum_from (f : Str) : ∀ (L : List Ev) (E : Ents) (n : Int) (j : Nat), (∀ e ∈ L, e.Good) → getE E [] = n → -(1099511627776 * (j : Int)) ≤ n ∧ n ≤ 1099511627776 * (j : Int) → j + L.length ≤ 1000 →
    getE (L.foldl (fun E e => (stepE 2 f allQ E e).2) E) [] = L.foldl (fun n e => n + (fieldOf e.flds f).getD 0) n ∧
    -(1099511627776 * ((j + L.length : Nat) : Int)) ≤ L.foldl (fun n e => n + (fieldOf e.flds f).getD 0) n ∧ L.foldl (fun n e => n + (fieldOf e.flds f).getD 0) n ≤ 1099511627776 * ((j + L.length : Nat) : Int) := by
  intro L
  induction L with
  | nil => intro E n j _ h1 h2 _; exact ⟨h1, by simpa using h2⟩
  | cons x r ih =>
    intro E n j hL h1 h2 h3
    simp only [List.foldl_cons, List.length_cons] at h3 ⊢
    have hv := (hL x (by simp)).val f
    rw [show j + (r.length + 1) = j + 1 + r.length by omega]
    refine ih _ _ (j + 1) (fun e he => hL e (by simp [he])) ?_ (by omega) (by omega)
    have e1 : (stepE 2 f allQ E x).2 = (sumE f E x).2 := by unfold stepE kindE; simp [all_match]
    rw [e1]
    unfold sumE
    simp only
    rw [h1]
    have hfit : fitsB (n + (fieldOf x.flds f).getD 0) = true := by
      unfold fitsB
      rw [decide_eq_true (by omega), decide_eq_true (by omega)]; rfl
    rw [if_neg (by simp [hfit]), get_set]
    simp
theorem fold_sum (f : Str) (L : List Ev) (hL : ∀ e ∈ L, e.Good) (hn : L.length ≤ 40) : getE (foldE 2 f allQ L) [] = sumN f L :=
  (fold_sum_from f L [] 0 0 hL rfl (by omega) (by omega)).1
theorem sumN_le (f : Str) (L : List Ev) (hL : ∀ e ∈ L, e.Good) (hn : L.length ≤ 40) : -43980465111040 ≤ sumN f L ∧ sumN f L ≤ 43980465111040 := by
  have := (fold_sum_from f L [] 0 0 hL rfl (by omega) (by omega)).2
  unfold sumN
  omega

/-- How many events of that stream have that tag. -/
def manyN (a b : Str) (L : List Ev) : Int := L.foldl (fun n e => if (e.tags.any (· == a)) = true ∧ e.stream = b then n + 1 else n) 0
theorem manyN_succ {a b : Str} {L : List Ev} {i : Nat} {x : Ev} (hx : L[i]? = some x) : manyN a b (L.take (i + 1)) = if (x.tags.any (· == a)) = true ∧ x.stream = b then manyN a b (L.take i) + 1 else manyN a b (L.take i) := take_fold hx
theorem manyN_le (a b : Str) (L : List Ev) : 0 ≤ manyN a b L ∧ manyN a b L ≤ L.length := by
  have key : ∀ (L : List Ev) (n : Int), n ≤ L.foldl (fun n e => if (e.tags.any (· == a)) = true ∧ e.stream = b then n + 1 else n) n ∧ L.foldl (fun n e => if (e.tags.any (· == a)) = true ∧ e.stream = b then n + 1 else n) n ≤ n + L.length := by
    intro L
    induction L with
    | nil => intro n; simp
    | cons x r ih =>
      intro n
      simp only [List.foldl_cons, List.length_cons]
      split
      · have := ih (n + 1); omega
      · have := ih n; omega
  have := key L 0
  unfold manyN
  omega
theorem members_get {s : Str} (hs : NoSp s) (a b : Str) : ∀ (l : List Str) (E : Ents), (∀ t ∈ l, NoSp t) → l.Nodup → getE (l.foldl (memberE s) E) (a ++ [32] ++ b) = getE E (a ++ [32] ++ b) + (if a ∈ l ∧ s = b then 1 else 0) := by
  intro l
  induction l with
  | nil => intro E _ _; simp
  | cons t r ih =>
    intro E ht hn
    obtain ⟨hn1, hn2⟩ := List.nodup_cons.1 hn
    simp only [List.foldl_cons]
    rw [ih _ (fun y hy => ht y (by simp [hy])) hn2]
    unfold memberE
    rw [get_set]
    have hone := one_space (a := a) (b := b) (ht t (by simp)) hs
    by_cases hk : a ++ [32] ++ b = t ++ [32] ++ s
    · obtain ⟨rfl, rfl⟩ := hone.1 hk.symm
      rw [if_pos rfl, if_neg (by rintro ⟨h, _⟩; exact hn1 h), if_pos ⟨by simp, rfl⟩]
      omega
    · rw [if_neg hk]
      congr 1
      have hne : ¬ (t = a ∧ s = b) := fun h => hk (hone.2 h).symm
      by_cases hsb : s = b
      · have hta : t ≠ a := fun h => hne ⟨h, hsb⟩
        have : (a ∈ t :: r) ↔ a ∈ r := by
          simp
          intro h; exact absurd h.symm hta
        simp only [this]
      · simp [hsb]
theorem fold_many (a b : Str) (L : List Ev) (hL : ∀ e ∈ L, e.Named) : getE (foldE 4 [] allQ L) (a ++ [32] ++ b) = manyN a b L := by
  have key : ∀ (L : List Ev) (E : Ents) (n : Int), (∀ e ∈ L, e.Named) → getE E (a ++ [32] ++ b) = n → getE (L.foldl (fun E e => (stepE 4 [] allQ E e).2) E) (a ++ [32] ++ b) = L.foldl (fun n e => if (e.tags.any (· == a)) = true ∧ e.stream = b then n + 1 else n) n := by
    intro L
    induction L with
    | nil => intro E n _ h; exact h
    | cons x r ih =>
      intro E n hL h
      simp only [List.foldl_cons]
      refine ih _ _ (fun e he => hL e (by simp [he])) ?_
      have e1 : (stepE 4 [] allQ E x).2 = membersE E x := by unfold stepE kindE; simp [all_match]
      obtain ⟨h1, h2, h3⟩ := hL x (by simp)
      rw [e1]
      unfold membersE
      rw [members_get h1 a b x.tags E h2 h3, h]
      have hany : (x.tags.any (· == a)) = true ↔ a ∈ x.tags := by simp
      by_cases hc : a ∈ x.tags ∧ x.stream = b
      · rw [if_pos hc, if_pos ⟨hany.2 hc.1, hc.2⟩]
      · rw [if_neg hc, if_neg (fun h => hc ⟨hany.1 h.1, h.2⟩)]
        omega
  exact key L [] 0 hL rfl
end Go.Proofs.YtdonhmdeijidkaaGreat
