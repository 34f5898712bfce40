/-
  Entries: rows by rising keys; a map in memory that holds them.
-/
import Derived.Test.YtdonhmdeijidkaaGreatOrd
import Derived.Test.YtdonhmdeijidkaaGreatProg
import Derived.Maps.OwnSet
import Derived.Maps.Views
import Derived.WalkSpells
namespace Go.Proofs.YtdonhmdeijidkaaGreat
open Go.RowKit Go.Maps

/-- Entries: keys and numbers. -/
abbrev Ents := List (Str × Int)
def getE (E : Ents) (k : Str) : Int := (fieldOf E k).getD 0
def putE : Ents → Str → Int → Ents
  | [], k, n => [(k, n)]
  | x :: r, k, n => if Op.bytesLess k x.1 then (k, n) :: x :: r else if k = x.1 then (k, n) :: r else x :: putE r k n
def delE (E : Ents) (k : Str) : Ents := E.filter fun x => !(x.1 == k)
def Rising (E : Ents) : Prop := E.Pairwise fun a b => Op.bytesLess a.1 b.1 = true

theorem before_eq : ∀ a b : Str, bytesBefore a b = Op.bytesLess a b
  | [], [] => rfl
  | [], _ :: _ => rfl
  | _ :: _, [] => rfl
  | a :: x, b :: y => by simp [bytesBefore, Op.bytesLess, before_eq x y]

/-- An entry as the reader of maps has it. -/
def dE (x : Str × Int) : Lit × DataW Unit := (.string x.1, .lit (.int .i64 x.2))
def toD (E : Ents) : DataW Unit := .map (E.map dE)

theorem same_key (a b : Str) : (Lit.string a).sameKey (.string b) = (a == b) := rfl
theorem toD_at (E : Ents) (k : Str) : (toD E).atKey (.string k) (.lit (.int .i64 0)) = .lit (.int .i64 (getE E k)) := by
  unfold toD DataW.atKey getE fieldOf
  simp only
  rw [List.find?_map]
  have e : ((fun p : Lit × DataW Unit => p.1.sameKey (.string k)) ∘ dE) = fun x : Str × Int => x.1 == k := by funext x; rfl
  rw [e]
  cases E.find? (fun x => x.1 == k) <;> rfl
theorem toD_del (E : Ents) (k : Str) : (toD E).del (.string k) = toD (delE E k) := by
  unfold toD DataW.del delE
  simp only
  rw [List.filter_map]
  rfl
theorem Rising.tail {x : Str × Int} {r : Ents} (h : Rising (x :: r)) : Rising r := (List.pairwise_cons.1 h).2
theorem Rising.head {x : Str × Int} {r : Ents} (h : Rising (x :: r)) : ∀ y ∈ r, Op.bytesLess x.1 y.1 = true := (List.pairwise_cons.1 h).1
theorem filter_id {E : Ents} {k : Str} (h : ∀ y ∈ E, y.1 ≠ k) : delE E k = E := by
  unfold delE
  rw [List.filter_eq_self]
  intro y hy
  simpa using h y hy
theorem insert_put {E : Ents} (h : Rising E) (k : Str) (n : Int) : DataW.insert (dE (k, n)) ((delE E k).map dE) = (putE E k n).map dE := by
  induction E with
  | nil => rfl
  | cons x r ih =>
    have ht := h.tail
    have hh := h.head
    unfold putE
    by_cases h1 : Op.bytesLess k x.1 = true
    · rw [if_pos h1]
      have hd : delE (x :: r) k = x :: r := filter_id (by
        intro y hy
        rcases List.mem_cons.1 hy with rfl | hy
        · exact (less_ne h1).symm
        · exact (less_ne (less_trans h1 (hh y hy))).symm)
      rw [hd]
      simp [DataW.insert, dE, Lit.before, before_eq, h1]
    · rw [if_neg h1]
      by_cases h2 : k = x.1
      · rw [if_pos h2]
        have hd : delE (x :: r) k = r := by
          have : delE (x :: r) k = delE r k := by simp [delE, h2]
          rw [this]
          exact filter_id fun y hy => by rw [h2]; exact (less_ne (hh y hy)).symm
        rw [hd]
        cases r with
        | nil => rfl
        | cons y r =>
          have hy := hh y (by simp)
          simp [DataW.insert, dE, Lit.before, before_eq, h2, hy]
      · rw [if_neg h2]
        have hd : delE (x :: r) k = x :: delE r k := by
          have : (x.1 == k) = false := by simpa using fun e => h2 e.symm
          simp [delE, this]
        rw [hd]
        have hb : (dE (k, n)).1.before (dE x).1 = false := by
          show bytesBefore k x.1 = false
          rw [before_eq]; simpa using h1
        simp only [List.map_cons, DataW.insert, hb, Bool.false_eq_true, if_false, ih ht]
theorem toD_put {E : Ents} (h : Rising E) (k : Str) (n : Int) : (toD E).put (.string k) (.lit (.int .i64 n)) = toD (putE E k n) := by
  unfold toD DataW.put
  simp only
  rw [List.filter_map]
  have e : ((fun p : Lit × DataW Unit => !p.1.sameKey (.string k)) ∘ dE) = fun x : Str × Int => !(x.1 == k) := by funext x; rfl
  rw [e]
  exact congrArg DataW.map (insert_put h k n)
theorem toD_inj {E E' : Ents} (h : toD E = toD E') : E = E' := by
  unfold toD at h
  injection h with h
  refine (List.map_inj_right (f := dE) fun x y e => ?_).1 h
  obtain ⟨a, b⟩ := x
  obtain ⟨c, d⟩ := y
  simp only [dE, Prod.mk.injEq] at e
  obtain ⟨e1, e2⟩ := e
  injection e1 with e1
  injection e2 with e2
  injection e2 with _ e2
  rw [e1, e2]

theorem mem_putE {E : Ents} {k : Str} {n : Int} {y : Str × Int} (h : y ∈ putE E k n) : y = (k, n) ∨ y ∈ E := by
  induction E with
  | nil => simp [putE] at h; exact .inl h
  | cons x r ih =>
    unfold putE at h
    split at h
    · simp at h; simpa using h
    · split at h
      · simp at h; rcases h with h | h
        · exact .inl h
        · exact .inr (by simp [h])
      · simp at h; rcases h with h | h
        · exact .inr (by simp [h])
        · rcases ih h with h | h
          · exact .inl h
          · exact .inr (by simp [h])
theorem Rising.put {E : Ents} (h : Rising E) (k : Str) (n : Int) : Rising (putE E k n) := by
  induction E with
  | nil => simp [putE, Rising]
  | cons x r ih =>
    unfold putE
    split
    · rename_i h1
      refine List.pairwise_cons.2 ⟨fun y hy => ?_, h⟩
      rcases List.mem_cons.1 hy with rfl | hy
      · exact h1
      · exact less_trans h1 (h.head y hy)
    · rename_i h1
      split
      · rename_i h2
        exact List.pairwise_cons.2 ⟨fun y hy => by rw [h2]; exact h.head y hy, h.tail⟩
      · rename_i h2
        refine List.pairwise_cons.2 ⟨fun y hy => ?_, ih h.tail⟩
        rcases mem_putE hy with rfl | hy
        · exact less_of (by simpa using h1) (fun e => h2 e.symm)
        · exact h.head y hy
theorem Rising.del {E : Ents} (h : Rising E) (k : Str) : Rising (delE E k) := h.filter _
theorem length_putE (E : Ents) (k : Str) (n : Int) : (putE E k n).length ≤ E.length + 1 := by
  induction E with
  | nil => simp [putE]
  | cons x r ih =>
    unfold putE
    split
    · simp
    · split
      · simp
      · simp; omega
theorem length_delE (E : Ents) (k : Str) : (delE E k).length ≤ E.length := List.length_filter_le _ _
theorem getE_cons (x : Str × Int) (r : Ents) (k : Str) : getE (x :: r) k = if k = x.1 then x.2 else getE r k := by
  unfold getE fieldOf
  by_cases h : k = x.1
  · simp [h]
  · have : (x.1 == k) = false := by simpa using fun e => h e.symm
    simp [this, h]
theorem get_put (E : Ents) (k k' : Str) (n : Int) : getE (putE E k n) k' = if k' = k then n else getE E k' := by
  induction E with
  | nil => simp only [putE, getE_cons]
  | cons x r ih =>
    unfold putE
    split
    · rw [getE_cons]
    · split
      · rename_i h2
        rw [getE_cons, getE_cons]
        by_cases h : k' = k
        · simp [h]
        · have : k' ≠ x.1 := by rw [← h2]; exact h
          simp [h, this]
      · rename_i h2
        rw [getE_cons, getE_cons, ih]
        by_cases h : k' = x.1
        · have : k' ≠ k := fun e => h2 (e.symm.trans h)
          simp [h]
          intro e; exact absurd e.symm h2
        · simp [h]
theorem get_del (E : Ents) (k k' : Str) : getE (delE E k) k' = if k' = k then 0 else getE E k' := by
  induction E with
  | nil => simp [delE, getE, fieldOf]
  | cons x r ih =>
    by_cases h : x.1 = k
    · have e : delE (x :: r) k = delE r k := by simp [delE, h]
      rw [e, ih, getE_cons, h]
      by_cases h' : k' = k <;> simp [h']
    · have hb : (x.1 == k) = false := by simpa using h
      have e : delE (x :: r) k = x :: delE r k := by simp [delE, hb]
      rw [e, getE_cons, getE_cons, ih]
      by_cases h' : k' = x.1
      · have : k' ≠ k := fun e => h (h' ▸ e)
        simp [h']
        intro e; exact absurd e h
      · simp [h']
/-- Rows by rising keys that tell the same are the same. -/
theorem Rising.get_mem {E : Ents} (h : Rising E) {x : Str × Int} (hx : x ∈ E) : fieldOf E x.1 = some x.2 := by
  induction E with
  | nil => cases hx
  | cons y r ih =>
    rcases List.mem_cons.1 hx with rfl | hx
    · simp [fieldOf]
    · have hne : (y.1 == x.1) = false := by simpa using less_ne (h.head x hx)
      have := ih h.tail hx
      unfold fieldOf at this ⊢
      simp only [List.find?_cons, hne]
      exact this
theorem Rising.ext {E F : Ents} (hE : Rising E) (hF : Rising F) (h : ∀ x, x ∈ E ↔ x ∈ F) : E = F := by
  induction E generalizing F with
  | nil =>
    cases F with
    | nil => rfl
    | cons y s => exact absurd ((h y).2 (by simp)) (by simp)
  | cons x r ih =>
    cases F with
    | nil => exact absurd ((h x).1 (by simp)) (by simp)
    | cons y s =>
      have hxy : x = y := by
        rcases List.mem_cons.1 ((h x).1 (by simp)) with e | e
        · exact e
        · rcases List.mem_cons.1 ((h y).2 (by simp)) with e2 | e2
          · exact e2.symm
          · have := less_trans (hF.head x e) (hE.head y e2)
            rw [less_irrefl] at this; cases this
      subst hxy
      congr 1
      refine ih hE.tail hF.tail fun z => ?_
      have hz := h z
      simp only [List.mem_cons] at hz
      constructor
      · intro hr
        rcases hz.1 (.inr hr) with rfl | h2
        · have := hE.head _ hr
          rw [less_irrefl] at this; cases this
        · exact h2
      · intro hr
        rcases hz.2 (.inr hr) with rfl | h2
        · have := hF.head _ hr
          rw [less_irrefl] at this; cases this
        · exact h2

/-- Block mb is a map that holds E. -/
def MapIs (w : World) (mb : Nat) (E : Ents) : Prop := w.ownsMap Tryz.prog 9 (plainElem Tryz.prog 3) mb E.length (toD E) ∧ Rising E ∧ ∀ x ∈ E, (Lit.int .i64 x.2).wf = true

theorem own_exact {w : World} {mb n : Nat} {E : Ents} (h : w.ownsMap Tryz.prog 9 (plainElem Tryz.prog 3) mb n (toD E)) : w.ownsMap Tryz.prog 9 (plainElem Tryz.prog 3) mb E.length (toD E) := by
  obtain ⟨es, clock, hb, F, _, hD⟩ := h
  refine ⟨es, clock, hb, F, ?_, hD⟩
  unfold toD at hD
  injection hD with hD
  have := congrArg List.length hD
  rw [length_sorted] at this
  simp at this
  omega
theorem MapIs.made (w : World) : MapIs (w.alloc (.map #[] 0)) w.heap.size [] := ⟨World.ownsMap_made _ _ _ _, List.Pairwise.nil, by simp⟩
theorem MapIs.lt {w : World} {mb : Nat} {E : Ents} (h : MapIs w mb E) : mb < w.heap.size := h.1.lt
theorem MapIs.obj {w : World} {mb : Nat} {E : Ents} (h : MapIs w mb E) : ∃ es clock, w.heap[mb]? = some (.map es clock) := by
  obtain ⟨es, clock, hb, _⟩ := h.1
  exact ⟨es, clock, hb⟩
theorem MapIs.over {w w' : World} {mb : Nat} {E : Ents} (h : MapIs w mb E) (hb : w'.heap[mb]? = w.heap[mb]?) : MapIs w' mb E := by
  obtain ⟨⟨es, clock, h1, F, h2, h3⟩, h4⟩ := h
  exact ⟨⟨es, clock, hb.trans h1, F, h2, h3⟩, h4⟩
theorem MapIs.below {w w' : World} {mb : Nat} {E : Ents} (h : MapIs w mb E) (hb : Below w.heap.size w w') : MapIs w' mb E := h.over (hb.block mb h.lt)
theorem MapIs.wf_get {w : World} {mb : Nat} {E : Ents} (h : MapIs w mb E) (k : Str) : (Lit.int .i64 (getE E k)).wf = true := by
  unfold getE fieldOf
  cases hf : E.find? (fun x => x.1 == k) with
  | none => decide
  | some x => exact h.2.2 x (List.mem_of_find?_eq_some hf)
theorem str_size (k : Str) : (ByteArray.mk k.toArray).size = k.length := by simp [ByteArray.size]
theorem key_ok {k : Str} (hk : k.length ≤ maxLen) : keyOf Tryz.prog 9 (vS k) = some (.string k) := by
  have h : (ByteArray.mk k.toArray).size ≤ maxLen := by rw [str_size]; exact hk
  exact WideMaps.keyOf_string_mk (P := Tryz.prog) Tryz.underlying9 (s := ⟨k.toArray⟩) h
theorem zero_int (w : World) : (zeroValue 3).run Tryz.prog w = .ok (.int .i64 0) w := Tryz.zeroValue3 w
set_option maxRecDepth 100000 in
/-- m[k]. -/
theorem MapIs.look {w : World} {mb : Nat} {E : Ents} (h : MapIs w mb E) {k : Str} (hk : k.length ≤ maxLen) :
    (Instr.lookup 98 (.map (some mb)) (vS k) false).run Tryz.prog w = .ok (.int .i64 (getE E k)) w := by
  obtain ⟨c, hrun, hat, _⟩ := h.1.lookup_int (string_keyed Tryz.underlying9) Tryz.underlying98 Tryz.underlying3 (zero_int w) (key_ok hk)
  rw [toD_at] at hat
  injection hat with hat
  injection hat with _ hat
  rw [hrun, hat]
end Go.Proofs.YtdonhmdeijidkaaGreat
