/-
  What lies in memory: texts, rows of texts, fields, events, clauses, as plain lists. No program is named here.
-/
import Derived.WalkKit
import Derived.OwnWalk
import Derived.Laws.OwnMore
import Derived.Deep.AppendLies
import Derived.Deep.Draws
import Derived.Laws.Rows
import Derived.Maps.AppendAt
import Derived.Lib.Hide
namespace Go.Proofs.YtdonhmdeijidkaaGreat
open Go.RowKit

/-- A text. -/
abbrev Str := List UInt8
abbrev vS (l : Str) : Value := .string ⟨l.toArray⟩
/-- A field: a name and a number. -/
abbrev Fld := Str × Int

def Strs (w : World) (B : Nat) (A : Option Addr) (l : List Str) : Prop :=
  l ≠ [] → ∃ b off, A = some ⟨b, off, none⟩ ∧ b < B ∧ ∀ k s, l[k]? = some s → w.cell? ⟨b, off + k, none⟩ = some (vS s)
def Flds (w : World) (B : Nat) (A : Option Addr) (l : List Fld) : Prop :=
  l ≠ [] → ∃ b off, A = some ⟨b, off, none⟩ ∧ b < B ∧ ∀ k x, l[k]? = some x → w.cell? ⟨b, off + k * 2, none⟩ = some (vS x.1) ∧ w.cell? ⟨b, off + k * 2 + 1, none⟩ = some (.int .i64 x.2)

theorem take_rest (s : Str) (a : Nat) : (s.drop a).take (s.length - a) = s.drop a := List.take_of_length_le (by simp)
theorem take_rest1 (s : Str) (a : Nat) : (s.drop (a + 1)).take (s.length - (a + 1)) = s.drop (a + 1) := take_rest s (a + 1)

/-- An event. -/
structure Ev where
  stream : Str
  typ : Str
  tags : List Str
  flds : List Fld
instance : Inhabited Ev := ⟨⟨[], [], [], []⟩⟩

/-- A clause; a query is a row of clauses. -/
structure Cl where
  tags : List Str
  types : List Str
instance : Inhabited Cl := ⟨⟨[], []⟩⟩

def Evts (w : World) (B : Nat) (A : Option Addr) (l : List Ev) : Prop :=
  l ≠ [] → ∃ b off, A = some ⟨b, off, none⟩ ∧ b < B ∧ ∀ k e, l[k]? = some e → ∃ tA tc fA fc,
    w.cell? ⟨b, off + k * 4, none⟩ = some (vS e.stream) ∧ w.cell? ⟨b, off + k * 4 + 1, none⟩ = some (vS e.typ) ∧
    w.cell? ⟨b, off + k * 4 + 2, none⟩ = some (.slice tA e.tags.length tc) ∧ w.cell? ⟨b, off + k * 4 + 3, none⟩ = some (.slice fA e.flds.length fc) ∧
    Strs w B tA e.tags ∧ Flds w B fA e.flds
def Cls (w : World) (B : Nat) (A : Option Addr) (l : List Cl) : Prop :=
  l ≠ [] → ∃ b off, A = some ⟨b, off, none⟩ ∧ b < B ∧ ∀ k c, l[k]? = some c → ∃ tA tc yA yc,
    w.cell? ⟨b, off + k * 2, none⟩ = some (.slice tA c.tags.length tc) ∧ w.cell? ⟨b, off + k * 2 + 1, none⟩ = some (.slice yA c.types.length yc) ∧
    Strs w B tA c.tags ∧ Strs w B yA c.types

/-- Whatever lies below B reads in w' as in w. -/
def Same (B : Nat) (w w' : World) : Prop := ∀ b o, b < B → w'.cell? ⟨b, o, none⟩ = w.cell? ⟨b, o, none⟩
theorem Same.refl (B : Nat) (w : World) : Same B w w := fun _ _ _ => rfl
theorem Same.trans {B : Nat} {a b c : World} (h : Same B a b) (k : Same B b c) : Same B a c := fun x o hx => (k x o hx).trans (h x o hx)
theorem Same.mono {B B' : Nat} {a b : World} (h : Same B a b) (hB : B' ≤ B) : Same B' a b := fun x o hx => h x o (Nat.lt_of_lt_of_le hx hB)
theorem same_below {B : Nat} {w w' : World} (h : Below B w w') : Same B w w' := fun b o hb => h.cell (p := ⟨b, o, none⟩) hb
theorem same_alloc (w : World) (o : Obj) : Same w.heap.size w (w.alloc o) := fun b i hb => World.cell?_alloc_lt w o ⟨b, i, none⟩ hb

theorem Strs.same {w w' : World} {B : Nat} {A : Option Addr} {l : List Str} (h : Strs w B A l) (hb : Same B w w') : Strs w' B A l := fun hl => by
  obtain ⟨b, off, e, hlt, hc⟩ := h hl
  exact ⟨b, off, e, hlt, fun k s hs => (hb _ _ hlt).trans (hc k s hs)⟩
theorem Flds.same {w w' : World} {B : Nat} {A : Option Addr} {l : List Fld} (h : Flds w B A l) (hb : Same B w w') : Flds w' B A l := fun hl => by
  obtain ⟨b, off, e, hlt, hc⟩ := h hl
  exact ⟨b, off, e, hlt, fun k s hs => ⟨(hb _ _ hlt).trans (hc k s hs).1, (hb _ _ hlt).trans (hc k s hs).2⟩⟩
theorem Evts.same {w w' : World} {B : Nat} {A : Option Addr} {l : List Ev} (h : Evts w B A l) (hb : Same B w w') : Evts w' B A l := fun hl => by
  obtain ⟨b, off, e, hlt, hc⟩ := h hl
  refine ⟨b, off, e, hlt, fun k s hs => ?_⟩
  obtain ⟨tA, tc, fA, fc, h1, h2, h3, h4, h5, h6⟩ := hc k s hs
  exact ⟨tA, tc, fA, fc, (hb _ _ hlt).trans h1, (hb _ _ hlt).trans h2, (hb _ _ hlt).trans h3, (hb _ _ hlt).trans h4, h5.same hb, h6.same hb⟩
theorem Cls.same {w w' : World} {B : Nat} {A : Option Addr} {l : List Cl} (h : Cls w B A l) (hb : Same B w w') : Cls w' B A l := fun hl => by
  obtain ⟨b, off, e, hlt, hc⟩ := h hl
  refine ⟨b, off, e, hlt, fun k s hs => ?_⟩
  obtain ⟨tA, tc, fA, fc, h1, h2, h3, h4⟩ := hc k s hs
  exact ⟨tA, tc, fA, fc, (hb _ _ hlt).trans h1, (hb _ _ hlt).trans h2, h3.same hb, h4.same hb⟩
theorem Strs.more {w : World} {B B' : Nat} {A : Option Addr} {l : List Str} (h : Strs w B A l) (hB : B ≤ B') : Strs w B' A l := fun hl => by
  obtain ⟨b, off, e, hlt, hc⟩ := h hl
  exact ⟨b, off, e, Nat.lt_of_lt_of_le hlt hB, hc⟩
theorem Flds.more {w : World} {B B' : Nat} {A : Option Addr} {l : List Fld} (h : Flds w B A l) (hB : B ≤ B') : Flds w B' A l := fun hl => by
  obtain ⟨b, off, e, hlt, hc⟩ := h hl
  exact ⟨b, off, e, Nat.lt_of_lt_of_le hlt hB, hc⟩
theorem Evts.more {w : World} {B B' : Nat} {A : Option Addr} {l : List Ev} (h : Evts w B A l) (hB : B ≤ B') : Evts w B' A l := fun hl => by
  obtain ⟨b, off, e, hlt, hc⟩ := h hl
  refine ⟨b, off, e, Nat.lt_of_lt_of_le hlt hB, fun k s hs => ?_⟩
  obtain ⟨tA, tc, fA, fc, h1, h2, h3, h4, h5, h6⟩ := hc k s hs
  exact ⟨tA, tc, fA, fc, h1, h2, h3, h4, h5.more hB, h6.more hB⟩
theorem Cls.more {w : World} {B B' : Nat} {A : Option Addr} {l : List Cl} (h : Cls w B A l) (hB : B ≤ B') : Cls w B' A l := fun hl => by
  obtain ⟨b, off, e, hlt, hc⟩ := h hl
  refine ⟨b, off, e, Nat.lt_of_lt_of_le hlt hB, fun k s hs => ?_⟩
  obtain ⟨tA, tc, fA, fc, h1, h2, h3, h4⟩ := hc k s hs
  exact ⟨tA, tc, fA, fc, h1, h2, h3.more hB, h4.more hB⟩

/-- Block g is just these cells, none frozen. -/
def Blk (w : World) (g : Nat) (t : TypeId) (cs : Array Value) : Prop := w.heap[g]? = some (.cells cs t (0, 0))
section
variable {w w' : World} {g : Nat} {t : TypeId} {cs : Array Value}
theorem Blk.lt (h : Blk w g t cs) : g < w.heap.size := by
  rcases Nat.lt_or_ge g w.heap.size with hlt | hge
  · exact hlt
  · unfold Blk at h; rw [Array.getElem?_eq_none hge] at h; cases h
theorem Blk.cell (h : Blk w g t cs) (i : Nat) : w.cell? ⟨g, i, none⟩ = cs[i]? := cell_of_row w g i cs t (0, 0) h
theorem Blk.frozen (h : Blk w g t cs) (i : Nat) : w.frozen? ⟨g, i, none⟩ = false := by
  unfold Blk at h
  simp [World.frozen?, h]
theorem Blk.new (w : World) (t : TypeId) (cs : Array Value) : Blk (w.alloc (.cells cs t)) w.heap.size t cs := heap_alloc_new w _
theorem Blk.drew (h : Blk w g t cs) : Blk w.drew g t cs := h
theorem Blk.drewN (h : Blk w g t cs) (n : Nat) : Blk (w.drewN n) g t cs := h
theorem Blk.alloc (h : Blk w g t cs) (o : Obj) : Blk (w.alloc o) g t cs := (Below.heap_alloc w o g h.lt).trans h
theorem Blk.set_ (h : Blk w g t cs) (i : Nat) (u : Value) : Blk (w.setCell ⟨g, i, none⟩ u) g t (cs.setIfInBounds i u) := by
  unfold Blk at h ⊢
  simp [World.setCell, Array.getElem?_modify, h]
theorem Blk.far (h : Blk w g t cs) {p : Addr} (hp : g ≠ p.block) (u : Value) : Blk (w.setCell p u) g t cs := (Below.heap_setCell w p u g hp).trans h
theorem Blk.below {B : Nat} (h : Blk w g t cs) (hb : Below B w w') (hg : g < B) : Blk w' g t cs := (hb.block g hg).trans h
theorem Blk.grown {row : Option Nat} (h : Blk w g t cs) (hb : w.grownBy w' row) (hg : some g ≠ row) : Blk w' g t cs := (hb.block g h.lt hg).trans h
/-- What lies in w stays as it lay where nothing that was there turned. -/
theorem Blk.kept (h : Blk w g t cs) (hb : Below w.heap.size w w') : Blk w' g t cs := h.below hb h.lt
theorem Blk.four {a b c d : Value} (h : Blk w g t #[a, b, c, d]) : w.cell? ⟨g, 0, none⟩ = some a ∧ w.cell? ⟨g, 1, none⟩ = some b ∧ w.cell? ⟨g, 2, none⟩ = some c ∧ w.cell? ⟨g, 3, none⟩ = some d :=
  ⟨h.cell 0, h.cell 1, h.cell 2, h.cell 3⟩
theorem Blk.three {a b c : Value} (h : Blk w g t #[a, b, c]) : w.cell? ⟨g, 0, none⟩ = some a ∧ w.cell? ⟨g, 1, none⟩ = some b ∧ w.cell? ⟨g, 2, none⟩ = some c :=
  ⟨h.cell 0, h.cell 1, h.cell 2⟩
theorem Blk.two {a b : Value} (h : Blk w g t #[a, b]) : w.cell? ⟨g, 0, none⟩ = some a ∧ w.cell? ⟨g, 1, none⟩ = some b := ⟨h.cell 0, h.cell 1⟩
theorem Blk.one {a : Value} (h : Blk w g t #[a]) : w.cell? ⟨g, 0, none⟩ = some a := h.cell 0
end
theorem add_head (g k : Nat) : (⟨g, 0, none⟩ : Addr).add k = ⟨g, k, none⟩ := by
  unfold Addr.add
  split
  · simp [*]
  · simp
theorem Strs.of_own {w : World} {base : Nat} {e : TypeId} {A : Option Addr} {n c : Nat} {l : List Str} (h : w.ownsRow base e 1 (.slice A n c) n (l.map vS)) : Strs w w.heap.size A l := fun hl => by
  have hn : 0 < n := by
    have := h.1
    simp at this
    have := List.length_pos_iff.2 hl
    omega
  obtain ⟨g, cap, hv, _, hlt⟩ := h.form hn
  have hA : A = some ⟨g, 0, none⟩ := by injection hv
  subst hA
  refine ⟨g, 0, rfl, hlt, fun k s hs => ?_⟩
  have hc := h.cells (g := g) rfl k (vS s) (by simp [hs])
  rw [Nat.zero_add, ← add_head g k]; exact hc

/-- The greatest length that is spoken of. -/
abbrev big : Nat := 1048576
def SmallStrs (l : List Str) : Prop := l.length ≤ 1048576 ∧ ∀ s ∈ l, s.length ≤ 1048576
def SmallFlds (l : List Fld) : Prop := l.length ≤ 1048576 ∧ ∀ x ∈ l, x.1.length ≤ 1048576 ∧ -9223372036854775808 ≤ x.2 ∧ x.2 ≤ 9223372036854775807
def Ev.Small (e : Ev) : Prop := e.stream.length ≤ 1048576 ∧ e.typ.length ≤ 1048576 ∧ SmallStrs e.tags ∧ SmallFlds e.flds

/-- Nothing up to k was hit; the next one is none, too. -/
theorem no_succ {α : Type} {p : α → Bool} {l : List α} {k : Nat} {x : α} (hno : ∀ j y, l[j]? = some y → j < k → p y = false) (hx : l[k]? = some x) (h : p x = false) :
    ∀ j y, l[j]? = some y → j < k + 1 → p y = false := fun j y hy hj => by
  rcases Nat.lt_or_ge j k with h1 | h1
  · exact hno j y hy h1
  · obtain rfl : j = k := by omega
    rw [hx] at hy; cases hy; exact h
theorem find_hit {α : Type} {p : α → Bool} {l : List α} {k : Nat} {x : α} (hno : ∀ j y, l[j]? = some y → j < k → p y = false) (hx : l[k]? = some x) (h : p x = true) : l.find? p = some x := by
  rw [List.find?_eq_some_iff_getElem]
  obtain ⟨hk, e⟩ := List.getElem?_eq_some_iff.1 hx
  refine ⟨h, k, hk, e, fun j hj => ?_⟩
  have := hno j _ (List.getElem?_eq_getElem (by omega)) hj
  simpa using this
theorem find_miss {α : Type} {p : α → Bool} {l : List α} (hno : ∀ j y, l[j]? = some y → j < l.length → p y = false) : l.find? p = none := by
  rw [List.find?_eq_none]
  intro x hx
  obtain ⟨j, hj, e⟩ := List.getElem_of_mem hx
  have := hno j x (by rw [List.getElem?_eq_getElem hj, e]) hj
  simp [this]
theorem any_hit {α : Type} {p : α → Bool} {l : List α} {k : Nat} {x : α} (hx : l[k]? = some x) (h : p x = true) : l.any p = true :=
  List.any_eq_true.2 ⟨x, List.mem_of_getElem? hx, h⟩
theorem any_miss {α : Type} {p : α → Bool} {l : List α} (hno : ∀ j y, l[j]? = some y → j < l.length → p y = false) : l.any p = false := by
  rw [List.any_eq_false]
  intro x hx
  obtain ⟨j, hj, e⟩ := List.getElem_of_mem hx
  have := hno j x (by rw [List.getElem?_eq_getElem hj, e]) hj
  simp [this]
theorem at_some {α : Type} {l : List α} {k : Nat} (h : k < l.length) : ∃ x, l[k]? = some x := ⟨_, List.getElem?_eq_getElem h⟩
theorem ne_nil_of {α : Type} {l : List α} {k : Nat} (h : k < l.length) : l ≠ [] := fun e => by simp [e] at h

/-- What a row of fields says of a name. -/
def fieldOf (l : List Fld) (f : Str) : Option Int := (l.find? (fun x => x.1 == f)).map (·.2)
theorem fieldOf_hit {l : List Fld} {f : Str} {k : Nat} {x : Fld} (hno : ∀ j y, l[j]? = some y → j < k → (y.1 == f) = false) (hx : l[k]? = some x) (h : (x.1 == f) = true) : fieldOf l f = some x.2 := by
  unfold fieldOf
  rw [find_hit (p := fun x : Fld => x.1 == f) hno hx h]; rfl
theorem fieldOf_miss {l : List Fld} {f : Str} (hno : ∀ j y, l[j]? = some y → j < l.length → (y.1 == f) = false) : fieldOf l f = none := by
  unfold fieldOf
  rw [find_miss (p := fun x : Fld => x.1 == f) hno]; rfl
end Go.Proofs.YtdonhmdeijidkaaGreat
