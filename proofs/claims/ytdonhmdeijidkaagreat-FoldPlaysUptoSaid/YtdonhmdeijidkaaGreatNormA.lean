/-
  Walks: query.Norm.
-/
import Derived.Test.YtdonhmdeijidkaaGreatQueC
import Derived.Deep.RegionLaw
import Derived.Deep.DrawnRows
import Derived.Deep.AppendLies
namespace Go.Proofs.YtdonhmdeijidkaaGreat
open Go.RowKit

theorem Strs.over {w w' : World} {B B' : Nat} {A : Option Addr} {l : List Str} (h : Strs w B A l) (hB : B ≤ B') (hk : ∀ b off, A = some ⟨b, off, none⟩ → l ≠ [] → b < B → ∀ o s, w.cell? ⟨b, o, none⟩ = some (vS s) → w'.cell? ⟨b, o, none⟩ = w.cell? ⟨b, o, none⟩) : Strs w' B' A l := fun hl => by
  obtain ⟨b, off, e, hb, hc⟩ := h hl
  exact ⟨b, off, e, Nat.lt_of_lt_of_le hb hB, fun k s hs => (hk b off e hl hb _ s (hc k s hs)).trans (hc k s hs)⟩

attribute [local go_sem ↓] Go.wp_at_zero Go.wp_at_succ

theorem own_below {w w' : World} {base : Nat} {e : TypeId} {sz : Nat} {v : Value} {n : Nat} {xs : List Value} (h : w.ownsRow base e sz v n xs) (hb : Below w.heap.size w w') : w'.ownsRow base e sz v n xs :=
  h.kept (row := none) ⟨hb.os, hb.tape, hb.output, hb.size, fun i hi _ => hb.block i hi⟩ (by rcases v.ownBlock with _ | g <;> simp)

theorem info_cl : (Tryz.prog.info? 115).map (fun i => (i.zero, i.size, i.bytes)) = some (some (.agg #[.slice none 0 0, .slice none 0 0]), 2, 48) := by kernel_rfl

/-- Where the two rows of a clause lie. -/
abbrev RawC := (Option Addr × Nat) × (Option Addr × Nat)
def clCells (x : RawC × Cl) : List Value := [.slice x.1.1.1 x.2.tags.length x.1.1.2, .slice x.1.2.1 x.2.types.length x.1.2.2]
/-- The clauses of L lie in a row of the call's own, their texts elsewhere. -/
def OwnCls (w : World) (base : Nat) (v : Value) (L : List (RawC × Cl)) : Prop :=
  w.ownsRow base 115 2 v L.length (L.flatMap clCells) ∧
  ∀ x ∈ L, (Strs w w.heap.size x.1.1.1 x.2.tags ∧ (x.2.tags ≠ [] → ∀ a, x.1.1.1 = some a → some a.block ≠ v.ownBlock)) ∧ (Strs w w.heap.size x.1.2.1 x.2.types ∧ (x.2.types ≠ [] → ∀ a, x.1.2.1 = some a → some a.block ≠ v.ownBlock))
def normC (c : Cl) : Cl := ⟨sortS c.tags, sortS c.types⟩
def normQ (q : List Cl) : List Cl := q.map normC

/-- A box that holds a slice holds no text. -/
theorem box_ne {w : World} {g b o : Nat} {t : TypeId} {v : Value} {s : Str} (hg : Blk w g t #[v]) (hv : ∀ s, v ≠ vS s) (hb : w.cell? ⟨b, o, none⟩ = some (vS s)) : b ≠ g := by
  rintro rfl
  rw [hg.cell o] at hb
  cases o with
  | zero => simp at hb; exact hv s hb
  | succ o => simp at hb

/-- One clause more lies behind. -/
theorem norm_step {wr w1 w2 w3 w5 : World} {O base gg cap : Nat} {qt ct : TypeId} {cs : Array Value} {v : Value} {L : List (RawC × Cl)} {x : Cl} {A2 A3 : Option Addr} {c2 c3 : Nat}
    (HO : Blk wr O qt #[v]) (hv : ∀ s, v ≠ vS s) (hW1 : Below wr.heap.size wr w1) (hb2 : Below w1.heap.size w1 w2) (hb3 : Below w2.heap.size w2 w3) (hg : (w3.alloc (.cells cs ct)).grownBy w5 v.ownBlock)
    (hvb : ∀ g, v.ownBlock = some g → base ≤ g ∧ g < wr.heap.size) (hO : O < base)
    (hown5 : w5.ownsRow base 115 2 (.slice (some ⟨gg, 0, none⟩) (L.length + 1) cap) (L.length + 1) (L.flatMap clCells ++ [.slice A2 (sortS x.tags).length c2, .slice A3 (sortS x.types).length c3]))
    (hat : v.ownBlock = some gg ∨ gg = w3.heap.size + 1)
    (HL : ∀ x ∈ L, (Strs wr wr.heap.size x.1.1.1 x.2.tags ∧ (x.2.tags ≠ [] → ∀ a, x.1.1.1 = some a → some a.block ≠ v.ownBlock)) ∧ (Strs wr wr.heap.size x.1.2.1 x.2.types ∧ (x.2.types ≠ [] → ∀ a, x.1.2.1 = some a → some a.block ≠ v.ownBlock)))
    (hs2 : Strs w2 w2.heap.size A2 (sortS x.tags)) (hf2 : From w1.heap.size A2 (sortS x.tags)) (hs3 : Strs w3 w3.heap.size A3 (sortS x.types)) (hf3 : From w2.heap.size A3 (sortS x.types)) :
    OwnCls (w5.setCell ⟨O, 0, none⟩ (.slice (some ⟨gg, 0, none⟩) (L.length + 1) cap)) base (.slice (some ⟨gg, 0, none⟩) (L.length + 1) cap) (L ++ [(((A2, c2), (A3, c3)), normC x)]) := by
  have z1 := hW1.size
  have z2 := hb2.size
  have z3 := hb3.size
  have z5 : w3.heap.size + 1 ≤ w5.heap.size := by have := hg.size; simpa using this
  have zO := HO.lt
  have zW : (w5.setCell ⟨O, 0, none⟩ (.slice (some ⟨gg, 0, none⟩) (L.length + 1) cap)).heap.size = w5.heap.size := by simp [World.setCell]
  have key : ∀ b o, b ≠ O → some b ≠ v.ownBlock → b < w3.heap.size → (w5.setCell ⟨O, 0, none⟩ (.slice (some ⟨gg, 0, none⟩) (L.length + 1) cap)).cell? ⟨b, o, none⟩ = w3.cell? ⟨b, o, none⟩ := fun b o h1 h2 h3 => by
    rw [World.cell?_setCell_other _ _ _ _ (fun e => h1 (by cases e; rfl))]
    exact (World.cell?_of_block (hg.block b (by simp; omega) h2)).trans (World.cell?_alloc_lt w3 _ ⟨b, o, none⟩ h3)
  refine ⟨?_, fun y hy => ?_⟩
  · have h5 := ownsRow_setCell_below hown5 (a := ⟨O, 0, none⟩) hO (.slice (some ⟨gg, 0, none⟩) (L.length + 1) cap)
    simpa [clCells, normC] using h5
  · rcases List.mem_append.1 hy with hy | hy
    · obtain ⟨⟨p1, p2⟩, p3, p4⟩ := HL y hy
      have old : ∀ (A : Option Addr) (l : List Str), Strs wr wr.heap.size A l → (l ≠ [] → ∀ a, A = some a → some a.block ≠ v.ownBlock) →
          Strs (w5.setCell ⟨O, 0, none⟩ (.slice (some ⟨gg, 0, none⟩) (L.length + 1) cap)) (w5.setCell ⟨O, 0, none⟩ (.slice (some ⟨gg, 0, none⟩) (L.length + 1) cap)).heap.size A l ∧
          (l ≠ [] → ∀ a, A = some a → some a.block ≠ (Value.slice (some ⟨gg, 0, none⟩) (L.length + 1) cap).ownBlock) := fun A l hS hn => by
        refine ⟨hS.over (by rw [zW]; omega) (fun b off e hl hb o s hc => ?_), fun hl a ha => ?_⟩
        · rw [key b o (box_ne HO hv hc) (hn hl _ e) (by omega)]
          exact ((hb3.cell (p := ⟨b, o, none⟩) (by simp; omega)).trans (hb2.cell (p := ⟨b, o, none⟩) (by simp; omega))).trans (hW1.cell (p := ⟨b, o, none⟩) hb)
        · obtain ⟨b, off, e, hb, _⟩ := hS hl
          rw [ha] at e; cases e
          intro e2
          have e3 : b = gg := by simpa [Value.ownBlock] using e2
          rcases hat with h | h
          · exact hn hl _ ha (by rw [h, ← e3])
          · omega
      exact ⟨old _ _ p1 p2, old _ _ p3 p4⟩
    · rw [List.mem_singleton] at hy
      subst hy
      have hvn : ∀ b, wr.heap.size ≤ b → some b ≠ v.ownBlock := fun b hb e => by have := (hvb b e.symm).2; omega
      have hgn : ∀ b, wr.heap.size ≤ b → b < w3.heap.size → some b ≠ (Value.slice (some ⟨gg, 0, none⟩) (L.length + 1) cap).ownBlock := fun b hb hb3 e => by
        have e3 : b = gg := by simpa [Value.ownBlock] using e
        rcases hat with h | h
        · have := (hvb gg h).2; omega
        · omega
      refine ⟨⟨hs2.over (by rw [zW]; omega) (fun b off e hl hb o s hc => ?_), fun hl a ha => ?_⟩, hs3.over (by rw [zW]; omega) (fun b off e hl hb o s hc => ?_), fun hl a ha => ?_⟩
      · have hlo := hf2 hl _ e
        simp only at hlo
        rw [key b o (by omega) (hvn b (by omega)) (by omega)]
        exact hb3.cell (p := ⟨b, o, none⟩) hb
      · obtain ⟨b, off, e, hb, _⟩ := hs2 hl
        have hlo := hf2 hl _ ha
        have ha' : A2 = some a := ha
        rw [ha'] at e; cases e
        simp only at hlo
        exact hgn b (by omega) (by omega)
      · have hlo := hf3 hl _ e
        simp only at hlo
        exact key b o (by omega) (hvn b (by omega)) hb
      · obtain ⟨b, off, e, hb, _⟩ := hs3 hl
        have hlo := hf3 hl _ ha
        have ha' : A3 = some a := ha
        rw [ha'] at e; cases e
        simp only at hlo
        exact hgn b (by omega) (by omega)

theorem OwnCls.setBox {w : World} {base g : Nat} {t : TypeId} {v u : Value} {L : List (RawC × Cl)} (h : OwnCls w base v L) (hg : Blk w g t #[u]) (hu : ∀ s, u ≠ vS s) (hgb : g < base) (x : Value) : OwnCls (w.setCell ⟨g, 0, none⟩ x) base v L := by
  refine ⟨ownsRow_setCell_below h.1 (a := ⟨g, 0, none⟩) hgb x, fun y hy => ?_⟩
  obtain ⟨⟨p1, p2⟩, p3, p4⟩ := h.2 y hy
  have zW : (w.setCell ⟨g, 0, none⟩ x).heap.size = w.heap.size := by simp [World.setCell]
  have old : ∀ (A : Option Addr) (l : List Str), Strs w w.heap.size A l → Strs (w.setCell ⟨g, 0, none⟩ x) (w.setCell ⟨g, 0, none⟩ x).heap.size A l := fun A l hS =>
    hS.over (by rw [zW]; exact Nat.le_refl _) (fun b off e hl hb o s hc => World.cell?_setCell_other _ _ _ _ (fun e => box_ne hg hu hc (by cases e; rfl)))
  exact ⟨⟨old _ _ p1, p2⟩, old _ _ p3, p4⟩

/-- What lies in a row of the call's own is a row of clauses. -/
theorem OwnCls.cls {w : World} {base : Nat} {A : Option Addr} {n c : Nat} {L : List (RawC × Cl)} (h : OwnCls w base (.slice A n c) L) : Cls w w.heap.size A (L.map (·.2)) := fun hl => by
  have hL : L ≠ [] := by simpa using hl
  have hp := List.length_pos_iff.2 hL
  obtain ⟨hown, hx⟩ := h
  obtain ⟨g, cap, hv, _, hlt⟩ := hown.form hp
  have hA : A = some ⟨g, 0, none⟩ := by injection hv
  subst hA
  refine ⟨g, 0, rfl, hlt, fun k x hk => ?_⟩
  rw [List.getElem?_map] at hk
  obtain ⟨y, hy, rfl⟩ := Option.map_eq_some_iff.1 hk
  obtain ⟨⟨p1, _⟩, p3, _⟩ := hx y (List.mem_of_getElem? hy)
  have hcells : ∀ (l : List (RawC × Cl)) (k : Nat) (y : RawC × Cl), l[k]? = some y → (l.flatMap clCells)[k * 2]? = some (.slice y.1.1.1 y.2.tags.length y.1.1.2) ∧ (l.flatMap clCells)[k * 2 + 1]? = some (.slice y.1.2.1 y.2.types.length y.1.2.2) := by
    intro l
    induction l with
    | nil => intro k y h; simp at h
    | cons z r ih =>
      intro k y h
      cases k with
      | zero => simp at h; subst h; simp [clCells]
      | succ k =>
        have := ih k y (by simpa using h)
        have e1 : (k + 1) * 2 = k * 2 + 1 + 1 := by omega
        rw [e1]
        simpa [clCells] using this
  obtain ⟨q1, q2⟩ := hcells L k y hy
  have r1 := hown.cells (g := g) rfl _ _ q1
  have r2 := hown.cells (g := g) rfl _ _ q2
  rw [add_head] at r1 r2
  exact ⟨y.1.1.1, y.1.1.2, y.1.2.1, y.1.2.2, by rw [Nat.zero_add]; exact r1, by rw [Nat.zero_add]; exact r2, p1, p3⟩

end Go.Proofs.YtdonhmdeijidkaaGreat
