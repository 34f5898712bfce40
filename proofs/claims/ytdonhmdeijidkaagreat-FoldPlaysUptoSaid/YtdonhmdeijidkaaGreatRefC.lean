/-
  Walks: the reference's events (registrarref04): tags, Rise, Value, Has.
-/
import Derived.Test.YtdonhmdeijidkaaGreatRefB
namespace Go.Proofs.YtdonhmdeijidkaaGreat
open Go.RowKit

def riseB : List Str → Bool
  | a :: b :: r => Op.bytesLess a b && riseB (b :: r)
  | _ => true

/-- In the world after one box more all that lay below reads alike. -/
theorem Strs.alloc {w : World} {B : Nat} {A : Option Addr} {l : List Str} (h : Strs w B A l) (hB : B ≤ w.heap.size) (o : Obj) : Strs (w.alloc o) B A l := h.same ((same_alloc w o).mono hB)
theorem Flds.alloc {w : World} {B : Nat} {A : Option Addr} {l : List Fld} (h : Flds w B A l) (hB : B ≤ w.heap.size) (o : Obj) : Flds (w.alloc o) B A l := h.same ((same_alloc w o).mono hB)

theorem value04_calls (w : World) (s t f : Str) (tA fA : Option Addr) (tn tc fc : Nat) (fl : List Fld) (hf : Flds w w.heap.size fA fl) (hn : fl.length ≤ 1048576) :
    Calls Tryz.prog 54 #[.agg #[vS s, vS t, .slice tA tn tc, .slice fA fl.length fc], vS f] w fun e w' =>
      e = .returned (.tuple #[.int .i64 ((fieldOf fl f).getD 0), .bool (fieldOf fl f).isSome]) ∧ Below w.heap.size w w' := by
  go_enter Tryz.func54, Tryz.ntmps54
  go_wp2
  go_loop [6] (fun i => ∃ k : Nat, k ≤ fl.length ∧ i = .int .i64 k ∧ ∀ j y, fl[j]? = some y → j < k → (y.1 == f) = false) (fun i => fl.length - (intOf i).toNat)
  case atStart => exact ⟨0, Nat.zero_le _, rfl, by simp⟩
  case round =>
    obtain ⟨k, hk, rfl, hno⟩ := hrel
    have HN := Lib.hid hno
    clear hno
    have HB : Below w.heap.size w (w.alloc (.cells #[vS s, vS t, .slice tA tn tc, .slice fA fl.length fc] 45)) := (Below.refl w.heap.size w).alloc (Nat.le_refl _) _
    by_cases hlt : k < fl.length
    · obtain ⟨b, off, rfl, hb, hc⟩ := hf.same (same_below HB) (ne_nil_of hlt)
      obtain ⟨x, hx⟩ := at_some hlt
      obtain ⟨h1, h2⟩ := hc k x hx
      have HX := Lib.hid hx
      clear hc hf hx
      go_wp2
      · go_ret2
        exact ⟨by rw [fieldOf_hit HN.out HX.out ‹_›]; rfl, HB⟩
      · go_round
        case rel => exact ⟨k + 1, by omega, by go_num, no_succ HN.out HX.out ‹_›⟩
        case measure => simp [intOf]; omega
    · obtain rfl : k = fl.length := by omega
      clear hf
      go_wp2
      go_ret2
      exact ⟨by rw [fieldOf_miss HN.out]; rfl, HB⟩

theorem has04_calls (w : World) (s t f : Str) (tA fA : Option Addr) (fn tc fc : Nat) (tl : List Str) (hf : Strs w w.heap.size tA tl) (hn : tl.length ≤ 1048576) :
    Calls Tryz.prog 130 #[.agg #[vS s, vS t, .slice tA tl.length tc, .slice fA fn fc], vS f] w fun e w' =>
      e = .returned (.bool (tl.any (· == f))) ∧ Below w.heap.size w w' := by
  go_enter Tryz.func130, Tryz.ntmps130
  go_wp2
  go_loop [5] (fun i => ∃ k : Nat, k ≤ tl.length ∧ i = .int .i64 k ∧ ∀ j y, tl[j]? = some y → j < k → (y == f) = false) (fun i => tl.length - (intOf i).toNat)
  case atStart => exact ⟨0, Nat.zero_le _, rfl, by simp⟩
  case round =>
    obtain ⟨k, hk, rfl, hno⟩ := hrel
    have HN := Lib.hid hno
    clear hno
    have HB : Below w.heap.size w (w.alloc (.cells #[vS s, vS t, .slice tA tl.length tc, .slice fA fn fc] 45)) := (Below.refl w.heap.size w).alloc (Nat.le_refl _) _
    by_cases hlt : k < tl.length
    · obtain ⟨b, off, rfl, hb, hc⟩ := hf.same (same_below HB) (ne_nil_of hlt)
      obtain ⟨x, hx⟩ := at_some hlt
      have h1 := hc k x hx
      have HX := Lib.hid hx
      clear hc hf hx
      go_wp2
      · go_ret
        exact ⟨ret_bool (any_hit (p := (· == f)) HX.out ‹_›).symm, HB⟩
      · go_round
        case rel => exact ⟨k + 1, by omega, by go_num, no_succ (p := (· == f)) HN.out HX.out ‹_›⟩
        case measure => simp [intOf]; omega
    · obtain rfl : k = tl.length := by omega
      clear hf
      go_wp2
      go_ret
      exact ⟨ret_bool (any_miss (p := (· == f)) HN.out).symm, HB⟩

theorem tags04_calls (w : World) (A : Option Addr) (c : Nat) (l : List Str) (h : Strs w w.heap.size A l) (hn : l.length ≤ 1048576) (hs : ∀ s ∈ l, s.length ≤ 1048576) :
    Calls Tryz.prog 88 #[.slice A l.length c] w fun e w' => e = .returned (.bool (l.all tagB)) ∧ Below w.heap.size w w' := by
  go_enter Tryz.func88, Tryz.ntmps88
  go_wp2
  go_loopw [3, 4, 5, 6] (fun i _ _ _ wr => (∃ k : Nat, k ≤ l.length ∧ i = .int .i64 k ∧ ∀ j y, l[j]? = some y → j < k → (!tagB y) = false) ∧ Below w.heap.size w wr) (fun i _ _ _ _ => l.length - (intOf i).toNat)
  case atStart => exact ⟨⟨0, Nat.zero_le _, rfl, by simp⟩, Below.refl _ _⟩
  case round =>
    obtain ⟨⟨k, hk, rfl, hno⟩, hbw⟩ := hrel
    have HN := Lib.hid hno
    clear hno
    by_cases hlt : k < l.length
    · obtain ⟨b, off, rfl, hb, hc⟩ := h.same (same_below hbw) (ne_nil_of hlt)
      obtain ⟨x, hx⟩ := at_some hlt
      have h1 := hc k x hx
      have hxs := hs x (List.mem_of_getElem? hx)
      have HX := Lib.hid hx
      clear hc h hx hs
      generalize ht : tagB x = t
      have HT := Lib.hid ht
      clear ht
      go_wp2_with fail
      refine (parts03_calls _ hxs _).mono ?_
      rintro e w1 ⟨⟨a, b, rfl⟩, hb1⟩
      rw [HT.out]
      have hbz := hbw.trans (hb1.mono hbw.size)
      cases t
      · go_wp2
        go_ret
        exact ⟨ret_bool (by rw [List.all_eq_not_any_not, any_hit (p := fun y => !tagB y) HX.out (by simp [HT.out])]; rfl), hbz⟩
      · go_wp2
        go_roundw
        case rel => exact ⟨⟨k + 1, by omega, by go_num, no_succ (p := fun y => !tagB y) HN.out HX.out (by simp [HT.out])⟩, hbz⟩
        case measure => simp [intOf]; omega
    · obtain rfl : k = l.length := by omega
      clear h
      go_wp2
      go_ret
      exact ⟨ret_bool (by rw [List.all_eq_not_any_not, any_miss (p := fun y => !tagB y) HN.out]; rfl), hbw⟩

theorem rise_two {l : List Str} {k : Nat} {a b : Str} (ha : l[k]? = some a) (hb : l[k + 1]? = some b) (h : Op.bytesLess a b = false) : riseB l = false := by
  induction l generalizing k with
  | nil => simp at ha
  | cons x r ih =>
    cases r with
    | nil => simp at hb
    | cons y r =>
      cases k with
      | zero => simp at ha hb; subst ha; subst hb; simp [riseB, h]
      | succ k => simp at ha hb; simp [riseB, ih (by simpa using ha) (by simpa using hb)]
theorem rise_all {l : List Str} (h : ∀ k a b, l[k]? = some a → l[k + 1]? = some b → Op.bytesLess a b = true) : riseB l = true := by
  induction l with
  | nil => rfl
  | cons x r ih =>
    cases r with
    | nil => rfl
    | cons y r =>
      simp only [riseB, Bool.and_eq_true]
      exact ⟨h 0 x y rfl rfl, ih fun k a b ha hb => h (k + 1) a b (by simpa using ha) (by simpa using hb)⟩

theorem rise04_calls (w : World) (A : Option Addr) (c : Nat) (l : List Str) (h : Strs w w.heap.size A l) (hn : l.length ≤ 1048576) :
    Calls Tryz.prog 89 #[.slice A l.length c] w fun e w' => e = .returned (.bool (riseB l)) ∧ Below w.heap.size w w' := by
  go_enter Tryz.func89, Tryz.ntmps89
  go_wp2
  go_loopw [3] (fun i wr => (∃ m : Nat, (m + 1 ≤ l.length ∨ m = 0) ∧ i = .int .i64 (m + 1) ∧ ∀ j a b, j + 1 < m + 1 → l[j]? = some a → l[j + 1]? = some b → Op.bytesLess a b = true) ∧ ∃ n, wr = w.drewN n) (fun i _ => l.length - (intOf i).toNat)
  case atStart => exact ⟨⟨0, by omega, rfl, by intro j a b h; omega⟩, 0, rfl⟩
  case round =>
    obtain ⟨⟨m, hk, rfl, hno⟩, n, rfl⟩ := hrel
    have HN := Lib.hid hno
    clear hno
    by_cases hlt : m + 1 < l.length
    · obtain ⟨b, off, rfl, hb, hc⟩ := h (ne_nil_of hlt)
      obtain ⟨x, hx⟩ := at_some (l := l) (k := m) (by omega)
      obtain ⟨y, hy⟩ := at_some hlt
      have h1 := hc m x hx
      have h2 := hc (m + 1) y hy
      have HX := Lib.hid hx
      have HY := Lib.hid hy
      clear hc h hx hy
      have g1 : (0 : Int) ≤ (m : Int) := by omega
      have g2 : (m : Int) + 1 < (l.length : Int) := by omega
      have g3 : (m : Int) < (l.length : Int) := by omega
      have e0 : ((m : Int) + 1).toNat = m + 1 := by omega
      have e1 : IntKind.i64.wrap ((m : Int) + 1 - 1) = (m : Int) := by rw [IntWalk.i64_in _ (by omega)]; omega
      cases hl : Op.bytesLess x y
      · go_wp2_with fail
        go_quiet (fail)
        go_wp2
        go_ret
        exact ⟨ret_bool (by rw [rise_two HX.out HY.out hl]), below_drewN (below_drewN (Below.refl _ _) _) _⟩
      · go_wp2_with fail
        go_quiet (fail)
        go_wp2
        go_roundw
        case rel =>
          refine ⟨⟨m + 1, by omega, by go_num, ?_⟩, _, rfl⟩
          intro j a b hj ha hb
          rcases Nat.lt_or_ge j m with h1 | h1
          · exact HN.out j a b (by omega) ha hb
          · obtain rfl : j = m := by omega
            rw [HX.out] at ha; rw [HY.out] at hb
            cases ha; cases hb; exact hl
        case measure => simp [intOf]; omega
    · clear h
      go_wp2
      go_ret
      exact ⟨ret_bool (by
        rw [rise_all]
        intro j a b ha hb
        have := (List.getElem?_eq_some_iff.1 hb).1
        exact HN.out j a b (by omega) ha hb), below_drewN (Below.refl _ _) _⟩
end Go.Proofs.YtdonhmdeijidkaaGreat
