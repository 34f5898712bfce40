/-
  Walks: the library's IsSorted, Clone, Compact at texts; query.rise.
-/
import Derived.Test.YtdonhmdeijidkaaGreatSlA
import Derived.Test.YtdonhmdeijidkaaGreatShelf
namespace Go.Proofs.YtdonhmdeijidkaaGreat
open Go.RowKit Go.Shelf Go.Sort

theorem less_str_calls (x y : Str) (w : World) : Calls Tryz.prog 153 #[vS x, vS y] w fun e w' => e = .returned (.bool (Op.bytesLess x y)) ∧ w' = w := by
  go_enter Tryz.func153, Tryz.ntmps153
  go_wp2
  go_ret
  exact ⟨rfl, rfl⟩

theorem quiet_add_same {P : Program} {f : FuncId} {args : Array Value} {w : World} {a n : Nat} {v : Value}
    (h : Calls P f args (w.drewN (a + n)) fun e w' => e = .returned v ∧ w' = w.drewN (a + n)) :
    Calls P f args (w.drewN (a + n)) fun e w'' => e = .returned v ∧ ∃ m, w'' = w.drewN (a + m) :=
  h.mono fun _ _ ⟨he, hm⟩ => ⟨he, n, hm⟩

/-- Each is at most the next. -/
def sortedB : List Str → Bool
  | a :: b :: r => !Op.bytesLess b a && sortedB (b :: r)
  | _ => true
theorem sorted_two {l : List Str} {k : Nat} {a b : Str} (ha : l[k]? = some a) (hb : l[k + 1]? = some b) (h : Op.bytesLess b a = true) : sortedB l = false := by
  induction l generalizing k with
  | nil => simp at ha
  | cons x r ih =>
    cases r with
    | nil => simp at hb
    | cons y r =>
      cases k with
      | zero => simp at ha hb; subst ha; subst hb; simp [sortedB, h]
      | succ k => simp at ha hb; simp [sortedB, ih (by simpa using ha) (by simpa using hb)]
theorem sorted_all {l : List Str} (h : ∀ k a b, l[k]? = some a → l[k + 1]? = some b → Op.bytesLess b a = false) : sortedB l = true := by
  induction l with
  | nil => rfl
  | cons x r ih =>
    cases r with
    | nil => rfl
    | cons y r =>
      simp only [sortedB, Bool.and_eq_true]
      exact ⟨by simp [h 0 x y rfl rfl], ih fun k a b ha hb => h (k + 1) a b (by simpa using ha) (by simpa using hb)⟩

theorem issorted_calls (w : World) (A : Option Addr) (c : Nat) (l : List Str) (h : Strs w w.heap.size A l) (hn : l.length ≤ 1048576) :
    Calls Tryz.prog 140 #[.slice A l.length c] w fun e w' => e = .returned (.bool (sortedB l)) ∧ Below w.heap.size w w' := by
  by_cases h0 : l = []
  · subst h0
    go_enter Tryz.func140, Tryz.ntmps140
    go_wp2
    refine wp_loop_rounds 1 ?_
    rw [rounds_succ]
    go_wp2
    go_ret
    exact ⟨rfl, Below.refl _ _⟩
  · obtain ⟨b, off, rfl, hb, hc⟩ := h h0
    have hl1 : 1 ≤ l.length := List.length_pos_iff.2 h0
    clear h0 h
    go_enter Tryz.func140, Tryz.ntmps140
    go_wp2
    go_loopw [3] (fun i wr => (∃ m : Nat, m < l.length ∧ i = .int .i64 m ∧ ∀ j a b, m ≤ j → l[j]? = some a → l[j + 1]? = some b → Op.bytesLess b a = false) ∧ ∃ n, wr = w.drewN n) (fun i _ => (intOf i).toNat)
    case atStart =>
      refine ⟨⟨l.length - 1, by omega, ?_, ?_⟩, 0, rfl⟩
      · congr 1; omega
      · intro j a b hj ha hb
        have := (List.getElem?_eq_some_iff.1 hb).1
        omega
    case round =>
      obtain ⟨⟨m, hm, rfl, hno⟩, n, rfl⟩ := hrel
      have HN := Lib.hid hno
      clear hno
      by_cases hz : 1 ≤ m
      · obtain ⟨k, rfl⟩ : ∃ k, m = k + 1 := ⟨m - 1, by omega⟩
        obtain ⟨x, hx⟩ := at_some (l := l) (k := k) (by omega)
        obtain ⟨y, hy⟩ := at_some hm
        have h1 := hc k x hx
        have h2 := hc (k + 1) y hy
        have HX := Lib.hid hx
        have HY := Lib.hid hy
        clear hc hx hy
        have g0 : (0 : Int) ≤ (k : Int) := by omega
        have g1 : (k : Int) < (l.length : Int) := by omega
        have g2 : (k : Int) + 1 < (l.length : Int) := by omega
        have e0 : ((k : Int) + 1).toNat = k + 1 := by omega
        have e1 : IntKind.i64.wrap ((k : Int) + 1 - 1) = (k : Int) := by rw [IntWalk.i64_in _ (by omega)]; omega
        have ec : ((k + 1 : Nat) : Int) = (k : Int) + 1 := by omega
        rw [ec]
        clear ec
        have hcall := fun W => less_str_calls y x W
        cases hq : Op.bytesLess y x
        · rw [hq] at hcall
          have HC := Lib.hid hcall
          clear hcall
          go_wp2_with fail
          go_quiet ((go_at_call 153; exact quiet_add_same (HC.out _)))
          go_wp2
          go_roundw
          case rel =>
            refine ⟨⟨k, by omega, by go_num, ?_⟩, _, rfl⟩
            intro j a b hj ha hb
            rcases Nat.lt_or_ge k j with h | h
            · exact HN.out j a b (by omega) ha hb
            · obtain rfl : j = k := by omega
              rw [HX.out] at ha; rw [HY.out] at hb
              cases ha; cases hb; exact hq
          case measure => simp [intOf]
        · rw [hq] at hcall
          have HC := Lib.hid hcall
          clear hcall
          go_wp2_with fail
          go_quiet ((go_at_call 153; exact quiet_add_same (HC.out _)))
          go_wp2
          go_ret
          exact ⟨ret_bool (by rw [sorted_two HX.out HY.out hq]), below_drewN (below_drewN (Below.refl _ _) _) _⟩
      · obtain rfl : m = 0 := by omega
        clear hc
        go_wp2
        go_ret
        exact ⟨ret_bool (by rw [sorted_all (fun j a b ha hb => HN.out j a b (by omega) ha hb)]), below_drewN (Below.refl _ _) _⟩
end Go.Proofs.YtdonhmdeijidkaaGreat
