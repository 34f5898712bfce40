/-
  Walks: the reference's tags and events (registrarref03.Parts, registrarref04).
-/
import Derived.Test.YtdonhmdeijidkaaGreatRefA
namespace Go.Proofs.YtdonhmdeijidkaaGreat
open Go.RowKit
attribute [local go_sem] ByteArray.extract_mk take_rest

/-- A tag: a name, a colon, a name. -/
def tagB (s : Str) : Bool := decide (s.findIdx (· == 58) < s.length) && (mayB (s.take (s.findIdx (· == 58))) && mayB (s.drop (s.findIdx (· == 58) + 1)))
theorem idx_hit {α : Type} {p : α → Bool} {l : List α} {k : Nat} {x : α} (hno : ∀ j y, l[j]? = some y → j < k → p y = false) (hx : l[k]? = some x) (h : p x = true) : l.findIdx p = k := by
  obtain ⟨hk, e⟩ := List.getElem?_eq_some_iff.1 hx
  rw [List.findIdx_eq hk]
  refine ⟨by rw [e]; exact h, fun j hj => ?_⟩
  have := hno j _ (List.getElem?_eq_getElem (by omega)) hj
  simpa using this
theorem idx_miss {α : Type} {p : α → Bool} {l : List α} (hno : ∀ j y, l[j]? = some y → j < l.length → p y = false) : l.findIdx p = l.length := by
  rw [List.findIdx_eq_length]
  intro x hx
  obtain ⟨j, hj, e⟩ := List.getElem_of_mem hx
  exact hno j x (by rw [List.getElem?_eq_getElem hj, e]) hj
theorem byte_eq {c : UInt8} {n : Nat} (hn : n < 256) (h : (c == UInt8.ofNat n) = true) : ((c.toNat : Int) == (n : Int)) = true := by
  have : c = UInt8.ofNat n := by simpa using h
  subst this
  simp [UInt8.toNat_ofNat']
  omega
theorem byte_ne {c : UInt8} {n : Nat} (hn : n < 256) (h : (c == UInt8.ofNat n) = false) : ((c.toNat : Int) == (n : Int)) = false := by
  have h' : c ≠ UInt8.ofNat n := by simpa using h
  simp
  intro e
  apply h'
  rw [← UInt8.toNat_inj, UInt8.toNat_ofNat']
  omega

theorem ret_sst {a b : ByteArray} {x y : Bool} (h : x = y) : Ending.returned (.tuple #[.string a, .string b, .bool x]) = .returned (.tuple #[.string a, .string b, .bool y]) := by rw [h]
theorem below_drewN {B : Nat} {a w : World} (h : Below B a w) (n : Nat) : Below B a (w.drewN n) := ⟨h.os, h.tape, h.output, h.size, h.block⟩

set_option maxRecDepth 100000 in
theorem parts03_calls (s : Str) (hs : s.length ≤ 1048576) (w : World) : Calls Tryz.prog 125 #[vS s] w fun e w' => (∃ a b : ByteArray, e = .returned (.tuple #[.string a, .string b, .bool (tagB s)])) ∧ Below w.heap.size w w' := by
  go_enter Tryz.func125, Tryz.ntmps125
  go_wp2
  go_loopw [5, 6, 7] (fun i _ _ wr => (∃ k : Nat, k ≤ s.length ∧ i = .int .i64 k ∧ ∀ j y, s[j]? = some y → j < k → (y == 58) = false) ∧ Below w.heap.size w wr) (fun i _ _ _ => s.length - (intOf i).toNat)
  case atStart => exact ⟨⟨0, by omega, rfl, by simp⟩, Below.refl _ _⟩
  case round =>
    obtain ⟨⟨k, hk, rfl, hno⟩, hbw⟩ := hrel
    have HN := Lib.hid hno
    clear hno
    by_cases hlt : k < s.length
    · obtain ⟨c, hc⟩ := at_some hlt
      have HC := Lib.hid hc
      have hb := bget hc
      clear hc
      cases h58 : (c == 58)
      · have g1 := byte_ne (n := 58) (by omega) h58
        have g2 : ((c.toNat : Int) != 58) = true := by simp at g1 ⊢; exact g1
        have H58 := Lib.hid h58
        clear h58
        go_wp2
        go_roundw
        case rel => exact ⟨⟨k + 1, by omega, by go_num, no_succ (p := (· == 58)) HN.out HC.out H58.out⟩, hbw⟩
        case measure => simp [intOf]; omega
      · have g1 := byte_eq (n := 58) (by omega) h58
        have g2 : ((c.toNat : Int) != 58) = false := by simp at g1 ⊢; exact g1
        have E := Lib.hid (show tagB s = (mayB (s.take k) && mayB (s.drop (k + 1))) by
          unfold tagB
          rw [idx_hit (p := (· == 58)) HN.out HC.out h58, decide_eq_true hlt]; simp)
        have h1 : (s.take k).length ≤ 1048576 := by simp; omega
        have h2 : (s.drop (k + 1)).length ≤ 1048576 := by simp; omega
        clear h58
        generalize ha : mayB (s.take k) = x at E
        generalize hb' : mayB (s.drop (k + 1)) = y at E
        have HA := Lib.hid ha
        have HB := Lib.hid hb'
        clear ha hb'
        go_wp2_with fail
        refine (may03_calls _ h1 _).mono ?_
        rintro e w1 ⟨rfl, hb1⟩
        rw [HA.out]
        go_wp2_with fail
        refine (may03_calls _ h2 _).mono ?_
        rintro e w2 ⟨rfl, hb2⟩
        rw [HB.out]
        have hbz := (hbw.trans (hb1.mono hbw.size)).trans (hb2.mono (hbw.trans (hb1.mono hbw.size)).size)
        cases x
        · go_wp2
          go_ret3
          exact ⟨⟨_, _, ret_sst (by rw [E.out]; rfl)⟩, hbz⟩
        · cases y
          · go_wp2
            go_ret3
            exact ⟨⟨_, _, ret_sst (by rw [E.out]; rfl)⟩, hbz⟩
          · go_wp2_with fail
            go_quiet (fail)
            go_wp2
            go_ret3
            exact ⟨⟨_, _, ret_sst (by rw [E.out]; rfl)⟩, below_drewN hbz _⟩
    · obtain rfl : k = s.length := by omega
      have E := Lib.hid (show tagB s = false by unfold tagB; rw [idx_miss (p := (· == 58)) HN.out]; simp)
      go_wp2
      go_ret3
      exact ⟨⟨_, _, ret_sst (by rw [E.out])⟩, hbw⟩
end Go.Proofs.YtdonhmdeijidkaaGreat
