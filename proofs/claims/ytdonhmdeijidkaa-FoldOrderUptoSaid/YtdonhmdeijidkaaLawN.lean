/-
  Walk: the law's number.
-/
import Derived.Test.YtdonhmdeijidkaaLawC
namespace Go.Proofs.Ytdonhmdeijidkaa
open Go.RowKit Go.Maps

theorem number_calls (w : World) (A : Option Addr) (c : Nat) (E : Ents) (key : Str) (h : Flds w w.heap.size A E) (hn : E.length ≤ 1048576) :
    Calls Try.prog 13 #[.slice A E.length c, vS key] w fun e w' => e = .returned (.int .i64 (getE E key)) ∧ w' = w := by
  unfold getE
  go_enter Try.func13, Try.ntmps13
  go_wp2
  go_loopw [5] (fun i wr => (∃ k : Nat, k ≤ E.length ∧ i = .int .i64 k ∧ ∀ j y, E[j]? = some y → j < k → (y.1 == key) = false) ∧ wr = w) (fun i _ => E.length - (intOf i).toNat)
  case atStart => exact ⟨⟨0, Nat.zero_le _, rfl, by simp⟩, rfl⟩
  case round =>
    obtain ⟨⟨k, hk, rfl, hno⟩, rfl⟩ := hrel
    have HN := Lib.hid hno
    clear hno
    by_cases hlt : k < E.length
    · obtain ⟨b, off, rfl, hb, hc⟩ := h (ne_nil_of hlt)
      obtain ⟨x, hx⟩ := at_some hlt
      obtain ⟨h1, h2⟩ := hc k x hx
      have HX := Lib.hid hx
      clear hc h hx
      go_wp2
      · go_ret
        exact ⟨by rw [fieldOf_hit HN.out HX.out ‹_›]; rfl, rfl⟩
      · go_roundw
        case rel => exact ⟨⟨k + 1, by omega, by go_num, no_succ HN.out HX.out ‹_›⟩, trivial⟩
        case measure => simp [intOf]; omega
    · obtain rfl : k = E.length := by omega
      clear h
      go_wp2
      go_ret
      exact ⟨by rw [fieldOf_miss HN.out]; rfl, rfl⟩
end Go.Proofs.Ytdonhmdeijidkaa
