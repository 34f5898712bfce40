/-
  Texts in their order: plain facts.
-/
import Derived.Test.YtdonhmdeijidkaaGreatMem
import Derived.Lib.SlicesCompact
namespace Go.Proofs.YtdonhmdeijidkaaGreat

theorem less_irrefl : ∀ a : Str, Op.bytesLess a a = false
  | [] => rfl
  | a :: x => by simp [Op.bytesLess, less_irrefl x]
theorem less_total : ∀ a b : Str, Op.bytesLess a b = true ∨ Op.bytesLess b a = true ∨ a = b
  | [], [] => .inr (.inr rfl)
  | [], b :: y => .inl rfl
  | a :: x, [] => .inr (.inl rfl)
  | a :: x, b :: y => by
    rcases Nat.lt_trichotomy a.toNat b.toNat with h | h | h
    · left; simp [Op.bytesLess, UInt8.lt_iff_toNat_lt, h]
    · have e : a = b := UInt8.toNat_inj.1 h
      subst e
      rcases less_total x y with h | h | h
      · left; simp [Op.bytesLess, h]
      · right; left; simp [Op.bytesLess, h]
      · right; right; rw [h]
    · right; left; simp [Op.bytesLess, UInt8.lt_iff_toNat_lt, h]
theorem less_trans : ∀ {a b c : Str}, Op.bytesLess a b = true → Op.bytesLess b c = true → Op.bytesLess a c = true
  | [], _, [], _, h2 => by rename_i b _; cases b <;> simp [Op.bytesLess] at h2
  | [], _, _ :: _, _, _ => rfl
  | _ :: _, [], _, h1, _ => by simp [Op.bytesLess] at h1
  | _ :: _, _ :: _, [], _, h2 => by simp [Op.bytesLess] at h2
  | a :: x, b :: y, c :: z, h1, h2 => by
    simp only [Op.bytesLess, Bool.or_eq_true, decide_eq_true_eq, Bool.and_eq_true, beq_iff_eq, UInt8.lt_iff_toNat_lt] at h1 h2 ⊢
    rcases h1 with h1 | ⟨rfl, h1⟩
    · rcases h2 with h2 | ⟨rfl, _⟩
      · left; omega
      · left; exact h1
    · rcases h2 with h2 | ⟨rfl, h2⟩
      · left; exact h2
      · right; exact ⟨rfl, less_trans h1 h2⟩
theorem less_asymm {a b : Str} (h : Op.bytesLess a b = true) : Op.bytesLess b a = false := by
  cases h2 : Op.bytesLess b a
  · rfl
  · have := less_trans h h2
    rw [less_irrefl] at this; cases this
theorem less_ne {a b : Str} (h : Op.bytesLess a b = true) : a ≠ b := by
  rintro rfl
  rw [less_irrefl] at h; cases h
theorem less_of {a b : Str} (h : Op.bytesLess b a = false) (hne : a ≠ b) : Op.bytesLess a b = true := by
  rcases less_total a b with h1 | h1 | h1
  · exact h1
  · rw [h] at h1; cases h1
  · exact absurd h1 hne
end Go.Proofs.YtdonhmdeijidkaaGreat
