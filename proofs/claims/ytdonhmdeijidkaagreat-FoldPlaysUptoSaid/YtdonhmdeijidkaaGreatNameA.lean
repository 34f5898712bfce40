/-
  Walks: names in the program (name.letter, name.May): runes against bytes.
-/
import Derived.Test.YtdonhmdeijidkaaGreatRefD
namespace Go.Proofs.YtdonhmdeijidkaaGreat
open Go.RowKit

/-- A rune that is a letter of a name. -/
def letR (c : Int) : Bool := (decide (97 ≤ c) && decide (c ≤ 122)) || (decide (48 ≤ c) && decide (c ≤ 57)) || c == 45 || c == 95 || c == 233 || c == 248 || c == 223 || c == 955

theorem letter_name_calls (c : Int) (w : World) : Calls Tryz.prog 122 #[.int .i32 c] w fun e w' => e = .returned (.bool (letR c)) ∧ w = w' := by
  unfold letR
  go_enter Tryz.func122, Tryz.ntmps122
  go_wp2
  all_goals
    go_ret
    refine ⟨ret_bool ?_, rfl⟩
    rw [Bool.eq_iff_iff] <;> simp at * <;> omega

theorem get_list (l : Str) (k : Nat) : (ByteArray.mk l.toArray).get! k = l[k]?.getD 0 := by
  show (l.toArray)[k]! = _
  simp [Array.getElem!_eq_getD, Array.getD_eq_getD_getElem?]
  rfl

theorem dec_letter (l : Str) (k : Nat) (hk : k < l.length) :
    letR (Utf8.decode ⟨l.toArray⟩ k).1 = decide (0 < letN (l.drop k)) ∧ (0 < letN (l.drop k) → (Utf8.decode ⟨l.toArray⟩ k).2 = letN (l.drop k)) := by
  obtain ⟨c, hc⟩ := at_some hk
  have hd : l.drop k = c :: l.drop (k + 1) := by
    obtain ⟨_, e⟩ := List.getElem?_eq_some_iff.1 hc
    rw [List.drop_eq_getElem_cons hk, e]
  have h0 : ((ByteArray.mk l.toArray).get! (k + 0)).toNat = c.toNat := by rw [get_list, Nat.add_zero, hc]; rfl
  have hsz : (ByteArray.mk l.toArray).size = l.length := by simp [ByteArray.size]
  have hcl := c.toNat_lt
  by_cases hlow : c.toNat < 128
  · have hdec : Utf8.decode ⟨l.toArray⟩ k = (c.toNat, 1) := by simp only [Utf8.decode, h0]; rw [if_pos hlow]
    rw [hdec, hd]
    have ht : ∀ d, two c d = false := fun d => by
      have a1 : (c == 195) = false := by simp [← UInt8.toNat_inj]; omega
      have a2 : (c == 206) = false := by simp [← UInt8.toNat_inj]; omega
      simp [two, a1, a2]
    have hL : letN (c :: l.drop (k + 1)) = if plainB c then 1 else 0 := by
      cases hp : plainB c
      · cases he : l.drop (k + 1) with
        | nil => simp [letN, hp]
        | cons d r => simp [letN, hp, ht]
      · simp [letN, hp]
    have hP : letR (c.toNat : Int) = plainB c := by
      unfold letR plainB
      have e1 : (c == 45) = decide ((c.toNat : Int) = 45) := by rw [Bool.eq_iff_iff]; simp [← UInt8.toNat_inj]; omega
      have e2 : (c == 95) = decide ((c.toNat : Int) = 95) := by rw [Bool.eq_iff_iff]; simp [← UInt8.toNat_inj]; omega
      rw [e1, e2, Bool.eq_iff_iff]
      simp
      omega
    rw [hL, hP]
    cases plainB c <;> simp
  · have hp : plainB c = false := by
      unfold plainB
      have e1 : (c == 45) = false := by simp [← UInt8.toNat_inj]; omega
      have e2 : (c == 95) = false := by simp [← UInt8.toNat_inj]; omega
      simp [e1, e2]
      omega
    have hbad : letR (Utf8.runeError : Int) = false := by decide
    cases he : l.drop (k + 1) with
    | nil =>
      have hl : l.length = k + 1 := by have := congrArg List.length he; simp at this; omega
      have hdec : Utf8.decode ⟨l.toArray⟩ k = (Utf8.runeError, 1) := by
        have n1 : ¬ (k + 1 < l.length) := by omega
        simp only [Utf8.decode, h0, hsz]
        rw [if_neg hlow]
        simp [n1]
      have hL : letN (l.drop k) = 0 := by rw [hd, he]; simp [letN, hp]
      rw [hdec, hL]
      simp only [hbad]
      simp
    | cons d r =>
      have h1 : ((ByteArray.mk l.toArray).get! (k + 1)).toNat = d.toNat := by
        have e1 : l[k + 1]? = some d := by
          have := congrArg (fun x => x[0]?) he
          simpa using this
        rw [get_list, e1]; rfl
      have hdl := d.toNat_lt
      have n1 : k + 1 < l.length := by have := congrArg List.length he; simp at this; omega
      have hL : letN (l.drop k) = if two c d then 2 else 0 := by rw [hd, he]; simp [letN, hp]
      have hT : two c d = ((c.toNat == 195 && (d.toNat == 169 || d.toNat == 184 || d.toNat == 159)) || (c.toNat == 206 && d.toNat == 187)) := by
        unfold two
        have b1 : ∀ (x : UInt8) (n : Nat), n < 256 → (x == UInt8.ofNat n) = (x.toNat == n) := fun x n hn => by
          rw [Bool.eq_iff_iff]; simp [← UInt8.toNat_inj, UInt8.toNat_ofNat']; omega
        rw [← b1 c 195 (by omega), ← b1 c 206 (by omega), ← b1 d 169 (by omega), ← b1 d 184 (by omega), ← b1 d 159 (by omega), ← b1 d 187 (by omega)]
        rfl
      rw [hL, hT]
      generalize c.toNat = a at *
      generalize d.toNat = b at *
      simp only [Utf8.decode, h0, h1, hsz]
      rw [if_neg hlow]
      generalize ((ByteArray.mk l.toArray).get! (k + 2)).toNat = x2
      generalize ((ByteArray.mk l.toArray).get! (k + 3)).toNat = x3
      have hq : decide (k + 1 < l.length) = true := by simpa using n1
      simp only [hq, Bool.true_and]
      have hbig : ∀ c : Nat, 1000 ≤ c → letR (c : Int) = false := fun c hc => by
        unfold letR; simp; omega
      by_cases hg : a / 32 = 6 ∧ b / 64 = 2
      · obtain ⟨g1, g2⟩ := hg
        have e1 : (a / 32 == 6 && b / 64 == 2) = true := by simp [g1, g2]
        rw [if_pos e1]
        by_cases h80 : a % 32 * 64 + b % 64 ≥ 128
        · rw [if_pos h80]
          have hc : letR ((a % 32 * 64 + b % 64 : Nat) : Int) = (a == 195 && (b == 169 || b == 184 || b == 159) || a == 206 && b == 187) := by
            unfold letR
            rw [Bool.eq_iff_iff]
            simp
            omega
          simp only [hc]
          cases (a == 195 && (b == 169 || b == 184 || b == 159) || a == 206 && b == 187) <;> simp
        · rw [if_neg h80]
          have hc : (a == 195 && (b == 169 || b == 184 || b == 159) || a == 206 && b == 187) = false := by
            rw [Bool.eq_false_iff]; simp; omega
          rw [hc]
          simp only [hbad]
          simp
      · have e1 : (a / 32 == 6 && b / 64 == 2) = false := by
          rw [Bool.eq_false_iff]; simp; omega
        rw [e1]
        have hc : (a == 195 && (b == 169 || b == 184 || b == 159) || a == 206 && b == 187) = false := by
          rw [Bool.eq_false_iff]; simp; omega
        rw [hc]
        simp only [Bool.false_eq_true, if_false, Nat.lt_irrefl, decide_false, false_implies, and_true]
        repeat' split
        all_goals first
          | exact hbad
          | (apply hbig; simp_all; done)
          | (apply hbig; simp at *; omega)
end Go.Proofs.YtdonhmdeijidkaaGreat
