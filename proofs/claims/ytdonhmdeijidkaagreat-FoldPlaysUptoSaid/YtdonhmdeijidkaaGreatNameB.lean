/-
  Walks: name.May, name.Parts, name.MayTag.
-/
import Derived.Test.YtdonhmdeijidkaaGreatNameA
namespace Go.Proofs.YtdonhmdeijidkaaGreat
open Go.RowKit

theorem iter_below (w : World) (s : ByteArray) (p : Nat) : Below w.heap.size w (w.iter s p) := (Below.refl w.heap.size w).alloc (Nat.le_refl _) _

/-- Of letters only '-' and the digits are not above '9'. -/
theorem first_letter {s : Str} {c : UInt8} (hc : s[0]? = some c) (hp : 0 < letN s) : ((Utf8.decode ⟨s.toArray⟩ 0).1 : Int) ≤ 57 ↔ ((48 ≤ head0 s ∧ head0 s ≤ 57) ∨ head0 s = 45) := by
  have hk : 0 < s.length := (List.getElem?_eq_some_iff.1 hc).1
  have hd := dec_letter s 0 hk
  rw [head0_eq hc]
  have h0 : ((ByteArray.mk s.toArray).get! (0 + 0)).toNat = c.toNat := by rw [get_list, hc]; rfl
  by_cases hlow : c.toNat < 128
  · have hdec : Utf8.decode ⟨s.toArray⟩ 0 = (c.toNat, 1) := by simp only [Utf8.decode, h0]; rw [if_pos hlow]
    have hl := hd.1
    simp only [List.drop_zero] at hl
    rw [decide_eq_true hp, hdec] at hl
    rw [hdec]
    unfold letR at hl
    simp at hl ⊢
    omega
  · have hi := decode_high ⟨s.toArray⟩ 0 (by simpa [ByteArray.size] using hk) (by rw [bget hc]; omega)
    constructor
    · intro h; omega
    · intro h; omega

set_option maxRecDepth 100000 in
theorem may_name_calls (s : Str) (hs : s.length ≤ 1048576) (w : World) : Calls Tryz.prog 84 #[vS s] w fun e w' => e = .returned (.bool (mayB s)) ∧ Below w.heap.size w w' := by
  by_cases h1 : 1 ≤ s.length
  · have he : ((s.length : Int) == 0) = false := beq_eq_false_iff_ne.2 (by omega)
    by_cases h2 : s.length ≤ 24
    · have M := Lib.hid (show mayB s = (!(decide (48 ≤ head0 s) && decide (head0 s ≤ 57)) && !(head0 s == 45) && letters s) by unfold mayB; rw [decide_eq_true h1, decide_eq_true h2]; simp)
      go_enter Tryz.func84, Tryz.ntmps84
      go_wp2_with fail
      go_loopw [3, 4] (fun _ _ wr => ∃ k : Nat, k ≤ s.length ∧ wr = w.iter ⟨s.toArray⟩ k ∧ letters s = letters (s.drop k) ∧ (0 < k → ((48 ≤ head0 s ∧ head0 s ≤ 57) ∨ head0 s = 45) → False)) (fun _ _ wr => s.length - wr.iterPos w.heap.size)
      case atStart => exact ⟨0, by omega, rfl, rfl, by omega⟩
      case round =>
        obtain ⟨k, hk, rfl, hl, hf⟩ := hrel
        have HL := Lib.hid hl
        have HF := Lib.hid hf
        clear hl hf
        have hbz := iter_below w ⟨s.toArray⟩ k
        by_cases hlt : k < s.length
        · have hnx : ∀ ty, (Instr.next (.pointer (some ⟨w.heap.size, 0, none⟩)) true ty).run Tryz.prog (w.iter ⟨s.toArray⟩ k) = _ := fun ty => run_next_any (P := Tryz.prog) w ⟨s.toArray⟩ k ty (by simpa [ByteArray.size] using hlt)
          obtain ⟨hd1, hd2⟩ := dec_letter s k hlt
          have hle : letN (s.drop k) + k ≤ s.length := by have := letN_le (s.drop k); simp at this; omega
          have HS := Lib.hid (may03_stop hlt HL.out)
          have HG := Lib.hid (may03_loop hlt HL.out)
          by_cases h0 : letN (s.drop k) = 0
          · rw [decide_eq_false (by omega)] at hd1
            clear hd2
            have HE := Lib.hid (show mayB s = false by rw [M.out, HS.out (by rw [h0]; rfl)]; simp)
            clear h0 hle
            generalize (Utf8.decode ⟨s.toArray⟩ k).1 = c at hnx hd1
            generalize (Utf8.decode ⟨s.toArray⟩ k).2 = n at hnx
            have HD := Lib.hid hd1
            clear hd1
            go_wp2_with (go_at_call 122; refine (letter_name_calls _ _).mono ?_; rintro e w' ⟨rfl, rfl⟩; rw [HD.out])
            go_ret
            exact ⟨ret_bool HE.out.symm, iter_below _ _ _⟩
          · rw [decide_eq_true (by omega)] at hd1
            have hn := hd2 (by omega)
            by_cases hk0 : k = 0
            · subst hk0
              obtain ⟨c0, hc0⟩ := at_some hlt
              have hfl := first_letter hc0 (by simpa using (show 0 < letN (s.drop 0) by omega))
              clear hc0
              have HFL := Lib.hid hfl
              clear hfl
              have HG2 := Lib.hid (HG.out (by omega))
              have HN := Lib.hid hn
              rw [← hn] at hle h0
              clear hd2 hn
              generalize hcc : (Utf8.decode ⟨s.toArray⟩ 0).1 = c at hnx hd1 HFL
              generalize hcn : (Utf8.decode ⟨s.toArray⟩ 0).2 = n at hnx hle h0 HN
              clear hcc hcn
              have HD := Lib.hid hd1
              clear hd1
              by_cases h57 : (c : Int) ≤ 57
              · have HE := Lib.hid (show mayB s = false by
                  rw [M.out]
                  rcases HFL.out.1 h57 with ⟨a, b⟩ | a
                  · simp [a, b]
                  · simp [a])
                go_wp2_with (go_at_call 122; refine (letter_name_calls _ _).mono ?_; rintro e w' ⟨rfl, rfl⟩; rw [HD.out])
                go_ret
                exact ⟨ret_bool HE.out.symm, iter_below _ _ _⟩
              · go_wp2_with (go_at_call 122; refine (letter_name_calls _ _).mono ?_; rintro e w' ⟨rfl, rfl⟩; rw [HD.out])
                go_roundw
                case rel => exact ⟨n, by omega, by simp, by have := HG2.out; rw [← HN.out] at this; simpa using this, fun _ hx => by have := HFL.out.2 hx; omega⟩
                case measure => simp; omega
            · have hk1 : ((k : Int) == 0) = false := beq_eq_false_iff_ne.2 (by omega)
              have HG2 := Lib.hid (HG.out (by omega))
              have HN := Lib.hid hn
              rw [← hn] at hle h0
              clear hd2 hn
              generalize (Utf8.decode ⟨s.toArray⟩ k).1 = c at hnx hd1
              generalize (Utf8.decode ⟨s.toArray⟩ k).2 = n at hnx hle h0 HN
              have HD := Lib.hid hd1
              clear hd1
              go_wp2_with (go_at_call 122; refine (letter_name_calls _ _).mono ?_; rintro e w' ⟨rfl, rfl⟩; rw [HD.out])
              go_roundw
              case rel => exact ⟨k + n, by omega, by simp, by have := HG2.out; rw [← HN.out] at this; exact this, fun _ hx => HF.out (by omega) hx⟩
              case measure => simp; omega
        · obtain rfl : k = s.length := by omega
          have hnx : ∀ ty, (Instr.next (.pointer (some ⟨w.heap.size, 0, none⟩)) true ty).run Tryz.prog (w.iter ⟨s.toArray⟩ s.length) = _ := fun ty => run_next_end (P := Tryz.prog) w ⟨s.toArray⟩ s.length ty (by simp [ByteArray.size])
          have HE := Lib.hid (show mayB s = true by
            rw [M.out, HL.out]
            have hh := HF.out (by omega)
            have a1 : ¬ (48 ≤ head0 s ∧ head0 s ≤ 57) := fun h => hh (.inl h)
            have a2 : ¬ head0 s = 45 := fun h => hh (.inr h)
            simp [letters, a2]
            omega)
          go_wp2
          go_ret
          exact ⟨ret_bool HE.out.symm, iter_below _ _ _⟩
    · have h2' : (24 : Int) < s.length := by omega
      go_enter Tryz.func84, Tryz.ntmps84
      go_wp2
      go_ret
      exact ⟨ret_bool (by unfold mayB; rw [decide_eq_false h2]; simp), Below.refl _ _⟩
  · obtain rfl : s = [] := by
      cases s
      · rfl
      · simp at h1
    go_enter Tryz.func84, Tryz.ntmps84
    go_wp2
    go_ret
    exact ⟨ret_bool rfl, Below.refl _ _⟩
end Go.Proofs.YtdonhmdeijidkaaGreat
