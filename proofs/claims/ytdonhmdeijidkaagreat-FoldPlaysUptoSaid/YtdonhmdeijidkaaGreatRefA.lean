/-
  Walks: the reference's names, letter by letter (registrarref03).
-/
import Derived.Test.YtdonhmdeijidkaaGreatMem
import Derived.Test.YtdonhmdeijidkaaGreatProg
import Derived.WalkLawsBesides
import Derived.WalkSpells
import Derived.Outline
import Derived.Deep.LoopGhost
import Derived.Deep.QuietTactic
import Derived.BigQuiet
namespace Go.Proofs.YtdonhmdeijidkaaGreat
open Go.RowKit
attribute [local go_sem] ByteArray.extract_mk

theorem ret_bool {a b : Bool} (h : a = b) : Ending.returned (.bool a) = .returned (.bool b) := by rw [h]
theorem ret_int {k : IntKind} {a b : Int} (h : a = b) : Ending.returned (.int k a) = .returned (.int k b) := by rw [h]

def plainB (c : UInt8) : Bool := (decide (97 ≤ (c.toNat : Int)) && decide ((c.toNat : Int) ≤ 122)) || (decide (48 ≤ (c.toNat : Int)) && decide ((c.toNat : Int) ≤ 57)) || c == 45 || c == 95

theorem plain_calls (c : UInt8) (w : World) : Calls Tryz.prog 143 #[.int .u8 (c.toNat : Int)] w fun e w' => e = .returned (.bool (plainB c)) ∧ w = w' := by
  unfold plainB
  have e1 : (c == 45) = decide ((c.toNat : Int) = 45) := by rw [Bool.eq_iff_iff]; simp [← UInt8.toNat_inj]; omega
  have e2 : (c == 95) = decide ((c.toNat : Int) = 95) := by rw [Bool.eq_iff_iff]; simp [← UInt8.toNat_inj]; omega
  rw [e1, e2]
  clear e1 e2
  generalize (c.toNat : Int) = n
  go_enter Tryz.func143, Tryz.ntmps143
  go_wp2
  all_goals
    go_ret
    refine ⟨ret_bool ?_, rfl⟩
    rw [Bool.eq_iff_iff] <;> simp <;> omega

def letts : List Str := [[195, 169], [195, 184], [195, 159], [206, 187]]
def begB (s : Str) (at_ : Nat) (t : Str) : Bool := decide (at_ + t.length ≤ s.length) && ((s.drop at_).take t.length == t)

theorem letters_calls (w : World) : Calls Tryz.prog 144 #[] w fun e w' => (∃ A, e = .returned (.slice A 4 4) ∧ Strs w' w'.heap.size A letts) ∧ Below w.heap.size w w' := by
  go_enter Tryz.func144, Tryz.ntmps144
  go_wp2
  go_ret
  refine ⟨⟨_, rfl, fun _ => ⟨_, _, rfl, by simp, fun k s hs => ?_⟩⟩, (Below.refl _ _).alloc (Nat.le_refl _) _⟩
  have hk : k < 4 := (List.getElem?_eq_some_iff.1 hs).1
  rcases k with _ | _ | _ | _ | k
  all_goals first | omega | (simp [letts] at hs; subst hs; simp)

theorem begins_calls (s t : Str) (k : Nat) (hk : k ≤ s.length) (hs : s.length ≤ 1048576) (ht : t.length ≤ 1048576) (w : World) : Calls Tryz.prog 145 #[vS s, .int .i64 k, vS t] w fun e w' => e = .returned (.bool (begB s k t)) ∧ w = w' := by
  go_enter Tryz.func145, Tryz.ntmps145
  go_wp2
  · go_ret
    exact ⟨ret_bool (by unfold begB; rw [decide_eq_true (by omega)]; simp), rfl⟩
  · go_ret
    exact ⟨ret_bool (by unfold begB; rw [decide_eq_false (by omega)]; simp), rfl⟩

def two (c d : UInt8) : Bool := (c == 195 && (d == 169 || d == 184 || d == 159)) || (c == 206 && d == 187)
def letN : Str → Nat
  | [] => 0
  | c :: r => if plainB c then 1 else match r with | d :: _ => if two c d then 2 else 0 | [] => 0
theorem letN_plain {s : Str} {k : Nat} {c : UInt8} (hc : s[k]? = some c) (hp : plainB c = true) : letN (s.drop k) = 1 := by
  obtain ⟨hk, hcc⟩ := List.getElem?_eq_some_iff.1 hc
  rw [List.drop_eq_getElem_cons hk, hcc]
  simp [letN, hp]

theorem letN_two {s : Str} {k : Nat} {c : UInt8} (hc : s[k]? = some c) (hp : plainB c = false) : letN (s.drop k) = if letts.any (begB s k) then 2 else 0 := by
  obtain ⟨hk, hcc⟩ := List.getElem?_eq_some_iff.1 hc
  have hd : s.drop k = c :: s.drop (k + 1) := by rw [List.drop_eq_getElem_cons hk, hcc]
  rw [hd]
  have h0 : ∀ r, letN (c :: r) = match r with | d :: _ => if two c d then 2 else 0 | [] => 0 := fun r => by simp [letN, hp]
  rw [h0]
  have hb : ∀ a b, begB s k [a, b] = (decide (k + 2 ≤ s.length) && ((s.drop k).take 2 == [a, b])) := fun a b => rfl
  have hl : (s.drop (k + 1)).length = s.length - (k + 1) := by simp
  cases he : s.drop (k + 1) with
  | nil =>
    have : ¬ k + 2 ≤ s.length := by rw [he] at hl; simp at hl; omega
    simp [letts, hb, this]
  | cons d r =>
    have h2 : k + 2 ≤ s.length := by rw [he] at hl; simp at hl; omega
    simp only [letts, List.any_cons, List.any_nil, hb, hd, he, h2]
    simp only [two, List.take_succ_cons, List.take_zero, decide_true, Bool.true_and, Bool.or_false]
    congr 1
    simp only [eq_iff_iff, Bool.or_eq_true, Bool.and_eq_true, beq_iff_eq, List.cons.injEq, and_true]
    constructor
    · rintro (⟨rfl, (rfl | rfl) | rfl⟩ | ⟨rfl, rfl⟩) <;> simp
    · rintro (⟨rfl, rfl⟩ | ⟨rfl, rfl⟩ | ⟨rfl, rfl⟩ | ⟨rfl, rfl⟩) <;> simp

theorem bget {s : Str} {k : Nat} {c : UInt8} (hc : s[k]? = some c) : ∀ h, (ByteArray.mk s.toArray)[k]'h = c := fun h => by
  obtain ⟨_, e⟩ := List.getElem?_eq_some_iff.1 hc
  exact e

theorem letter_calls (s : Str) (k : Nat) (hk : k < s.length) (hs : s.length ≤ 1048576) (w : World) : Calls Tryz.prog 126 #[vS s, .int .i64 k] w fun e w' => e = .returned (.int .i64 (letN (s.drop k))) ∧ Below w.heap.size w w' := by
  obtain ⟨c, hc⟩ := at_some hk
  cases hp : plainB c with
  | true =>
    rw [letN_plain hc hp]
    have hb := bget hc
    clear hc
    go_enter Tryz.func126, Tryz.ntmps126
    go_wp2_with (go_at_call 143; refine (plain_calls _ _).mono ?_; rintro e w' ⟨rfl, rfl⟩; simp only [hp])
    go_ret
    exact ⟨rfl, Below.refl _ _⟩
  | false =>
    have E := Lib.hid (letN_two hc hp)
    have hb := bget hc
    clear hc
    go_enter Tryz.func126, Tryz.ntmps126
    go_wp2_with (first | (go_at_call 143; refine (plain_calls _ _).mono ?_; rintro e w' ⟨rfl, rfl⟩; simp only [hp]) | (go_at_call 144; refine (letters_calls _).mono ?_; rintro e w1 ⟨⟨A, rfl, hl⟩, hbw⟩))
    obtain ⟨b, off, rfl, hlt, hcl⟩ := hl (by simp [letts])
    go_loop [6] (fun i => ∃ j : Nat, j ≤ 4 ∧ i = .int .i64 j ∧ ∀ i y, letts[i]? = some y → i < j → begB s k y = false) (fun i => 4 - (intOf i).toNat)
    case atStart => exact ⟨0, by omega, rfl, by simp⟩
    case round =>
      obtain ⟨j, hj, rfl, hno⟩ := hrel
      have HN := Lib.hid hno
      clear hno
      by_cases hlt : j < 4
      · obtain ⟨x, hx⟩ : ∃ x, letts[j]? = some x := at_some hlt
        have hxl : x.length ≤ 1048576 := by
          have hm := List.mem_of_getElem? hx
          simp only [letts, List.mem_cons, List.not_mem_nil, or_false] at hm
          rcases hm with rfl | rfl | rfl | rfl <;> simp
        have h1 := hcl j x hx
        have HX := Lib.hid hx
        clear hcl hx
        go_wp2_with (go_at_call 145; refine (begins_calls s x k (by omega) hs hxl _).mono ?_; rintro e w' ⟨rfl, rfl⟩)
        · go_ret
          exact ⟨ret_int (by rw [E.out, if_pos (any_hit HX.out ‹_›)]; rfl), hbw⟩
        · go_round
          case rel => exact ⟨j + 1, by omega, by go_num, no_succ HN.out HX.out ‹_›⟩
          case measure => simp [intOf]; omega
      · obtain rfl : j = 4 := by omega
        clear hcl
        go_wp2
        go_ret
        exact ⟨ret_int (by rw [E.out, any_miss (p := begB s k) (l := letts) (fun i y h hi => HN.out i y h hi)]; rfl), hbw⟩

def letters : Str → Bool
  | [] => true
  | [c] => plainB c
  | c :: d :: r => if plainB c then letters (d :: r) else two c d && letters r
theorem letters_eq {s : Str} (h : s ≠ []) : letters s = (decide (0 < letN s) && letters (s.drop (letN s))) := by
  match s, h with
  | [c], _ => cases hp : plainB c <;> simp [letters, letN, hp]
  | c :: d :: r, _ =>
    cases hp : plainB c
    · cases ht : two c d <;> simp [letters, letN, hp, ht]
    · simp [letters, letN, hp]
theorem letN_le (s : Str) : letN s ≤ s.length := by
  match s with
  | [] => simp [letN]
  | [c] => cases hp : plainB c <;> simp [letN, hp]
  | c :: d :: r => cases hp : plainB c <;> cases ht : two c d <;> simp [letN, hp, ht]
def head0 (s : Str) : Int := ((s.head?.getD 0).toNat : Int)
theorem head0_eq {s : Str} {c : UInt8} (hc : s[0]? = some c) : head0 s = (c.toNat : Int) := by
  unfold head0; rw [List.head?_eq_getElem?, hc]; rfl
/-- A name. -/
def mayB (s : Str) : Bool := decide (1 ≤ s.length) && decide (s.length ≤ 24) && !(decide (48 ≤ head0 s) && decide (head0 s ≤ 57)) && !(head0 s == 45) && letters s
theorem mayB_small {s : Str} (h : mayB s = true) : 1 ≤ s.length ∧ s.length ≤ 24 := by
  unfold mayB at h; simp at h; omega

theorem may03_loop {s : Str} {k : Nat} (hk : k < s.length) (h : letters s = letters (s.drop k)) (h0 : (letN (s.drop k) : Int) ≠ 0) : letters s = letters (s.drop (k + letN (s.drop k))) := by
  rw [h, letters_eq (s := s.drop k) (by simp; omega), List.drop_drop]
  have : 0 < letN (s.drop k) := by omega
  simp [this]
theorem may03_stop {s : Str} {k : Nat} (hk : k < s.length) (h : letters s = letters (s.drop k)) (h0 : (letN (s.drop k) : Int) = 0) : letters s = false := by
  rw [h, letters_eq (s := s.drop k) (by simp; omega)]
  have : letN (s.drop k) = 0 := by omega
  simp [this]

theorem may03_calls (s : Str) (hs : s.length ≤ 1048576) (w : World) : Calls Tryz.prog 87 #[vS s] w fun e w' => e = .returned (.bool (mayB s)) ∧ Below w.heap.size w w' := by
  by_cases h1 : 1 ≤ s.length
  · by_cases h2 : s.length ≤ 24
    · obtain ⟨c, hc⟩ := at_some (l := s) (k := 0) (by omega)
      have hb := bget hc
      have hh := head0_eq hc
      clear hc
      generalize hn : (c.toNat : Int) = n at hh
      have hb' : ∀ h, ((((ByteArray.mk s.toArray)[0]'h).toNat : Nat) : Int) = n := fun h => by rw [hb h]; exact hn
      clear hb hn
      have M := Lib.hid (show mayB s = (!(decide (48 ≤ n) && decide (n ≤ 57)) && !(n == 45) && letters s) by unfold mayB; rw [decide_eq_true h1, decide_eq_true h2, hh]; simp)
      clear hh
      by_cases hg : (48 ≤ n ∧ n ≤ 57) ∨ n = 45
      · have M2 := Lib.hid (show mayB s = false by rw [M.out]; rcases hg with ⟨a, b⟩ | rfl <;> simp [*])
        clear M
        rcases hg with ⟨ha, hb⟩ | rfl
        all_goals
          go_enter Tryz.func87, Tryz.ntmps87
          go_wp2
          go_ret
          exact ⟨ret_bool M2.out.symm, Below.refl _ _⟩
      · have M2 := Lib.hid (show mayB s = letters s by
          rw [M.out]
          have a1 : (decide (48 ≤ n) && decide (n ≤ 57)) = false := by simp; omega
          have a2 : (n == 45) = false := by simp; omega
          rw [a1, a2]; simp)
        clear M
        have hg1 : n < 48 ∨ 57 < n := by omega
        have hg2 : (n == 45) = false := by simp; omega
        clear hg
        rcases hg1 with hg1 | hg1
        all_goals
          go_enter Tryz.func87, Tryz.ntmps87
          go_wp2
          go_loopw [3, 4] (fun at_ _ wr => (∃ k : Nat, k ≤ s.length ∧ at_ = .int .i64 k ∧ letters s = letters (s.drop k)) ∧ Below w.heap.size w wr) (fun at_ _ _ => s.length - (intOf at_).toNat)
          case atStart => exact ⟨⟨0, by omega, rfl, rfl⟩, Below.refl _ _⟩
          case round =>
            obtain ⟨⟨k, hk, rfl, hl⟩, hbw⟩ := hrel
            have HL := Lib.hid hl
            clear hl
            by_cases hlt : k < s.length
            · have hle : (letN (s.drop k) : Int) + k ≤ s.length := by have := letN_le (s.drop k); simp at this; omega
              have h0le : (0 : Int) ≤ letN (s.drop k) := by omega
              generalize hm : (letN (s.drop k)) = m at hle h0le
              have HM := Lib.hid hm
              clear hm
              go_wp2_with (go_at_call 126; refine (letter_calls s k hlt hs _).mono ?_; rintro e w1 ⟨rfl, hb1⟩; rw [HM.out])
              · go_ret
                exact ⟨ret_bool (by rw [M2.out, may03_stop hlt HL.out (by rw [HM.out]; simpa using ‹((m : Int) == 0) = true›)]), hbw.trans (hb1.mono hbw.size)⟩
              · go_roundw
                case rel => exact ⟨⟨k + m, by omega, by go_num, by rw [← HM.out]; exact may03_loop hlt HL.out (by rw [HM.out]; simpa using ‹((m : Int) == 0) = false›)⟩, hbw.trans (hb1.mono hbw.size)⟩
                case measure =>
                  have : (m : Int) ≠ 0 := by simpa using ‹((m : Int) == 0) = false›
                  simp [intOf]; omega
            · obtain rfl : k = s.length := by omega
              go_wp2
              go_ret
              exact ⟨ret_bool (by rw [M2.out, HL.out]; simp [letters]), hbw⟩
    · go_enter Tryz.func87, Tryz.ntmps87
      go_wp2
      go_ret
      exact ⟨ret_bool (by unfold mayB; rw [decide_eq_false h2]; simp), Below.refl _ _⟩
  · go_enter Tryz.func87, Tryz.ntmps87
    go_wp2
    go_ret
    exact ⟨ret_bool (by unfold mayB; rw [decide_eq_false h1]; simp), Below.refl _ _⟩
end Go.Proofs.YtdonhmdeijidkaaGreat
