/-
  Walks: strings.Cut at a colon, name.Parts, name.MayTag.
-/
import Derived.Test.YtdonhmdeijidkaaGreatNameB
import Derived.Laws.Externs
import Derived.Lib.Bytealg
namespace Go.Proofs.YtdonhmdeijidkaaGreat
open Go.RowKit
attribute [local go_sem] ByteArray.extract_mk take_rest

def colonAt (s : Str) : Int := if s.findIdx (· == 58) < s.length then (s.findIdx (· == 58) : Int) else -1

theorem ext_indexByte (s : Str) (c : Int) (w : World) : (callFunc 172 #[.string ⟨s.toArray⟩, .int .u8 c]).run Tryz.prog w = .ok (.value (.int .i64 (Lib.indexByte s c.toNat.toUInt8))) w := by
  rw [run_callFunc_extern Tryz.func172 (by kernel_rfl) (by kernel_rfl) (by kernel_rfl) (by kernel_rfl)]
  rw [Lib.run_indexByteString]
  rfl
theorem indexByte_colon (s : Str) : Lib.indexByte s 58 = colonAt s := by
  unfold colonAt
  induction s with
  | nil => simp [Lib.indexByte]
  | cons c r ih =>
    simp only [Lib.indexByte, ih, List.findIdx_cons, List.length_cons]
    cases hc : c == 58
    · by_cases h : r.findIdx (· == 58) < r.length
      · have e : ((r.findIdx (· == 58) : Int) == -1) = false := beq_eq_false_iff_ne.2 (by omega)
        rw [if_pos h, e]
        simp [h]
      · rw [if_neg h]
        have : ¬ (r.findIdx (· == 58) + 1 < r.length + 1) := by omega
        simp [this]
    · simp

set_option maxRecDepth 100000 in
theorem index_colon_calls (s : Str) (hs : s.length ≤ 1048576) (w : World) : Calls Tryz.prog 167 #[vS s, vS [58]] w fun e w' => e = .returned (.int .i64 (colonAt s)) ∧ w = w' := by
  have hx := ext_indexByte s 58
  by_cases h58 : s = [58]
  · subst h58
    go_enter Tryz.func167, Tryz.ntmps167
    go_wp2
    go_ret
    exact ⟨ret_int (by decide), rfl⟩
  · have g1 : (([58] : Str) == s) = false := by simp; exact fun h => h58 h.symm
    have E := Lib.hid (indexByte_colon s)
    have hb : ∀ h, (((ByteArray.mk #[58])[0]'h).toNat : Int) = 58 := fun h => rfl
    clear h58
    go_enter Tryz.func167, Tryz.ntmps167
    go_wp2
    go_ret
    exact ⟨ret_int E.out, rfl⟩

theorem ret_sstv {a b : ByteArray} {x : Bool} {c d : ByteArray} {y : Bool} (h1 : a = c) (h2 : b = d) (h3 : x = y) : Ending.returned (.tuple #[.string a, .string b, .bool x]) = .returned (.tuple #[.string c, .string d, .bool y]) := by rw [h1, h2, h3]
/-- What is ahead of the first colon, what behind it. -/
def cutA (s : Str) : Str := s.take (s.findIdx (· == 58))
def cutB (s : Str) : Str := s.drop (s.findIdx (· == 58) + 1)
def hasC (s : Str) : Bool := decide (s.findIdx (· == 58) < s.length)

theorem cutlite_calls (s : Str) (hs : s.length ≤ 1048576) (w : World) : Calls Tryz.prog 165 #[vS s, vS [58]] w fun e w' => e = .returned (.tuple #[vS (cutA s), vS (cutB s), .bool (hasC s)]) ∧ Below w.heap.size w w' := by
  unfold cutA cutB hasC
  by_cases hlt : s.findIdx (· == 58) < s.length
  · have hc : colonAt s = (s.findIdx (· == 58) : Int) := by unfold colonAt; rw [if_pos hlt]
    rw [decide_eq_true hlt]
    generalize s.findIdx (· == 58) = k at *
    have HC := Lib.hid hc
    clear hc
    go_enter Tryz.func165, Tryz.ntmps165
    go_wp2_with (go_at_call 167; refine (index_colon_calls s hs _).mono ?_; rintro e w' ⟨rfl, rfl⟩; rw [HC.out])
    go_quiet (fail)
    go_wp2
    go_ret3
    exact ⟨rfl, below_drewN (Below.refl _ _) _⟩
  · have hc : colonAt s = -1 := by unfold colonAt; rw [if_neg hlt]
    have hk : s.findIdx (· == 58) = s.length := by
      have := List.findIdx_le_length (p := (· == 58)) (xs := s); omega
    have ea : s.take (s.findIdx (· == 58)) = s := by rw [hk]; simp
    have eb : s.drop (s.findIdx (· == 58) + 1) = [] := by rw [hk]; simp
    rw [decide_eq_false hlt, ea, eb]
    have HC := Lib.hid hc
    clear hc hk ea eb hlt
    go_enter Tryz.func165, Tryz.ntmps165
    go_wp2_with (go_at_call 167; refine (index_colon_calls s hs _).mono ?_; rintro e w' ⟨rfl, rfl⟩; rw [HC.out])
    go_ret3
    exact ⟨rfl, Below.refl _ _⟩

theorem cut_calls (s : Str) (hs : s.length ≤ 1048576) (w : World) : Calls Tryz.prog 158 #[vS s, vS [58]] w fun e w' => e = .returned (.tuple #[vS (cutA s), vS (cutB s), .bool (hasC s)]) ∧ Below w.heap.size w w' := by
  generalize ha : cutA s = a
  generalize hb : cutB s = b
  generalize hc : hasC s = c
  have HA := Lib.hid ha
  have HB := Lib.hid hb
  have HC := Lib.hid hc
  clear ha hb hc
  go_enter Tryz.func158, Tryz.ntmps158
  go_wp2_with (go_at_call 165; refine (cutlite_calls s hs _).mono ?_; rintro e w' ⟨rfl, hbw⟩; rw [HA.out, HB.out, HC.out])
  go_ret3
  exact ⟨rfl, hbw⟩

theorem cutA_le (s : Str) : (cutA s).length ≤ s.length := by unfold cutA; simp; omega
theorem cutB_le (s : Str) : (cutB s).length ≤ s.length := by unfold cutB; simp
theorem may_nil : mayB [] = false := by decide
theorem tagB_eq (s : Str) : tagB s = (mayB (cutA s) && mayB (cutB s)) := by
  unfold tagB cutA cutB
  by_cases hlt : s.findIdx (· == 58) < s.length
  · rw [decide_eq_true hlt]; simp
  · have hk : s.findIdx (· == 58) = s.length := by
      have := List.findIdx_le_length (p := (· == 58)) (xs := s); omega
    have e : s.drop (s.length + 1) = [] := List.drop_of_length_le (by omega)
    rw [hk, e, may_nil]
    simp

theorem parts_name_calls (s : Str) (hs : s.length ≤ 1048576) (w : World) : Calls Tryz.prog 139 #[vS s] w fun e w' => (∃ a b : ByteArray, e = .returned (.tuple #[.string a, .string b, .bool (tagB s)])) ∧ Below w.heap.size w w' := by
  have la := cutA_le s
  have lb := cutB_le s
  have E := tagB_eq s
  generalize ha : cutA s = a at *
  generalize hb : cutB s = b at *
  generalize hc : hasC s = c
  generalize hma : mayB a = x at E
  generalize hmb : mayB b = y at E
  have HE := Lib.hid E
  have HA := Lib.hid ha
  have HB := Lib.hid hb
  have HC := Lib.hid hc
  have HMA := Lib.hid hma
  have HMB := Lib.hid hmb
  clear ha hb hc hma hmb E
  go_enter Tryz.func139, Tryz.ntmps139
  go_wp2_with fail
  refine (cut_calls s hs _).mono ?_
  rintro e w1 ⟨rfl, hb1⟩
  rw [HA.out, HB.out, HC.out]
  go_wp2_with fail
  refine (may_name_calls a (by omega) _).mono ?_
  rintro e w2 ⟨rfl, hb2⟩
  rw [HMA.out]
  have hbz := hb1.trans (hb2.mono hb1.size)
  cases x
  · go_wp2
    go_ret3
    exact ⟨⟨_, _, ret_sst (by rw [HE.out]; rfl)⟩, hbz⟩
  · go_wp2_with fail
    refine (may_name_calls b (by omega) _).mono ?_
    rintro e w3 ⟨rfl, hb3⟩
    rw [HMB.out]
    have hbz3 := hbz.trans (hb3.mono hbz.size)
    cases y
    all_goals
      go_wp2
      go_ret3
      exact ⟨⟨_, _, ret_sst (by rw [HE.out]; rfl)⟩, hbz3⟩

theorem maytag_calls (s : Str) (hs : s.length ≤ 1048576) (w : World) : Calls Tryz.prog 118 #[vS s] w fun e w' => e = .returned (.bool (tagB s)) ∧ Below w.heap.size w w' := by
  generalize hc : tagB s = c
  have HC := Lib.hid hc
  clear hc
  go_enter Tryz.func118, Tryz.ntmps118
  go_wp2_with fail
  refine (parts_name_calls s hs _).mono ?_
  rintro e w1 ⟨⟨a, b, rfl⟩, hb1⟩
  rw [HC.out]
  go_wp2
  go_ret
  exact ⟨rfl, hb1⟩
end Go.Proofs.YtdonhmdeijidkaaGreat
