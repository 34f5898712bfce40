/-
  Walks: event.Value, fold.fits, (*fold.State).keeps.
-/
import Derived.Test.YtdonhmdeijidkaaGreatNorm
import Derived.Test.YtdonhmdeijidkaaGreatMapA
import Derived.Stop.Asserts
namespace Go.Proofs.YtdonhmdeijidkaaGreat
open Go.RowKit

theorem value_event_calls (w : World) (s t f : Str) (tA fA : Option Addr) (tn tc fc : Nat) (fl : List Fld) (hf : Flds w w.heap.size fA fl) (hn : fl.length ≤ 1048576) :
    Calls Tryz.prog 191 #[.agg #[vS s, vS t, .slice tA tn tc, .slice fA fl.length fc], vS f] w fun e w' =>
      e = .returned (.tuple #[.int .i64 ((fieldOf fl f).getD 0), .bool (fieldOf fl f).isSome]) ∧ Below w.heap.size w w' := by
  have hb0 : Below w.heap.size w (w.alloc (.cells #[vS s, vS t, .slice tA tn tc, .slice fA fl.length fc] 45)) := (Below.refl w.heap.size w).alloc (Nat.le_refl _) _
  go_enter Tryz.func191, Tryz.ntmps191
  go_wp2
  go_loopw [7, 11] (fun _ i wr => (∃ k : Nat, k ≤ fl.length ∧ i = .int .i64 k ∧ ∀ j y, fl[j]? = some y → j < k → (y.1 == f) = false) ∧ Below w.heap.size w wr) (fun _ i _ => fl.length - (intOf i).toNat)
  case atStart => exact ⟨⟨0, Nat.zero_le _, rfl, by simp⟩, hb0⟩
  case round =>
    obtain ⟨⟨k, hk, rfl, hno⟩, hbw⟩ := hrel
    have HN := Lib.hid hno
    clear hno
    by_cases hlt : k < fl.length
    · obtain ⟨b, off, rfl, hb, hc⟩ := hf.same (same_below hbw) (ne_nil_of hlt)
      obtain ⟨x, hx⟩ := at_some hlt
      obtain ⟨h1, h2⟩ := hc k x hx
      have HX := Lib.hid hx
      have hbz := hbw.alloc (o := .cells #[vS x.1, .int .i64 x.2] 90) hbw.size
      clear hc hf hx
      go_wp2
      · go_ret2
        exact ⟨by rw [fieldOf_hit HN.out HX.out ‹_›]; rfl, hbz⟩
      · go_roundw
        case rel => exact ⟨⟨k + 1, by omega, by go_num, no_succ HN.out HX.out ‹_›⟩, hbz⟩
        case measure => simp [intOf]; omega
    · obtain rfl : k = fl.length := by omega
      clear hf
      go_wp2
      go_ret2
      exact ⟨by rw [fieldOf_miss HN.out]; rfl, hbw⟩

def fitsB (n : Int) : Bool := decide (-1125899906842624 ≤ n) && decide (n ≤ 1125899906842624)
theorem fits_calls (n : Int) (w : World) : Calls Tryz.prog 47 #[.int .i64 n] w fun e w' => e = .returned (.bool (fitsB n)) ∧ w = w' := by
  unfold fitsB
  by_cases h1 : -1125899906842624 ≤ n
  · go_enter Tryz.func47, Tryz.ntmps47
    go_wp2
    go_ret
    exact ⟨ret_bool (by simp [h1]), rfl⟩
  · have h2 : n < -1125899906842624 := by omega
    go_enter Tryz.func47, Tryz.ntmps47
    go_wp2
    go_ret
    exact ⟨ret_bool (by rw [show decide (-1125899906842624 ≤ n) = false from decide_eq_false (by omega)]; rfl), rfl⟩

/-- The four kinds. -/
def kindK (k : Int) (f : Str) : Value := kindV ⟨k, f, []⟩
noncomputable def keeperWant : Array (String × TypeId) := match Tryz.prog.underlying 155 with | some (.interface w) => w | _ => #[]
theorem keeper_under : Tryz.prog.underlying 155 = some (.interface keeperWant) := by kernel_rfl
theorem keeper_sum : (Tryz.prog.info? 148).map (fun i => (lacking keeperWant i.methods).isEmpty) = some false := by kernel_rfl
theorem keeper_members : (Tryz.prog.info? 151).map (fun i => (lacking keeperWant i.methods).isEmpty) = some false := by kernel_rfl
theorem keeper_count : (Tryz.prog.info? 152).map (fun i => (lacking keeperWant i.methods).isEmpty) = some false := by kernel_rfl
theorem keeper_latest : (Tryz.prog.info? 149).map (fun i => (lacking keeperWant i.methods).isEmpty) = some true := by kernel_rfl
theorem keeper_zero : (Tryz.prog.info? 155).map (·.zero) = some (some .nilIface) := by kernel_rfl
theorem assert_sum (v : Value) (w : World) : (Instr.typeAssert (.iface 148 v) 95 155 true).run Tryz.prog w = .ok (.tuple #[.nilIface, .bool false]) w := by
  exact run_typeAssert_lacksB keeper_under keeper_sum keeper_zero _ _ _
theorem assert_latest (v : Value) (w : World) : (Instr.typeAssert (.iface 149 v) 95 155 true).run Tryz.prog w = .ok (.tuple #[.iface 149 v, .bool true]) w := by
  exact run_typeAssert_hasB keeper_under keeper_latest _ _ _
theorem assert_members (v : Value) (w : World) : (Instr.typeAssert (.iface 151 v) 95 155 true).run Tryz.prog w = .ok (.tuple #[.nilIface, .bool false]) w := by
  exact run_typeAssert_lacksB keeper_under keeper_members keeper_zero _ _ _
theorem assert_count (v : Value) (w : World) : (Instr.typeAssert (.iface 152 v) 95 155 true).run Tryz.prog w = .ok (.tuple #[.nilIface, .bool false]) w := by
  exact run_typeAssert_lacksB keeper_under keeper_count keeper_zero _ _ _

theorem keeps_any (w : World) (sb T : Nat) (x u v y : Value) (b : Bool) (h : Blk w sb 100 #[.iface T x, u, v]) (hT : ∀ w, (Instr.typeAssert (.iface T x) 95 155 true).run Tryz.prog w = .ok (.tuple #[y, .bool b]) w) :
    Calls Tryz.prog 48 #[.pointer (some ⟨sb, 0, none⟩)] w fun e w' => e = .returned (.bool b) ∧ w = w' := by
  obtain ⟨c0, c1, c2⟩ := h.three
  clear h c1 c2
  go_enter Tryz.func48, Tryz.ntmps48
  go_wp2
  go_ret
  exact ⟨rfl, rfl⟩
theorem keeps_calls (w : World) (sb : Nat) (k : Int) (f : Str) (u v : Value) (h : Blk w sb 100 #[kindK k f, u, v]) :
    Calls Tryz.prog 48 #[.pointer (some ⟨sb, 0, none⟩)] w fun e w' => e = .returned (.bool (decide (k = 3))) ∧ w = w' := by
  unfold kindK kindV at h
  simp only at h
  by_cases h2 : k = 2
  · rw [if_pos h2] at h
    rw [decide_eq_false (by omega)]
    exact keeps_any w sb _ _ u v _ false h (assert_sum _)
  · rw [if_neg h2] at h
    by_cases h3 : k = 3
    · rw [if_pos h3] at h
      rw [decide_eq_true h3]
      exact keeps_any w sb _ _ u v _ true h (assert_latest _)
    · rw [if_neg h3] at h
      rw [decide_eq_false h3]
      by_cases h4 : k = 4
      · rw [if_pos h4] at h
        exact keeps_any w sb _ _ u v _ false h (assert_members _)
      · rw [if_neg h4] at h
        exact keeps_any w sb _ _ u v _ false h (assert_count _)
end Go.Proofs.YtdonhmdeijidkaaGreat
