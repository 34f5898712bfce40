/-
  Walks: the library's small functions on rows of texts and of clauses: Index, Contains, IndexFunc, ContainsFunc.
-/
import Derived.Test.YtdonhmdeijidkaaGreatNameC
import Derived.Shelf.Abstract
namespace Go.Proofs.YtdonhmdeijidkaaGreat
open Go.RowKit Go.Shelf

theorem same_drewN {B : Nat} {w w' : World} (h : Same B w w') (n : Nat) : Same B w (w'.drewN n) := h

theorem index_str_calls (w : World) (A : Option Addr) (c : Nat) (l : List Str) (v : Str) (h : Strs w w.heap.size A l) (hn : l.length ≤ 1048576) :
    Calls Tryz.prog 129 #[.slice A l.length c, vS v] w fun e w' => (∃ i : Int, e = .returned (.int .i64 i) ∧ decide (0 ≤ i) = l.any (· == v)) ∧ w = w' := by
  go_enter Tryz.func129, Tryz.ntmps129
  go_wp2
  go_loop [5, 8] (fun _ i => ∃ k : Nat, k ≤ l.length ∧ i = .int .i64 k ∧ ∀ j y, l[j]? = some y → j < k → (y == v) = false) (fun _ i => l.length - (intOf i).toNat)
  case atStart => exact ⟨0, by omega, rfl, by simp⟩
  case round =>
    obtain ⟨k, hk, rfl, hno⟩ := hrel
    have HN := Lib.hid hno
    clear hno
    by_cases hlt : k < l.length
    · obtain ⟨b, off, rfl, hb, hc⟩ := h (ne_nil_of hlt)
      obtain ⟨x, hx⟩ := at_some hlt
      have h1 := hc k x hx
      have HX := Lib.hid hx
      clear hc h hx
      cases hq : x == v
      · have hq' : (v == x) = false := by rw [← hq]; exact Bool.beq_comm
        have HQ := Lib.hid hq
        clear hq
        go_wp2
        go_round
        case rel => exact ⟨k + 1, by omega, by go_num, no_succ (p := (· == v)) HN.out HX.out HQ.out⟩
        case measure => simp [intOf]; omega
      · have hq' : (v == x) = true := by rw [← hq]; exact Bool.beq_comm
        have HQ := Lib.hid hq
        clear hq
        go_wp2
        go_ret
        exact ⟨⟨_, rfl, by rw [any_hit (p := (· == v)) HX.out HQ.out]; simp⟩, rfl⟩
    · obtain rfl : k = l.length := by omega
      clear h
      go_wp2
      go_ret
      exact ⟨⟨_, rfl, by rw [any_miss (p := (· == v)) HN.out]; rfl⟩, rfl⟩

theorem contains_str_calls (w : World) (A : Option Addr) (c : Nat) (l : List Str) (v : Str) (h : Strs w w.heap.size A l) (hn : l.length ≤ 1048576) :
    Calls Tryz.prog 96 #[.slice A l.length c, vS v] w fun e w' => e = .returned (.bool (l.any (· == v))) ∧ w = w' := by
  go_enter Tryz.func96, Tryz.ntmps96
  go_wp2_with fail
  refine (index_str_calls w A c l v h hn).mono ?_
  rintro e w1 ⟨⟨i, rfl, hi⟩, rfl⟩
  have HI := Lib.hid hi
  clear hi
  go_wp2
  go_ret
  exact ⟨ret_bool HI.out, rfl⟩

/-- A function value that tells of a text whether p holds, in every later world. -/
def PredS (g : FuncId) (lb : Array Value) (p : Str → Bool) (l : List Str) (w : World) : Prop :=
  (∀ args W, (callFunc g args).run Tryz.prog W = .ok (.enter g args) W) ∧
  ∀ x, x ∈ l → ∀ W, Below w.heap.size w W → Calls Tryz.prog g (#[vS x] ++ lb) W fun e w' => e = .returned (.bool (p x)) ∧ Below W.heap.size W w'

theorem indexfunc_str_calls (w : World) (A : Option Addr) (c : Nat) (l : List Str) (g : FuncId) (lb : Array Value) (p : Str → Bool) (h : Strs w w.heap.size A l) (hn : l.length ≤ 1048576) (hp : PredS g lb p l w) :
    Calls Tryz.prog 128 #[.slice A l.length c, .func (.func g) #[] lb] w fun e w' => (∃ i : Int, e = .returned (.int .i64 i) ∧ decide (0 ≤ i) = l.any p) ∧ Below w.heap.size w w' := by
  obtain ⟨hg, hp⟩ := hp
  go_enter Tryz.func128, Tryz.ntmps128
  go_wp2
  go_loopw [5, 8] (fun _ i wr => (∃ k : Nat, k ≤ l.length ∧ i = .int .i64 k ∧ ∀ j y, l[j]? = some y → j < k → p y = false) ∧ Below w.heap.size w wr) (fun _ i _ => l.length - (intOf i).toNat)
  case atStart => exact ⟨⟨0, by omega, rfl, by simp⟩, Below.refl _ _⟩
  case round =>
    obtain ⟨⟨k, hk, rfl, hno⟩, hbw⟩ := hrel
    have HN := Lib.hid hno
    clear hno
    by_cases hlt : k < l.length
    · obtain ⟨b, off, rfl, hb, hc⟩ := h.same (same_below hbw) (ne_nil_of hlt)
      obtain ⟨x, hx⟩ := at_some hlt
      have h1 := hc k x hx
      have hpx := Lib.hid (hp x (List.mem_of_getElem? hx) wr hbw)
      have HX := Lib.hid hx
      clear hc h hx hp
      go_wp2_with fail
      refine hpx.out.mono ?_
      rintro e w1 ⟨rfl, hb1⟩
      have hbz := hbw.trans (hb1.mono hbw.size)
      clear hpx
      cases hq : p x
      · have HQ := Lib.hid hq
        clear hq
        go_wp2
        go_roundw
        case rel => exact ⟨⟨k + 1, by omega, by go_num, no_succ HN.out HX.out HQ.out⟩, hbz⟩
        case measure => simp [intOf]; omega
      · have HQ := Lib.hid hq
        clear hq
        go_wp2
        go_ret
        exact ⟨⟨_, rfl, by rw [any_hit HX.out HQ.out]; simp⟩, hbz⟩
    · obtain rfl : k = l.length := by omega
      clear h hp
      go_wp2
      go_ret
      exact ⟨⟨_, rfl, by rw [any_miss HN.out]; rfl⟩, hbw⟩

theorem containsfunc_str_calls (w : World) (A : Option Addr) (c : Nat) (l : List Str) (g : FuncId) (lb : Array Value) (p : Str → Bool) (h : Strs w w.heap.size A l) (hn : l.length ≤ 1048576) (hp : PredS g lb p l w) :
    Calls Tryz.prog 95 #[.slice A l.length c, .func (.func g) #[] lb] w fun e w' => e = .returned (.bool (l.any p)) ∧ Below w.heap.size w w' := by
  have H := Lib.hid hp
  clear hp
  go_enter Tryz.func95, Tryz.ntmps95
  go_wp2_with fail
  refine (indexfunc_str_calls w A c l g lb p h hn H.out).mono ?_
  rintro e w1 ⟨⟨i, rfl, hi⟩, hb1⟩
  have HI := Lib.hid hi
  clear hi
  go_wp2
  go_ret
  exact ⟨ret_bool HI.out, hb1⟩

/-- The value of a clause whose rows lie at these places. -/
abbrev vCl (tA : Option Addr) (tc : Nat) (yA : Option Addr) (yc : Nat) (c : Cl) : Value := .agg #[.slice tA c.tags.length tc, .slice yA c.types.length yc]
/-- A function value that tells of a clause whether p holds, in every later world. -/
def PredC (g : FuncId) (lb : Array Value) (p : Cl → Bool) (l : List Cl) (w : World) : Prop :=
  (∀ args W, (callFunc g args).run Tryz.prog W = .ok (.enter g args) W) ∧
  ∀ x, x ∈ l → ∀ tA tc yA yc, Strs w w.heap.size tA x.tags → Strs w w.heap.size yA x.types → ∀ W, Below w.heap.size w W → Calls Tryz.prog g (#[vCl tA tc yA yc x] ++ lb) W fun e w' => e = .returned (.bool (p x)) ∧ Below W.heap.size W w'

theorem indexfunc_cl_calls (w : World) (A : Option Addr) (c : Nat) (l : List Cl) (g : FuncId) (lb : Array Value) (p : Cl → Bool) (h : Cls w w.heap.size A l) (hn : l.length ≤ 1048576) (hp : PredC g lb p l w) :
    Calls Tryz.prog 146 #[.slice A l.length c, .func (.func g) #[] lb] w fun e w' => (∃ i : Int, e = .returned (.int .i64 i) ∧ decide (0 ≤ i) = l.any p) ∧ Below w.heap.size w w' := by
  obtain ⟨hg, hp⟩ := hp
  go_enter Tryz.func146, Tryz.ntmps146
  go_wp2
  go_loopw [5, 8] (fun _ i wr => (∃ k : Nat, k ≤ l.length ∧ i = .int .i64 k ∧ ∀ j y, l[j]? = some y → j < k → p y = false) ∧ Below w.heap.size w wr) (fun _ i _ => l.length - (intOf i).toNat)
  case atStart => exact ⟨⟨0, by omega, rfl, by simp⟩, Below.refl _ _⟩
  case round =>
    obtain ⟨⟨k, hk, rfl, hno⟩, hbw⟩ := hrel
    have HN := Lib.hid hno
    clear hno
    by_cases hlt : k < l.length
    · obtain ⟨b, off, rfl, hb, hc⟩ := h (ne_nil_of hlt)
      obtain ⟨x, hx⟩ := at_some hlt
      obtain ⟨tA, tc, yA, yc, h1, h2, h3, h4⟩ := hc k x hx
      have h1' := (hbw.cell (p := ⟨b, off + k * 2, none⟩) hb).trans h1
      have h2' := (hbw.cell (p := ⟨b, off + k * 2 + 1, none⟩) hb).trans h2
      have hpx := Lib.hid (hp x (List.mem_of_getElem? hx) tA tc yA yc h3 h4 wr hbw)
      have HX := Lib.hid hx
      clear hc h hx hp h1 h2
      go_wp2_with fail
      refine hpx.out.mono ?_
      rintro e w1 ⟨rfl, hb1⟩
      have hbz := hbw.trans (hb1.mono hbw.size)
      clear hpx
      cases hq : p x
      · have HQ := Lib.hid hq
        clear hq
        go_wp2
        go_roundw
        case rel => exact ⟨⟨k + 1, by omega, by go_num, no_succ HN.out HX.out HQ.out⟩, hbz⟩
        case measure => simp [intOf]; omega
      · have HQ := Lib.hid hq
        clear hq
        go_wp2
        go_ret
        exact ⟨⟨_, rfl, by rw [any_hit HX.out HQ.out]; simp⟩, hbz⟩
    · obtain rfl : k = l.length := by omega
      clear h hp
      go_wp2
      go_ret
      exact ⟨⟨_, rfl, by rw [any_miss HN.out]; rfl⟩, hbw⟩

theorem containsfunc_cl_calls (w : World) (A : Option Addr) (c : Nat) (l : List Cl) (g : FuncId) (lb : Array Value) (p : Cl → Bool) (h : Cls w w.heap.size A l) (hn : l.length ≤ 1048576) (hp : PredC g lb p l w) :
    Calls Tryz.prog 127 #[.slice A l.length c, .func (.func g) #[] lb] w fun e w' => e = .returned (.bool (l.any p)) ∧ Below w.heap.size w w' := by
  have H := Lib.hid hp
  clear hp
  go_enter Tryz.func127, Tryz.ntmps127
  go_wp2_with fail
  refine (indexfunc_cl_calls w A c l g lb p h hn H.out).mono ?_
  rintro e w1 ⟨⟨i, rfl, hi⟩, hb1⟩
  have HI := Lib.hid hi
  clear hi
  go_wp2
  go_ret
  exact ⟨ret_bool HI.out, hb1⟩

/-- A query: is one clause at least so? -/
theorem some_calls (w : World) (A : Option Addr) (c : Nat) (l : List Cl) (g : FuncId) (lb : Array Value) (p : Cl → Bool) (h : Cls w w.heap.size A l) (hn : l.length ≤ 1048576)
    (hp : ∀ w', Below w.heap.size w w' → PredC g lb p l w') :
    Calls Tryz.prog 91 #[.agg #[.slice A l.length c], .func (.func g) #[] lb] w fun e w' => e = .returned (.bool (l.any p)) ∧ Below w.heap.size w w' := by
  have H := Lib.hid hp
  clear hp
  have hb0 : Below w.heap.size w (w.alloc (.cells #[.slice A l.length c] 24)) := (Below.refl w.heap.size w).alloc (Nat.le_refl _) _
  have HH := Lib.hid ((h.same (same_below hb0)).more hb0.size)
  go_enter Tryz.func91, Tryz.ntmps91
  go_wp2_with fail
  refine (containsfunc_cl_calls _ A c l g lb p HH.out hn (H.out _ hb0)).mono ?_
  rintro e w1 ⟨rfl, hb1⟩
  go_wp2
  go_ret
  exact ⟨rfl, hb0.trans (hb1.mono hb0.size)⟩
end Go.Proofs.YtdonhmdeijidkaaGreat
