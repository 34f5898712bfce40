/-
  Walks: (*fold.State).set.
-/
import Derived.Test.YtdonhmdeijidkaaGreatFoldA
namespace Go.Proofs.YtdonhmdeijidkaaGreat
open Go.RowKit Go.Maps

def setE (keep : Bool) (E : Ents) (k : Str) (n : Int) : Ents := if n = 0 ∧ keep = false then delE E k else putE E k n
theorem map_under : Tryz.prog.underlying 98 = some (.map 9 3) := Tryz.underlying98
theorem key_laws : Keyed Tryz.prog 9 := string_keyed Tryz.underlying9
theorem sb_ne {w : World} {sb mb : Nat} {t : TypeId} {cs : Array Value} {E : Ents} (h : Blk w sb t cs) (hm : MapIs w mb E) : sb ≠ mb := by
  rintro rfl
  obtain ⟨es, cl, h1⟩ := hm.obj
  unfold Blk at h
  rw [h1] at h; cases h
theorem fresh_ne {w : World} {mb : Nat} {E : Ents} (hm : MapIs w mb E) : mb < w.heap.size := hm.lt
theorem Blk.turn {w w' : World} {g mb : Nat} {t : TypeId} {cs : Array Value} {E : Ents} (h : Blk w g t cs) (hm : MapIs w mb E) (hg : w.grownBy w' (some mb)) : Blk w' g t cs :=
  h.grown hg (by have := sb_ne h hm; simpa using this)
theorem cell_map {w : World} {mb : Nat} {E : Ents} (h : MapIs w mb E) (o : Nat) : w.cell? ⟨mb, o, none⟩ = none := by
  obtain ⟨es, cl, h1⟩ := h.obj
  simp [World.cell?, h1]
theorem same_turn {w w' : World} {mb : Nat} {E E' : Ents} (hg : w.grownBy w' (some mb)) (hm : MapIs w mb E) (hm' : MapIs w' mb E') : Same w.heap.size w w' := by
  intro b o hb
  by_cases e : b = mb
  · subst e
    rw [cell_map hm, cell_map hm']
  · exact hg.cell_far ⟨b, o, none⟩ hb (by simpa using e)
theorem below_turn {w w' : World} {mb : Nat} (h : Below w.heap.size w w') : w.grownBy w' (some mb) := ⟨h.os, h.tape, h.output, h.size, fun i hi _ => h.block i hi⟩

theorem putE_wf {E : Ents} {k : Str} {n : Int} (h : ∀ x ∈ E, (Lit.int .i64 x.2).wf = true) (hn : (Lit.int .i64 n).wf = true) : ∀ x ∈ putE E k n, (Lit.int .i64 x.2).wf = true := by
  intro x hx
  rcases mem_putE hx with rfl | hx
  · exact hn
  · exact h x hx
theorem delE_wf {E : Ents} {k : Str} (h : ∀ x ∈ E, (Lit.int .i64 x.2).wf = true) : ∀ x ∈ delE E k, (Lit.int .i64 x.2).wf = true := fun x hx => h x ((List.mem_filter.1 hx).1)
theorem MapIs.of_put {w : World} {mb m : Nat} {E : Ents} {k : Str} {n : Int} (hE : Rising E) (hw : ∀ x ∈ E, (Lit.int .i64 x.2).wf = true) (hn : (Lit.int .i64 n).wf = true)
    (h : w.ownsMap Tryz.prog 9 (plainElem Tryz.prog 3) mb m ((toD E).put (.string k) (.lit (.int .i64 n)))) : MapIs w mb (putE E k n) := by
  rw [toD_put hE] at h
  exact ⟨own_exact h, hE.put k n, putE_wf hw hn⟩
theorem MapIs.of_del {w : World} {mb m : Nat} {E : Ents} {k : Str} (hE : Rising E) (hw : ∀ x ∈ E, (Lit.int .i64 x.2).wf = true)
    (h : w.ownsMap Tryz.prog 9 (plainElem Tryz.prog 3) mb m ((toD E).del (.string k))) : MapIs w mb (delE E k) := by
  rw [toD_del] at h
  exact ⟨own_exact h, hE.del k, delE_wf hw⟩

set_option maxRecDepth 100000 in
theorem set_calls (w : World) (sb mb : Nat) (k : Int) (f : Str) (u : Value) (E : Ents) (key : Str) (n : Int) (hS : Blk w sb 100 #[kindK k f, u, .map (some mb)]) (hM : MapIs w mb E)
    (hk : key.length ≤ maxLen) (hE : E.length < maxLen) (hn : (Lit.int .i64 n).wf = true) :
    Calls Tryz.prog 192 #[.pointer (some ⟨sb, 0, none⟩), vS key, .int .i64 n] w fun e w' => e = .returned (.tuple #[]) ∧ MapIs w' mb (setE (decide (k = 3)) E key n) ∧ w.grownBy w' (some mb) := by
  have hown := hM.1
  have hkey := key_ok hk
  obtain ⟨c0, c1, c2⟩ := hS.three
  have hval : plainElem (H := Unit) Tryz.prog 3 (.int .i64 n) = some (.lit (.int .i64 n), []) := plainElem_int Tryz.underlying3 hn
  have HM := Lib.hid hM
  have HS := Lib.hid hS
  have HE := Lib.hid hE
  have HN := Lib.hid hn
  clear hM hS hE hn hk c0 c1
  by_cases h0 : n = 0
  · subst h0
    go_enter Tryz.func192, Tryz.ntmps192
    go_wp2_with fail
    refine (keeps_calls _ _ _ _ _ _ HS.out).mono ?_
    rintro e w1 ⟨rfl, rfl⟩
    generalize hkp : decide (k = 3) = keep
    have HK := Lib.hid hkp
    clear hkp
    cases keep
    · go_wp2_with (first | (at_delete; refine wpList_delete_own _ rfl _ _ 98 9 rfl 3 key_laws map_under _ mb E.length (toD E) rfl hown _ _ rfl hkey ?_; intro w1 hown1 hturn1) | fail)
      first | go_end0 | refine bodyPost_ret (results_none rfl _ _ _) rfl ?_
      exact ⟨rfl, by rw [HK.out]; simpa [setE] using MapIs.of_del HM.out.2.1 HM.out.2.2 hown1, hturn1.grown⟩
    · go_wp2_with (first | (at_mapUpdate; refine wpList_mapUpdate_in _ rfl _ _ _ 98 rfl 9 3 key_laws map_under _ mb E.length (toD E) rfl hown HE.out _ _ _ rfl rfl hkey _ _ hval ?_; intro w1 hown1 hturn1) | fail)
      first | go_end0 | refine bodyPost_ret (results_none rfl _ _ _) rfl ?_
      exact ⟨rfl, by rw [HK.out]; simpa [setE] using MapIs.of_put HM.out.2.1 HM.out.2.2 (by decide) hown1, hturn1.grown⟩
  · have hz : ((n : Int) == 0) = false := beq_eq_false_iff_ne.2 h0
    go_enter Tryz.func192, Tryz.ntmps192
    go_wp2_with (first | (at_mapUpdate; refine wpList_mapUpdate_in _ rfl _ _ _ 98 rfl 9 3 key_laws map_under _ mb E.length (toD E) rfl hown HE.out _ _ _ rfl rfl hkey _ _ hval ?_; intro w1 hown1 hturn1) | fail)
    first | go_end0 | refine bodyPost_ret (results_none rfl _ _ _) rfl ?_
    exact ⟨rfl, by simpa [setE, h0] using MapIs.of_put HM.out.2.1 HM.out.2.2 HN.out hown1, hturn1.grown⟩
end Go.Proofs.YtdonhmdeijidkaaGreat
