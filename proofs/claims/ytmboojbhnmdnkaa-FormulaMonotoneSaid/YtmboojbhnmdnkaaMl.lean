
/- The mill: a tape of numbers in memory, and its reading. -/
import Derived.Test.YtmboojbhnmdnkaaAp
import Derived.Test.YtmboojbhnmdnkaaCx
namespace Go.Proofs.Ytmboojbhnmdnkaa
open Go.RowKit
set_option linter.unusedVariables false
set_option linter.unusedSimpArgs false
/-- a tape in block g -/
def TapeAt (w : World) (g : Nat) : Prop := ∃ (A : Option Addr) (l : List Int) (c : Nat) (n : Nat), Blk w g 39 #[.slice A l.length c, .int .i64 n] ∧ Sits w A (ints l) ∧ n ≤ l.length ∧ l.length ≤ maxLen ∧ ∀ b o, l ≠ [] → A = some ⟨b, o, none⟩ → b < g
theorem TapeAt.lt {w : World} {g : Nat} (h : TapeAt w g) : g < w.heap.size := let ⟨_, _, _, _, h1, _⟩ := h; h1.lt
theorem TapeAt.ext {w w' : World} {g : Nat} (h : TapeAt w g) (hx : Ext w w') : TapeAt w' g :=
  let ⟨A, l, c, n, h1, h2, h3⟩ := h
  ⟨A, l, c, n, h1.ext hx, h2.ext hx, h3⟩
theorem TapeAt.drewN {w : World} {g : Nat} (h : TapeAt w g) (k : Nat) : TapeAt (w.drewN k) g := h
theorem TapeAt.grown {w w' : World} {g : Nat} {r : Option Nat} (h : TapeAt w g) (hg : w.grownBy w' r) (hr : ∀ b, r = some b → g < b) : TapeAt w' g := by
  obtain ⟨A, l, c, n, h1, h2, h3, h4, h5⟩ := h
  refine ⟨A, l, c, n, (hg.block g h1.lt (fun e => by have := hr g e.symm; omega)).trans h1, fun hn => ?_, h3, h4, h5⟩
  obtain ⟨b, o, rfl, hc⟩ := h2 hn
  have hb := h5 b o (by rintro rfl; exact hn rfl) rfl
  refine ⟨b, o, rfl, fun j u hu => ?_⟩
  have h6 := hc j u hu
  have h7 := hg.block b (World.block_lt_of_cell? _ _ h6) (fun e => by have := hr b e.symm; omega)
  rw [← h6]; unfold World.cell?; simp only [h7]
theorem Sits.setOther {w : World} {A : Option Addr} {xs : List Value} (h : Sits w A xs) {g i : Nat} {u : Value} (hne : ∀ b o, xs ≠ [] → A = some ⟨b, o, none⟩ → b ≠ g) : Sits (w.setCell ⟨g, i, none⟩ u) A xs := fun hn => by
  obtain ⟨b, o, rfl, hc⟩ := h hn
  refine ⟨b, o, rfl, fun j v hv => ?_⟩
  have := hc j v hv
  exact (World.cell?_setCell_far w ⟨g, i, none⟩ ⟨b, o + j, none⟩ u (Ne.symm (hne b o hn rfl))).trans this
/-- the reading of a number -/
def NextPost (w : World) (g : Nat) (m : Int) (r : Ending) (w' : World) : Prop := ∃ n : Int, r = .returned (.int .i64 n) ∧ 0 ≤ n ∧ n < m ∧ Only g w w' ∧ TapeAt w' g
def mdv (n m : Int) : Int := if n.tmod m < 0 then n.tmod m + m else n.tmod m
theorem mdv_in (n : Int) {m : Int} (h : 1 ≤ m) : 0 ≤ mdv n m ∧ mdv n m < m := by
  have q1 : n.tmod m < m := Int.tmod_lt_of_pos n (by omega)
  have q2 : -m < n.tmod m := Int.lt_tmod_of_pos n (by omega)
  unfold mdv; split <;> omega
theorem clusterlocksmill.Mod_c (n m : Int) (w : World) (h1 : 1 ≤ m) (h2 : m ≤ 1048576) : Calls Try.prog 49 #[.int .i64 n, .int .i64 m] w fun e w' => e = .returned (.int .i64 (mdv n m)) ∧ w = w' := by
  have q1 : n.tmod m < m := Int.tmod_lt_of_pos n (by omega)
  have q2 : -m < n.tmod m := Int.lt_tmod_of_pos n (by omega)
  have q3 : wrap64 (n.tmod m + m) = n.tmod m + m := by unfold wrap64; omega
  go_enter Try.func49, Try.ntmps49
  go_wp2
  all_goals (go_ret; exact ⟨ret_int (by go_tidy; unfold mdv; first | rw [if_pos (by omega)] | rw [if_neg (by omega)]), rfl⟩)
theorem clusterlocksmill.Light_c (l : List Int) (A : Option Addr) (c : Nat) (w : World) : Calls Try.prog 20 #[.slice A l.length c] w fun e w' => e = .returned (.bool (decide (l.length ≤ 300))) ∧ w = w' := by
  go_enter Try.func20, Try.ntmps20
  go_wp2
  go_ret
  exact ⟨ret_bool (by simp only [decide_eq_decide]; omega), rfl⟩
theorem Tape.Next_c (g : Nat) (m : Int) (w : World) (h1 : 1 ≤ m) (h2 : m ≤ 1048576) (h : TapeAt w g) : Calls Try.prog 37 #[.pointer (some ⟨g, 0, none⟩), .int .i64 m] w (NextPost w g m) := by
  have HT := Lib.hid h
  obtain ⟨A, l, c, n, hb, hr, hn, hl, hne⟩ := h
  have c0 : w.cell? ⟨g, 0, none⟩ = some (.slice A l.length c) := hb.cell 0
  have c1 : w.cell? ⟨g, 1, none⟩ = some (.int .i64 n) := hb.cell 1
  have f1 := hb.frozen 1
  simp only [maxLen] at hl
  by_cases hlt : n < l.length
  · have d1 : decide (l.length ≤ n) = false := by simp; omega
    have hn2 : (n : Int) + 1 - 1 = n := by omega
    have HM := Lib.hid (mdv_in l[n] h1)
    have HC := Lib.hid (fun w => clusterlocksmill.Mod_c l[n] m w h1 h2)
    obtain ⟨b, o, rfl, hcell⟩ := hr.get (by rw [ints_len]; omega)
    have hbg : b ≠ g := Nat.ne_of_lt (hne b o (by rintro rfl; simp at hlt) rfl)
    have c2 := hcell n _ (ints_get hlt)
    go_enter Try.func37, Try.ntmps37
    go_wp2
    go_quiet (fail)
    have he := Lib.hid (show ((n : Int) + 1) = ((n + 1 : Nat) : Int) by omega)
    have hw : Only g w ((w.drewN nq).setCell ⟨g, 1, none⟩ (.int .i64 ((n : Int) + 1))) := (Only.rf.drewN nq).set 1 _
    have hb2 : Blk ((w.drewN nq).setCell ⟨g, 1, none⟩ (.int .i64 ((n : Int) + 1))) g 39 #[.slice (some ⟨b, o, none⟩) l.length c, .int .i64 ((n : Int) + 1)] := by simpa using (hb.drewN nq).set 1 (.int .i64 ((n : Int) + 1))
    have hT : TapeAt ((w.drewN nq).setCell ⟨g, 1, none⟩ (.int .i64 ((n : Int) + 1))) g := ⟨some ⟨b, o, none⟩, l, c, n + 1, he.out ▸ hb2, (hr.drewN nq).setOther (fun b o h e => Nat.ne_of_lt (hne b o (by rintro rfl; exact h rfl) e)), by omega, by simp only [maxLen]; omega, hne⟩
    have f2 : (w.drewN nq).frozen? ⟨g, 1, none⟩ = false := f1
    have f3 : (w.drewN nq).cell? ⟨g, 1, none⟩ = some (.int .i64 n) := c1
    go_wp2
    have c3 : ((w.drewN nq).setCell ⟨g, 1, none⟩ (.int .i64 ((n : Int) + 1))).cell? ⟨b, o + n, none⟩ = some (.int .i64 l[n]) := (World.cell?_setCell_far _ ⟨g, 1, none⟩ ⟨b, o + n, none⟩ _ (Ne.symm hbg)).trans c2
    generalize (w.drewN nq).setCell ⟨g, 1, none⟩ (.int .i64 ((n : Int) + 1)) = w1 at *
    have c4 : w1.cell? ⟨g, 0, none⟩ = some (.slice (some ⟨b, o, none⟩) l.length c) := hb2.cell 0
    have c5 : w1.cell? ⟨g, 1, none⟩ = some (.int .i64 ((n : Int) + 1)) := hb2.cell 1
    clear he c0 c1 c2 f1 f2 f3
    go_quiet ((go_at_call 49; first | exact quietL (HC.out _) | exact quietR (HC.out _)))
    go_wp2
    go_ret
    exact ⟨_, rfl, HM.out.1, HM.out.2, hw.drewN _, hT.drewN _⟩
  · have d1 : decide (l.length ≤ n) = true := by simp; omega
    go_enter Try.func37, Try.ntmps37
    go_wp2
    go_quiet (fail)
    go_wp2
    go_ret
    exact ⟨0, rfl, by omega, by omega, Only.rf.drewN _, HT.out.drewN _⟩
end Go.Proofs.Ytmboojbhnmdnkaa
