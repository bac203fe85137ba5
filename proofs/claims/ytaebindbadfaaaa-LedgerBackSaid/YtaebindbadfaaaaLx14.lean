
/- Ledger: the walk of awake (the example of the chapter). -/
import Derived.Test.YtaebindbadfaaaaLw14
namespace CL
def e1 : En := ⟨[97], ⟨0, 0⟩, ⟨3, 0⟩⟩
def e2 : En := ⟨[97], ⟨3, 0⟩, ⟨5, 0⟩⟩
def e3 : En := ⟨[98], ⟨0, 0⟩, ⟨0, 2⟩⟩
def X1 : Lg := ⟨[e1], []⟩
def X2 : Lg := ⟨[e1], [⟨1, 1⟩]⟩
def X3 : Lg := ⟨[e1, e2], [⟨1, 1⟩]⟩
def X4 : Lg := ⟨[e1, e2, e3], [⟨1, 1⟩]⟩
theorem aw1 : rcd noLg e1 = (X1, 0) := by decide
theorem aw2 : sav X1 1 = (X2, 0) := by decide
theorem aw3 : rcd X2 e2 = (X3, 0) := by decide
theorem aw4 : rcd X3 e3 = (X4, 0) := by decide
theorem aw5 : und X4 1 = (X2, [⟨[97], ⟨3, 0⟩⟩, ⟨[98], ⟨0, 0⟩⟩], 0) := by
  have h1 : lval X4 = true := by decide
  have h2 : back X4 1 = some (1, 1) := by decide
  have h3 : says (X4.es.take 1) (X4.es.drop 1) = [⟨[97], ⟨3, 0⟩⟩, ⟨[98], ⟨0, 0⟩⟩] :=
    (says_sorted (vs := dn (X4.es.drop 1)) (List.Perm.refl _) (l' := [⟨[97], ⟨3, 0⟩⟩, ⟨[98], ⟨0, 0⟩⟩]) (by rw [show (dn (X4.es.drop 1)).map (fun s => (⟨s, held (X4.es.take 1) s⟩ : At)) = [⟨[97], ⟨3, 0⟩⟩, ⟨[98], ⟨0, 0⟩⟩] by decide]) (by decide)).symm
  unfold und
  rw [if_pos h1, h2]
  simp only [h3]
  rfl
theorem aw6 : cnt X4 1 = 2 := by unfold cnt; rw [aw5]; decide
theorem aw7 : held X4.es [97] = ⟨5, 0⟩ := by decide
end CL
namespace Go.Proofs.Ytaebindbadfaaaa
open Go.RowKit
set_option linter.unusedVariables false
set_option linter.unusedSimpArgs false
theorem fineX (x : CL.Lg) (h : x.es.length ≤ 100 ∧ x.ss.length ≤ 100 ∧ (x.es.all fun e => decide (e.n.length ≤ 12)) = true) : Fine x :=
  ⟨h.1, h.2.1, fun e he => by
    have := List.all_eq_true.1 h.2.2 e he
    simp at this
    unfold maxLen; omega⟩
/-- a ledger of n entries and m savepoints -/
def LgA (w : World) (x : CL.Lg) (A : Option Addr) (c : Nat) (A' : Option Addr) (c' : Nat) (n m : Nat) : Prop := LgOwn w 0 (.agg #[.slice A n c, .slice A' m c']) x ∧ n = x.es.length ∧ m = x.ss.length
theorem LgA.ext {w w' : World} {x : CL.Lg} {A A' : Option Addr} {c c' n m : Nat} (h : LgA w x A c A' c' n m) (hx : Ext w w') : LgA w' x A c A' c' n m := ⟨h.1.ext hx, h.2⟩
theorem LgA.only {w w' : World} {x : CL.Lg} {A A' : Option Addr} {c c' n m g : Nat} {cs : Array Value} (h : LgA w x A c A' c' n m) (hb : Blk w g 31 cs) (ho : Only g w w') : LgA w' x A c A' c' n m := ⟨h.1.only hb ho (by decide) (by decide), h.2⟩
def OutA (y : CL.Lg) (n m : Nat) (err : Int) (w : World) (r : Ending) (w' : World) : Prop := ∃ A1 c1 A2 c2, r = .returned (.tuple #[.agg #[.slice A1 n c1, .slice A2 m c2], .int .i64 err]) ∧ LgA w' y A1 c1 A2 c2 n m ∧ Ext w w'
theorem LePost.out {y : CL.Lg} {err : Int} {n m : Nat} {w w' : World} {r : Ending} (h : LePost (y, err) w r w') (hn : n = y.es.length) (hm : m = y.ss.length) : OutA y n m err w r w' := by
  obtain ⟨v, rfl, ⟨A, c, A', c', rfl, h1⟩, hx⟩ := h
  subst hn hm
  exact ⟨A, c, A', c', rfl, ⟨⟨A, c, A', c', rfl, h1⟩, rfl, rfl⟩, hx⟩
theorem awR1 (w : World) : Calls Try.prog 18 #[.agg #[.slice none 0 0, .slice none 0 0], .agg #[.string ⟨#[97]⟩, .int .i64 0, .int .i64 0, .int .i64 3, .int .i64 0]] w (OutA CL.X1 1 0 0 w) :=
  (ledger.Record_c CL.noLg CL.e1 _ w (LgV.zero w) (fineX _ (by decide)) (by decide)).mono fun _ _ h => (CL.aw1 ▸ h).out rfl rfl
theorem awS (w : World) (A : Option Addr) (c : Nat) (A' : Option Addr) (c' : Nat) (h : LgA w CL.X1 A c A' c' 1 0) : Calls Try.prog 20 #[.agg #[.slice A 1 c, .slice A' 0 c'], .int .i64 1] w (OutA CL.X2 1 1 0 w) :=
  (ledger.Save_c CL.X1 1 _ w h.1.view (fineX _ (by decide))).mono fun _ _ h => (CL.aw2 ▸ h).out rfl rfl
theorem awR2 (w : World) (A : Option Addr) (c : Nat) (A' : Option Addr) (c' : Nat) (h : LgA w CL.X2 A c A' c' 1 1) : Calls Try.prog 18 #[.agg #[.slice A 1 c, .slice A' 1 c'], .agg #[.string ⟨#[97]⟩, .int .i64 3, .int .i64 0, .int .i64 5, .int .i64 0]] w (OutA CL.X3 2 1 0 w) :=
  (ledger.Record_c CL.X2 CL.e2 _ w h.1.view (fineX _ (by decide)) (by decide)).mono fun _ _ h => (CL.aw3 ▸ h).out rfl rfl
theorem awR3 (w : World) (A : Option Addr) (c : Nat) (A' : Option Addr) (c' : Nat) (h : LgA w CL.X3 A c A' c' 2 1) : Calls Try.prog 18 #[.agg #[.slice A 2 c, .slice A' 1 c'], .agg #[.string ⟨#[98]⟩, .int .i64 0, .int .i64 0, .int .i64 0, .int .i64 2]] w (OutA CL.X4 3 1 0 w) :=
  (ledger.Record_c CL.X3 CL.e3 _ w h.1.view (fineX _ (by decide)) (by decide)).mono fun _ _ h => (CL.aw4 ▸ h).out rfl rfl
def OutU (w : World) (r : Ending) (w' : World) : Prop := ∃ A1 c1 A2 c2 b o c, r = .returned (.tuple #[.agg #[.slice A1 1 c1, .slice A2 1 c2], .slice (some ⟨b, o, none⟩) 2 c, .int .i64 0]) ∧ w'.cell? ⟨b, o + 1, none⟩ = some (.int .i64 3) ∧ w'.cell? ⟨b, o + 2, none⟩ = some (.int .i64 0) ∧ Ext w w'
theorem awU (w : World) (A : Option Addr) (c : Nat) (A' : Option Addr) (c' : Nat) (h : LgA w CL.X4 A c A' c' 3 1) : Calls Try.prog 23 #[.agg #[.slice A 3 c, .slice A' 1 c'], .int .i64 1] w (OutU w) :=
  (ledger.Undo_c CL.X4 1 _ w h.1.view (fineX _ (by decide))).mono fun r w' h => by
    rw [CL.aw5] at h
    obtain ⟨v, B, cb, rfl, ⟨A1, c1, A2, c2, rfl, _⟩, S, _, hx⟩ := h
    obtain ⟨b, o, rfl, h0, h1, h2⟩ := S.atoms (k := 0) (by decide)
    refine ⟨A1, c1, A2, c2, b, o, cb, rfl, ?_, ?_, hx⟩
    · simpa using h1
    · simpa using h2
theorem awC (w : World) (A : Option Addr) (c : Nat) (A' : Option Addr) (c' : Nat) (h : LgA w CL.X4 A c A' c' 3 1) : Calls Try.prog 26 #[.agg #[.slice A 3 c, .slice A' 1 c'], .int .i64 1] w fun r w' => r = .returned (.int .i64 2) ∧ Ext w w' :=
  CL.aw6 ▸ ledger.Count_c CL.X4 1 _ w h.1.view (fineX _ (by decide))
theorem awH (w : World) (A : Option Addr) (c : Nat) (A' : Option Addr) (c' : Nat) (h : LgA w CL.X4 A c A' c' 3 1) : Calls Try.prog 31 #[.agg #[.slice A 3 c, .slice A' 1 c'], .string ⟨#[97]⟩] w fun r w' => r = .returned (.agg #[.int .i64 5, .int .i64 0]) ∧ Ext w w' := by
  have := ledger.Held_c CL.X4 [97] _ w h.1.view (fineX _ (by decide)) (by decide)
  rw [CL.aw7] at this
  exact this
set_option maxHeartbeats 3200000 in
set_option maxRecDepth 100000 in
theorem awake14_c (w : World) : Calls Try.prog 12 #[] w fun r w' => r = .returned (.bool true) ∧ Ext w w' := by
  have hq := am_eql
  have hg := am_guard
  go_enter Try.func12, Try.ntmps12
  go_wp2_with fail
  obtain ⟨bS, bX, hx0⟩ := two_rows w #[.int .i64 3, .int .i64 0] 23 #[.int .i64 5, .int .i64 0] 23
  have hz := hx0.size
  generalize ((w.alloc (.cells #[.int .i64 3, .int .i64 0] 23)).alloc (.cells #[.int .i64 5, .int .i64 0] 23)) = W at *
  go_wp2_with (first
    | (go_at_call 18; (with_reducible refine (awR1 _).mono ?_); rintro r w2 ⟨A1, c1, A2, c2, rfl, hl1, hx1⟩; (have hx2 := hx1.tr (Ext.new w2 (.cells #[.slice A1 1 c1, .slice A2 0 c2] 31))); (have bL := Blk.new w2 31 #[.slice A1 1 c1, .slice A2 0 c2]); (replace hl1 := hl1.ext (Ext.new w2 (.cells #[.slice A1 1 c1, .slice A2 0 c2] 31))); (have hL1 : w.heap.size + 1 < w2.heap.size := Nat.lt_of_lt_of_le bX.lt hx1.size); (replace bS := bS.ext hx2); (replace bX := bX.ext hx2); (have hxx := hx0.tr hx2); (have hL0 : w.heap.size ≤ w2.heap.size := (hx0.tr hx1).size))
    | (go_at_call 20; (with_reducible refine (awS _ _ _ _ _ hl1).mono ?_); rintro r w3 ⟨B1, d1, B2, d2, rfl, hl2, hxw3⟩; (replace bL := bL.ext hxw3); (replace bS := bS.ext hxw3); (replace bX := bX.ext hxw3); (replace hxx := hxx.tr hxw3); (obtain ⟨l0, l1⟩ := bL.c2); (have m0 := bL.frozen 0); (have m1 := bL.frozen 1);
       (have hon := (Only.rf (g := w2.heap.size) (w := w3)).set2 (.slice B1 1 d1) (.slice B2 1 d2)); (replace hl2 := hl2.only bL hon); (replace bL := bL.set2 (.slice B1 1 d1) (.slice B2 1 d2)); (replace bS := bS.only hon (by omega)); (replace bX := bX.only hon (by omega)); (replace hxx := hxx.only hon hL0);
       (obtain ⟨s0, s1⟩ := bS.c2); (obtain ⟨x0, x1⟩ := bX.c2); (obtain ⟨l0, l1⟩ := bL.c2))
    | (go_at_call 18; (with_reducible refine (awR2 _ _ _ _ _ hl2).mono ?_); rintro r w4 ⟨C1, f1, C2, f2, rfl, hl3, hxw4⟩; (replace bL := bL.ext hxw4); (replace bS := bS.ext hxw4); (replace bX := bX.ext hxw4); (replace hxx := hxx.tr hxw4); (obtain ⟨l0, l1⟩ := bL.c2); (have m0 := bL.frozen 0); (have m1 := bL.frozen 1);
       (have hon := (Only.rf (g := w2.heap.size) (w := w4)).set2 (.slice C1 2 f1) (.slice C2 1 f2)); (replace hl3 := hl3.only bL hon); (replace bL := bL.set2 (.slice C1 2 f1) (.slice C2 1 f2)); (replace bS := bS.only hon (by omega)); (replace bX := bX.only hon (by omega)); (replace hxx := hxx.only hon hL0);
       (obtain ⟨s0, s1⟩ := bS.c2); (obtain ⟨x0, x1⟩ := bX.c2); (obtain ⟨l0, l1⟩ := bL.c2))
    | (go_at_call 18; (with_reducible refine (awR3 _ _ _ _ _ hl3).mono ?_); rintro r w5 ⟨D1, h1, D2, h2, rfl, hl4, hxw5⟩; (replace bL := bL.ext hxw5); (replace bS := bS.ext hxw5); (replace bX := bX.ext hxw5); (replace hxx := hxx.tr hxw5); (obtain ⟨l0, l1⟩ := bL.c2); (have m0 := bL.frozen 0); (have m1 := bL.frozen 1);
       (have hon := (Only.rf (g := w2.heap.size) (w := w5)).set2 (.slice D1 3 h1) (.slice D2 1 h2)); (replace hl4 := hl4.only bL hon); (replace bL := bL.set2 (.slice D1 3 h1) (.slice D2 1 h2)); (replace bS := bS.only hon (by omega)); (replace bX := bX.only hon (by omega)); (replace hxx := hxx.only hon hL0);
       (obtain ⟨s0, s1⟩ := bS.c2); (obtain ⟨x0, x1⟩ := bX.c2); (obtain ⟨l0, l1⟩ := bL.c2))
    | (go_at_call 23; (with_reducible refine (awU _ _ _ _ _ hl4).mono ?_); rintro r w6 ⟨E1, i1, E2, i2, bb, oo, cc, rfl, t1, t2, hx6⟩;
       (replace hx6 := hx6.tr (Ext.new w6 (.cells #[.slice E1 1 i1, .slice E2 1 i2] 31))); (have bY := Blk.new w6 31 #[.slice E1 1 i1, .slice E2 1 i2]); (replace t1 := (Ext.new w6 (.cells #[.slice E1 1 i1, .slice E2 1 i2] 31)).cell t1); (replace t2 := (Ext.new w6 (.cells #[.slice E1 1 i1, .slice E2 1 i2] 31)).cell t2); (replace bL := bL.ext hx6); (replace bS := bS.ext hx6); (replace bX := bX.ext hx6); (replace hxx := hxx.tr hx6); (replace hl4 := hl4.ext hx6))
    | go_in)
  generalize (w6.alloc (.cells #[.slice E1 1 i1, .slice E2 1 i2] 31)) = V at *
  obtain ⟨s0, s1⟩ := bS.c2
  obtain ⟨x0, x1⟩ := bX.c2
  obtain ⟨l0, l1⟩ := bL.c2
  obtain ⟨y0, y1⟩ := bY.c2
  have q1 := ExtOf.cell s0
  have q2 := ExtOf.cell s1
  have q3 := ExtOf.cell x0
  have q4 := ExtOf.cell x1
  have q5 := ExtOf.cell l0
  have q6 := ExtOf.cell l1
  have q7 := ExtOf.cell y0
  have q8 := ExtOf.cell y1
  have q9 := ExtOf.cell t1
  have q10 := ExtOf.cell t2
  refine wp_region_ext_lit (by kernel_rfl) (by kernel_rfl) ?_
  repeat (go_big_quiet_step (first
    | (go_at_call 26; exact xqX (awC _ _ _ _ _ (hl4.ext (ExtOf.ext _))))
    | (go_at_call 31; exact xqX (awH _ _ _ _ _ (hl4.ext (ExtOf.ext _))))))
  refine wpQuiet_nil ?_
  intro wq hw'
  obtain ⟨⟨wq', hxq⟩, hw''⟩ := hw'
  subst hw''
  go_wp2
  go_ret
  exact ⟨rfl, hxx.tr hxq⟩
end Go.Proofs.Ytaebindbadfaaaa
