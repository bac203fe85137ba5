
/- The reference's reader, second part: want, option. -/
import Derived.Test.YtlfnpkjfnafeaaaDoorRr
namespace Go.Proofs.YtlfnpkjfnafeaaaDoor
open Go.RowKit
set_option linter.unusedVariables false
set_option linter.unusedSimpArgs false
set_option maxRecDepth 100000
variable {w : World} {g B base : Nat} {A : Option Addr} {c : Nat} {all : List CL.Tk} {v : Value} {k : Nat} {s : CL.PS}
/-- what a step of the reader leaves: the state of what is left, or the error -/
def RdPost (w : World) (g B base : Nat) (A : Option Addr) (c : Nat) (all : List CL.Tk) (v : Value) {α : Type} (r : CL.PR α) (w' : World) : Prop :=
  match r with
  | .ok (_, s') => ∃ k', RSt w' g B base A c all v k' s'
  | .error (p, e) => e ≠ 0 ∧ RErr w' g p e
set_option maxHeartbeats 1600000 in
theorem reader.want_c (h : RSt w g B base A c all v k s) (kd : Int) (tx : List UInt8) (h5 : kd ≠ 5) :
    Calls Tryd.prog 72 #[.pointer (some ⟨g, 0, none⟩), .int .i64 kd, .string ⟨tx.toArray⟩] w fun r w' => r = .returned (.tuple #[]) ∧ RdPost w g B base A c all v (CL.expectP kd tx s) w' ∧ Mv g v v w w' := by
  have HI := reader.is_c h kd tx
  have hb0 := h.blk
  have k4 : w.cell? ⟨g, 4, none⟩ = some (.int .i64 0) := hb0.cell 4
  have hlen := h.len
  have hkl := h.hk
  have hE : CL.expectP kd tx s = if CL.sees kd tx s = true then .ok ((), s.next) else .error (s.hd.pos, 8) := rfl
  have hw : IntKind.i64.wrap ((k : Int) + 1) = (k : Int) + 1 := IntWalk.i64_in _ (by omega)
  cases hs : CL.sees kd tx s
  · rw [hs] at hE HI
    have hE := Lib.hid hE
    go_enter Tryd.func72, Tryd.ntmps72
    go_wp2_with (go_at_call 73; refine HI.mono ?_; rintro r w1 ⟨rfl, hx1⟩)
    have h1 := h.ext hx1
    obtain ⟨b, o, rfl, hb, c0, c1, c2, c3⟩ := h1.cells
    have hb1 := h1.blk
    have e0 : w1.cell? ⟨g, 0, none⟩ = some (.slice (some ⟨b, o, none⟩) all.length c) := hb1.cell 0
    have e1 : w1.cell? ⟨g, 1, none⟩ = some (.int .i64 k) := hb1.cell 1
    have HF := reader.fail_c w1.drew g _ _ _ _ s.hd.pos 8 (hb1.ext (Ext.drawn _))
    have HF := Lib.hid HF
    have hkl2 : k < all.length := hkl
    go_still_tail 12, (by kernel_rfl)
    go_wp2_with (go_at_call 40; refine HF.out.mono ?_; rintro r w2 ⟨rfl, hb2, ho2⟩)
    refine bodyPost_ret (v := .tuple #[]) (by simp [results, Tryd.results72, go_sem]) rfl ?_
    rw [hE.out]
    exact ⟨rfl, ⟨by omega, _, _, _, _, hb2⟩, (Mv.of_ext (hx1.tr (Ext.drawn _))).tr (Mv.set ho2)⟩
  · have hkd : s.hd.kind ≠ 5 := by
      simp only [CL.sees, decide_eq_true_eq] at hs
      rw [hs.1]; exact h5
    rw [hs] at hE HI
    have hE := Lib.hid hE
    go_enter Tryd.func72, Tryd.ntmps72
    go_wp2_with (go_at_call 73; refine HI.mono ?_; rintro r w1 ⟨rfl, hx1⟩; have h1 := h.ext hx1; have e1 : w1.cell? ⟨g, 1, none⟩ = some (.int .i64 k) := h1.blk.cell 1; have f1 := h1.blk.frozen 1; have h1 := Lib.hid h1)
    go_end0
    rw [hE.out]
    have hn := h1.out.next hkd
    exact ⟨rfl, ⟨k + 1, hn.1⟩, (Mv.of_ext hx1).tr hn.2⟩
theorem RSt.next_of (h : RSt w g B base A c all v k s) (h5 : s.hd.kind ≠ 5) : RSt (w.setCell ⟨g, 1, none⟩ (.int .i64 ((k : Int) + 1))) g B base A c all v (k + 1) s.next ∧ Mv g v v w (w.setCell ⟨g, 1, none⟩ (.int .i64 ((k : Int) + 1))) := h.next h5
/-- what option leaves -/
def ROpt (w : World) (g B base : Nat) (A : Option Addr) (c : Nat) (all : List CL.Tk) (v : Value) (r : CL.PR Int) (e : Ending) (w' : World) : Prop :=
  ∃ n : Int, e = .returned (.int .i64 n) ∧ RdPost w g B base A c all v r w' ∧ Mv g v v w w' ∧ ∀ x s', r = .ok (x, s') → x = n
theorem reader.option_err (w : World) (g : Nat) (p e m : Int) (tx : ByteArray) (he : e ≠ 0) (hb : RErr w g p e) :
    Calls Tryd.prog 39 #[.pointer (some ⟨g, 0, none⟩), .string tx, .int .i64 m] w fun r w' => r = .returned (.int .i64 0) ∧ w = w' := by
  obtain ⟨c0, c1, c2, c3, hb⟩ := hb
  have k4 : w.cell? ⟨g, 4, none⟩ = some (.int .i64 e) := hb.cell 4
  have hed : (e == 0) = false := by simpa using he
  go_enter Tryd.func39, Tryd.ntmps39
  go_wp2
  go_ret
  exact ⟨rfl, rfl⟩
theorem rsees_kind {tx : List UInt8} {kd : Int} (hs : CL.sees kd tx s = true) : s.hd.kind = kd := by
  simp only [CL.sees, decide_eq_true_eq] at hs; exact hs.1
set_option maxHeartbeats 3200000 in
theorem reader.option_c (h : RSt w g B base A c all v k s) (tx : List UInt8) (most : Int) :
    Calls Tryd.prog 39 #[.pointer (some ⟨g, 0, none⟩), .string ⟨tx.toArray⟩, .int .i64 most] w (ROpt w g B base A c all v (CL.optP tx most s)) := by
  have HI := reader.is_c h 1 tx
  have k4 : w.cell? ⟨g, 4, none⟩ = some (.int .i64 0) := h.blk.cell 4
  have hlen := h.len
  have hkl := h.hk
  have g1 : IntKind.i64.wrap ((k : Int) + 1) = (k : Int) + 1 := IntWalk.i64_in _ (by omega)
  have g2 : IntKind.i64.wrap ((k : Int) + 1 + 1) = (k : Int) + 1 + 1 := IntWalk.i64_in _ (by omega)
  cases hs : CL.sees 1 tx s with
  | false =>
    have hE : CL.optP tx most s = .ok (0, s) := by unfold CL.optP; rw [hs]; rfl
    rw [hs] at HI
    rw [hE]
    go_enter Tryd.func39, Tryd.ntmps39
    go_wp2_with (go_at_call 73; refine HI.mono ?_; rintro r w1 ⟨rfl, hx1⟩)
    go_ret
    exact ⟨0, rfl, ⟨k, h.ext hx1⟩, Mv.of_ext hx1, fun x s' e => by injection e with e; injection e with e _; exact e.symm⟩
  | true =>
    have hk5 : s.hd.kind ≠ 5 := by rw [rsees_kind hs]; decide
    rw [hs] at HI
    have hE : CL.optP tx most s = (if s.next.hd.kind = 3 then (if most < s.next.hd.num then .error (s.next.hd.pos, 1) else .ok (s.next.hd.num, s.next.next)) else .error (s.next.hd.pos, 8)) := by unfold CL.optP; rw [hs]; rfl
    generalize CL.optP tx most s = R at *
    go_enter Tryd.func39, Tryd.ntmps39
    go_wp2_with (go_at_call 73; refine HI.mono ?_; rintro r w1 ⟨rfl, hx1⟩; have h1 := h.ext hx1; have e1 : w1.cell? ⟨g, 1, none⟩ = some (.int .i64 k) := h1.blk.cell 1; have f1 := h1.blk.frozen 1; have h1 := Lib.hid h1)
    obtain ⟨hN, hM⟩ := h1.out.next_of hk5
    replace hM := (Mv.of_ext hx1).tr hM
    clear h1 e1 f1 HI k4 h hx1 hs
    generalize w1.setCell ⟨g, 1, none⟩ (.int .i64 ((k : Int) + 1)) = w2 at *
    have hk5' : s.next.hd.kind = 3 → RSt w2 g B base A c all v (k + 1) s.next ∧ s.next.hd.kind ≠ 5 := fun h3 => ⟨hN, by omega⟩
    obtain ⟨b, o, rfl, hb, c0, c1, c2, c3⟩ := hN.cells
    have hb0 := hN.blk
    have hlt := hb0.lt
    have hkl1 := hN.hk
    have hBg := hN.Bg
    have e0 : w2.cell? ⟨g, 0, none⟩ = some (.slice (some ⟨b, o, none⟩) all.length c) := hb0.cell 0
    have e1 : w2.cell? ⟨g, 1, none⟩ = some (.int .i64 ((k + 1 : Nat) : Int)) := hb0.cell 1
    simp only [Int.natCast_add, Int.natCast_one] at e1
    have f1 := hb0.frozen 1
    have hne : g ≠ w2.heap.size := by omega
    have hne2 : b ≠ w2.heap.size := by omega
    have hki : (k : Int) + 1 < (all.length : Int) := by omega
    have hkn : ((k : Int) + 1).toNat = k + 1 := by omega
    have hk0 : (0 : Int) ≤ (k : Int) + 1 := by omega
    have HN := Lib.hid hN
    clear hN hb0
    generalize hnt : s.next.hd = t at *
    obtain ⟨tk, tt, tn, tp⟩ := t
    simp only at *
    have hx2 := Ext.new w2 (.cells #[.int .i64 tk, .string ⟨tt.toArray⟩, .int .i64 tn, .int .i64 tp] 52)
    have bT := Blk.new w2 52 #[.int .i64 tk, .string ⟨tt.toArray⟩, .int .i64 tn, .int .i64 tp]
    have y0 := fun ob => (Ext.new w2 ob).cell c0
    have y1 := fun ob => (Ext.new w2 ob).cell c1
    have y2 := fun ob => (Ext.new w2 ob).cell c2
    have y3 := fun ob => (Ext.new w2 ob).cell c3
    have z0 := fun ob => (Ext.new w2 ob).cell e0
    have z1 := fun ob => (Ext.new w2 ob).cell e1
    go_region
    have hx3 := hx2.tr (Ext.drawn _)
    have bT3 := bT.ext (Ext.drawn _)
    have HN3 := Lib.hid (HN.out.ext hx3)
    have e31 := HN3.out.blk.cell 1
    simp only [List.getElem?_toArray, List.getElem?_cons_succ, List.getElem?_cons_zero, Int.natCast_add, Int.natCast_one] at e31
    have f31 := HN3.out.blk.frozen 1
    have t0 := bT3.cell 0
    have t1 := bT3.cell 1
    have t2 := bT3.cell 2
    have t3 := bT3.cell 3
    simp only [List.getElem?_toArray, List.getElem?_cons_succ, List.getElem?_cons_zero] at t0 t1 t2 t3
    have hM3 := hM.tr (Mv.of_ext hx3)
    have hg3 := HN3.out.blk.lt
    clear y0 y1 y2 y3 z0 z1 c0 c1 c2 c3 e0 e1 f1 hM HN hx2 bT hx3
    generalize (w2.alloc (.cells #[.int .i64 tk, .string ⟨tt.toArray⟩, .int .i64 tn, .int .i64 tp] 52)).drew = w3 at *
    have hpg : w2.heap.size ≠ g := by omega
    generalize w2.heap.size = p at *
    by_cases h3 : tk = 3
    · subst h3
      have hn5 : s.next.hd.kind ≠ 5 := by rw [hnt]; simp
      obtain ⟨HN4, hM4⟩ := HN3.out.next_of hn5
      replace hM4 := hM3.tr hM4
      simp only [Int.natCast_add, Int.natCast_one] at HN4 hM4
      have HN4 := Lib.hid HN4
      have hM4 := Lib.hid hM4
      by_cases hm : most < tn
      · rw [if_pos rfl, if_pos hm] at hE
        have bT4 := bT3.only (Only.rf.set (g := g) 1 (.int .i64 ((k : Int) + 1 + 1))) hpg
        go_wp2_with fail
        generalize w3.setCell ⟨g, 1, none⟩ (.int .i64 ((k : Int) + 1 + 1)) = w4 at *
        refine (reader.fail_c w4 g _ _ _ _ tp 1 HN4.out.blk).mono ?_
        rintro r w5 ⟨rfl, hb5, ho5⟩
        have t25 := (bT4.only ho5 hpg).cell 2
        simp only [List.getElem?_toArray, List.getElem?_cons_succ, List.getElem?_cons_zero] at t25
        go_wp2_with fail
        go_ret
        refine ⟨tn, rfl, ?_, hM4.out.tr (Mv.set ho5), fun x s' e => by rw [hE] at e; cases e⟩
        rw [hE]
        exact ⟨by omega, _, _, _, _, hb5⟩
      · rw [if_pos rfl, if_neg hm] at hE
        have hmd : decide (most < tn) = false := by simp; omega
        go_wp2_with fail
        go_ret
        exact ⟨tn, rfl, ⟨k + 1 + 1, HN4.out⟩, hM4.out, fun x s' e => by injection e with e; injection e with e _; exact e.symm⟩
    · have hk3 : (tk == 3) = false := by simpa using h3
      rw [if_neg h3] at hE
      have HF := reader.fail_c w3 g _ _ _ _ tp 8 HN3.out.blk
      rw [hE]
      clear h3
      go_wp2_with (go_at_call 40; refine HF.mono ?_; rintro r w4 ⟨rfl, hb4, ho4⟩)
      go_ret
      refine ⟨0, rfl, ?_, hM3.tr (Mv.set ho4), fun x s' e => by rw [hE] at e; cases e⟩
      rw [hE]
      exact ⟨by omega, _, _, _, _, hb4⟩
end Go.Proofs.YtlfnpkjfnafeaaaDoor
