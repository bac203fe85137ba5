
/- Catalogs: plain facts, and the walks of ValidResource, Valid, by the program and by the reference. -/
import Derived.Test.YtmboojbhnmdnkaaAt
import Derived.IntWalk
import Derived.Laws.Cover1
namespace CL
structure Re where
  n : List UInt8
  k : Int
  u : Int
  h : Int
deriving DecidableEq
def vres (r : Re) : Bool := vname r.n && shaped r.k r.u && decide (0 ≤ r.h ∧ r.h < 4)
def VTo (l : List Re) (j : Nat) : Prop := ∀ i, (hi : i < l.length) → i < j → vres l[i] = true ∧ ((h0 : 0 < i) → Go.Op.bytesLess (l[i - 1]'(by omega)).n l[i].n = true)
def VCat (l : List Re) : Prop := l.length ≤ 8 ∧ VTo l l.length
noncomputable instance (l : List Re) : Decidable (VCat l) := Classical.propDecidable _
noncomputable def vcat (l : List Re) : Bool := decide (VCat l)
theorem VTo.zero (l : List Re) : VTo l 0 := fun i _ h => by omega
theorem VTo.step {l : List Re} {j : Nat} (h : VTo l j) (hj : j < l.length) (h1 : vres l[j] = true) (h2 : (h0 : 0 < j) → Go.Op.bytesLess (l[j - 1]'(by omega)).n l[j].n = true) : VTo l (j + 1) := by
  intro i hi hij
  by_cases e : i = j
  · subst e; exact ⟨h1, h2⟩
  · exact h i hi (by omega)
theorem vcat_long {l : List Re} (h : 8 < l.length) : vcat l = false := decide_eq_false (fun c => by have := c.1; omega)
theorem vcat_bad {l : List Re} {j : Nat} (hj : j < l.length) (h : vres l[j] = false) : vcat l = false := decide_eq_false (fun c => by have := (c.2 j hj hj).1; rw [h] at this; cases this)
theorem vcat_ord {l : List Re} {j : Nat} (hj : j < l.length) (h0 : 0 < j) (h : Go.Op.bytesLess (l[j - 1]'(by omega)).n l[j].n = false) : vcat l = false := decide_eq_false (fun c => by have := (c.2 j hj hj).2 h0; rw [h] at this; cases this)
theorem vcat_all {l : List Re} {j : Nat} (h8 : l.length ≤ 8) (hj : l.length ≤ j) (h : VTo l j) : vcat l = true := decide_eq_true ⟨h8, fun i hi _ => h i hi (by omega)⟩
theorem vcat_get {l : List Re} (h : vcat l = true) : VCat l := of_decide_eq_true h
end CL
namespace Go.Proofs.Ytmboojbhnmdnkaa
open Go.RowKit
set_option linter.unusedVariables false
def rec (r : CL.Re) : List Value := [.string ⟨r.n.toArray⟩, .int .i64 r.k, .int .i64 r.u, .int .i64 r.h]
def recs (l : List CL.Re) : List Value := l.flatMap rec
theorem recs_len (l : List CL.Re) : (recs l).length = l.length * 4 := fm_len (c := rec) (fun _ => rfl) l
theorem Sits.recs {w : World} {l : List CL.Re} {A : Option Addr} (hr : Sits w A (recs l)) {k : Nat} (h : k < l.length) : ∃ b o, A = some ⟨b, o, none⟩ ∧
    w.cell? ⟨b, o + k * 4, none⟩ = some (.string ⟨l[k].n.toArray⟩) ∧ w.cell? ⟨b, o + k * 4 + 1, none⟩ = some (.int .i64 l[k].k) ∧ w.cell? ⟨b, o + k * 4 + 2, none⟩ = some (.int .i64 l[k].u) ∧ w.cell? ⟨b, o + k * 4 + 3, none⟩ = some (.int .i64 l[k].h) :=
  let ⟨b, o, e, hc⟩ := hr.get (by rw [recs_len]; omega)
  ⟨b, o, e, hc (k * 4 + 0) _ (fm_get (c := rec) (sz := 4) (fun _ => rfl) h 0 (by omega)), hc (k * 4 + 1) _ (fm_get (c := rec) (sz := 4) (fun _ => rfl) h 1 (by omega)), hc (k * 4 + 2) _ (fm_get (c := rec) (sz := 4) (fun _ => rfl) h 2 (by omega)), hc (k * 4 + 3) _ (fm_get (c := rec) (sz := 4) (fun _ => rfl) h 3 (by omega))⟩
theorem Blk.c4r {w : World} {g : Nat} {t : TypeId} {x y z v : Value} (h : Blk w g t #[x, y, z, v]) : w.cell? ⟨g, 0, none⟩ = some x ∧ w.cell? ⟨g, 1, none⟩ = some y ∧ w.cell? ⟨g, 2, none⟩ = some z ∧ w.cell? ⟨g, 3, none⟩ = some v := ⟨h.cell 0, h.cell 1, h.cell 2, h.cell 3⟩
theorem catalog.ValidResource_c (r : CL.Re) (w : World) (hn : r.n.length ≤ maxLen) : Calls Try.prog 64 #[.agg #[.string ⟨r.n.toArray⟩, .int .i64 r.k, .int .i64 r.u, .int .i64 r.h]] w fun e w' => e = .returned (.bool (CL.vres r)) ∧ Ext w w' := by
  obtain ⟨nm, k, u, h⟩ := r
  have hx := Ext.rfl' (a := w)
  obtain ⟨bE, hx0⟩ := box1 w #[.string ⟨nm.toArray⟩, .int .i64 k, .int .i64 u, .int .i64 h] 59
  go_enter Try.func64, Try.ntmps64
  go_wp2_with (first
    | (go_at_call 72; (with_reducible refine (catalog.ValidName_c _ _ hn).mono ?_); rintro e w' ⟨rfl, rfl⟩)
    | (go_at_call 67; refine (amount.Shaped_c _ _ _ _ _).mono ?_; rintro e w' ⟨rfl, hx1⟩; have hx := Ext.tr (a := w) (by go_grown) hx1; have hz := hx.size; obtain ⟨hc1, hf1⟩ := bcell hx1; have hz1 := hx1.size; (try simp only [World.size_alloc] at hz1); (try have hl0 : w.heap.size < w'.heap.size := by omega); (try have hl1 : w.heap.size + 1 < w'.heap.size := by omega); (try have hl2 : w.heap.size + 1 + 1 < w'.heap.size := by omega); (try have hl3 : w.heap.size + 1 + 1 + 1 < w'.heap.size := by omega); clear hx1))
  all_goals (go_ret; refine ⟨ret_bool ?_, ?_⟩; · go_tidy; unfold CL.vres; grind
             · go_grown)
theorem clusterlocksref05.ValidResource_c (r : CL.Re) (w : World) (hn : r.n.length ≤ maxLen) : Calls Try.prog 69 #[.agg #[.string ⟨r.n.toArray⟩, .int .i64 r.k, .int .i64 r.u, .int .i64 r.h]] w fun e w' => e = .returned (.bool (CL.vres r)) ∧ Ext w w' := by
  obtain ⟨nm, k, u, h⟩ := r
  have hx := Ext.rfl' (a := w)
  obtain ⟨bE, hx0⟩ := box1 w #[.string ⟨nm.toArray⟩, .int .i64 k, .int .i64 u, .int .i64 h] 59
  go_enter Try.func69, Try.ntmps69
  go_wp2_with (first
    | (go_at_call 62; (with_reducible refine (clusterlocksref05.ValidName_c _ _ hn).mono ?_); rintro e w' ⟨rfl, rfl⟩)
    | (go_at_call 70; refine (clusterlocksref04.Shaped_c _ _ _ _ _).mono ?_; rintro e w' ⟨rfl, hx1⟩; have hx := Ext.tr (a := w) (by go_grown) hx1; have hz := hx.size; obtain ⟨hc1, hf1⟩ := bcell hx1; have hz1 := hx1.size; (try simp only [World.size_alloc] at hz1); (try have hl0 : w.heap.size < w'.heap.size := by omega); (try have hl1 : w.heap.size + 1 < w'.heap.size := by omega); (try have hl2 : w.heap.size + 1 + 1 < w'.heap.size := by omega); (try have hl3 : w.heap.size + 1 + 1 + 1 < w'.heap.size := by omega); clear hx1))
  all_goals (go_ret; refine ⟨ret_bool ?_, ?_⟩; · go_tidy; unfold CL.vres; grind
             · go_grown)
set_option maxHeartbeats 1600000 in
theorem catalog.Valid_c (l : List CL.Re) (A : Option Addr) (c : Nat) (w : World) (hl : l.length ≤ maxLen) (hn : ∀ r ∈ l, r.n.length ≤ maxLen) (hr : Sits w A (recs l)) : Calls Try.prog 51 #[.slice A l.length c] w fun e w' => e = .returned (.bool (CL.vcat l)) ∧ Ext w w' := by
  unfold maxLen at hl
  by_cases h8 : l.length ≤ 8
  · have HV := Lib.hid (CL.VTo.zero l)
    go_enter Try.func51, Try.ntmps51
    go_wp2
    go_loopw [10] (fun i wr => ∃ j : Nat, j ≤ l.length ∧ i = .int .i64 j ∧ Ext w wr ∧ Hid (CL.VTo l j)) (fun i _ => l.length - (intOf i).toNat)
    case atStart => exact ⟨0, by omega, rfl, Ext.rfl', HV⟩
    case round =>
      obtain ⟨j, hj, rfl, hy, HJ⟩ := hrel
      by_cases hlt : j < l.length
      · obtain ⟨b, o, rfl, c0, c1, c2, c3⟩ := (hr.ext hy).recs hlt
        have hbb := World.block_lt_of_cell? _ _ c0
        simp only at hbb
        have hbx : b ≠ wr.heap.size := by omega
        have hnj := hn _ (List.getElem_mem hlt)
        have HB := Lib.hid (fun h => CL.vcat_bad hlt h)
        have HS := Lib.hid (fun h1 h2 => HJ.out.step hlt h1 h2)
        have HO := Lib.hid (fun h0 h => CL.vcat_ord hlt h0 h)
        have bx := Blk.new wr 59 #[.string ⟨l[j].n.toArray⟩, .int .i64 l[j].k, .int .i64 l[j].u, .int .i64 l[j].h]
        have hxx := Ext.new wr (.cells #[.string ⟨l[j].n.toArray⟩, .int .i64 l[j].k, .int .i64 l[j].u, .int .i64 l[j].h] 59)
        cases hv : CL.vres l[j]
        · have HF := Lib.hid (HB.out hv)
          go_wp2_with fail
          generalize (wr.alloc (.cells #[.string ⟨l[j].n.toArray⟩, .int .i64 l[j].k, .int .i64 l[j].u, .int .i64 l[j].h] 59)) = W at *
          obtain ⟨e0, e1, e2, e3⟩ := bx.c4r
          have q0 := ExtOf.cell e0
          have q1 := ExtOf.cell e1
          have q2 := ExtOf.cell e2
          have q3 := ExtOf.cell e3
          refine wp_region_ext_lit (by kernel_rfl) (by kernel_rfl) ?_
          repeat (go_big_quiet_step ((go_at_call 64; exact xqX (catalog.ValidResource_c l[j] _ hnj))))
          refine wpQuiet_nil ?_
          intro wq hw'
          obtain ⟨⟨wq', hxq⟩, hw''⟩ := hw'
          subst hw''
          go_wp2
          go_ret
          exact ⟨ret_bool HF.out.symm, hy.tr (hxx.tr hxq)⟩
        · rcases Nat.eq_zero_or_pos j with hj0 | hj0
          · subst hj0
            have HS2 := Lib.hid (HS.out hv (fun h => by omega))
            generalize hlj : l[0] = r0 at *
            have HLJ := Lib.hid hlj
            clear hlj
            simp only [Nat.zero_mul, Nat.add_zero] at c0 c1 c2 c3
            go_wp2_with fail
            generalize (wr.alloc (.cells #[.string ⟨r0.n.toArray⟩, .int .i64 r0.k, .int .i64 r0.u, .int .i64 r0.h] 59)) = W at *
            obtain ⟨e0, e1, e2, e3⟩ := bx.c4r
            have q0 := ExtOf.cell e0
            have q1 := ExtOf.cell e1
            have q2 := ExtOf.cell e2
            have q3 := ExtOf.cell e3
            refine wp_region_ext_lit (by kernel_rfl) (by kernel_rfl) ?_
            repeat (go_big_quiet_step ((go_at_call 64; exact xqX (catalog.ValidResource_c r0 _ hnj))))
            refine wpQuiet_nil ?_
            intro wq hw'
            obtain ⟨⟨wq', hxq⟩, hw''⟩ := hw'
            subst hw''
            go_wp2
            exact ⟨⟨1, by omega, rfl, hy.tr (hxx.tr hxq), HS2⟩, by simp [intOf]; omega⟩
          · obtain ⟨b', o', e', d0, d1, d2, d3⟩ := (hr.ext hy).recs (show j - 1 < l.length by omega)
            injection e' with e'
            injection e' with e1' e2'
            subst e1' e2'
            have g1 : IntKind.i64.wrap ((j : Int) - 1) = (j : Int) - 1 := IntWalk.i64_in _ (by omega)
            have g2 : (1 : Int) ≤ (j : Int) := by omega
            have g3 : ((j : Int) - 1).toNat = j - 1 := by omega
            have g4 : (j : Int) - 1 < (l.length : Int) := by omega
            have g5 : 0 ≤ (j : Int) - 1 := by omega
            have HS2 := Lib.hid (fun (h : Go.Op.bytesLess (l[j - 1]'(by omega)).n l[j].n = true) => HS.out hv (fun _ => h))
            have HO2 := Lib.hid (HO.out hj0)
            have d0' := hxx.cell d0
            generalize (l[j - 1]'(by omega)).n = m1 at *
            generalize l[j] = r0 at *
            cases hbl : Go.Op.bytesLess m1 r0.n
            · have HF := Lib.hid (HO2.out hbl)
              go_wp2_with fail
              generalize (wr.alloc (.cells #[.string ⟨r0.n.toArray⟩, .int .i64 r0.k, .int .i64 r0.u, .int .i64 r0.h] 59)) = W at *
              obtain ⟨e0, e1, e2, e3⟩ := bx.c4r
              have q0 := ExtOf.cell e0
              have q1 := ExtOf.cell e1
              have q2 := ExtOf.cell e2
              have q3 := ExtOf.cell e3
              have q4 := ExtOf.cell d0'
              refine wp_region_ext_lit (by kernel_rfl) (by kernel_rfl) ?_
              repeat (go_big_quiet_step ((go_at_call 64; exact xqX (catalog.ValidResource_c r0 _ hnj))))
              refine wpQuiet_nil ?_
              intro wq hw'
              obtain ⟨⟨wq', hxq⟩, hw''⟩ := hw'
              subst hw''
              go_wp2
              go_ret
              exact ⟨ret_bool HF.out.symm, hy.tr (hxx.tr hxq)⟩
            · have HF := Lib.hid (HS2.out hbl)
              go_wp2_with fail
              generalize (wr.alloc (.cells #[.string ⟨r0.n.toArray⟩, .int .i64 r0.k, .int .i64 r0.u, .int .i64 r0.h] 59)) = W at *
              obtain ⟨e0, e1, e2, e3⟩ := bx.c4r
              have q0 := ExtOf.cell e0
              have q1 := ExtOf.cell e1
              have q2 := ExtOf.cell e2
              have q3 := ExtOf.cell e3
              have q4 := ExtOf.cell d0'
              refine wp_region_ext_lit (by kernel_rfl) (by kernel_rfl) ?_
              repeat (go_big_quiet_step ((go_at_call 64; exact xqX (catalog.ValidResource_c r0 _ hnj))))
              refine wpQuiet_nil ?_
              intro wq hw'
              obtain ⟨⟨wq', hxq⟩, hw''⟩ := hw'
              subst hw''
              go_wp2
              exact ⟨⟨j + 1, by omega, by go_num, hy.tr (hxx.tr hxq), HF⟩, by simp [intOf]; omega⟩
      · have HF := Lib.hid (CL.vcat_all h8 (by omega) HJ.out)
        go_wp2
        go_ret
        exact ⟨ret_bool HF.out.symm, hy⟩
  · have HF := Lib.hid (CL.vcat_long (l := l) (by omega))
    have h9 : 8 < l.length := by omega
    clear h8
    go_enter Try.func51, Try.ntmps51
    go_wp2
    go_ret
    exact ⟨ret_bool HF.out.symm, Ext.rfl'⟩
end Go.Proofs.Ytmboojbhnmdnkaa
