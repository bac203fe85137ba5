
/- Truth of an expression: plain facts, and the walks of formula's has, eval, holds, Holds. -/
import Derived.Test.YtmboojbhnmdnkaaRa
namespace Go.Proofs.Ytmboojbhnmdnkaa
open Go.RowKit
set_option linter.unusedVariables false
def hasA (l : List CL.At) (set : List Bool) (a : CL.At) : Bool := match ixo l a with | none => false | some i => set.getD i false
mutual
def ev (h : CL.At → Bool) : CL.Ex → Bool | .mk k a kids => if kids = [] then h a else decide (k ≤ (cnt h kids : Nat))
def cnt (h : CL.At → Bool) : List CL.Ex → Nat
  | [] => 0
  | e :: l => (if ev h e = true then 1 else 0) + cnt h l
end
theorem cnt_step {h : CL.At → Bool} {kids : List CL.Ex} {j : Nat} (hj : j < kids.length) : cnt h (kids.drop j) = (if ev h kids[j] = true then 1 else 0) + cnt h (kids.drop (j + 1)) := by
  rw [List.drop_eq_getElem_cons hj]; simp only [cnt]
theorem cnt_end {h : CL.At → Bool} {kids : List CL.Ex} {j : Nat} (hj : kids.length ≤ j) : cnt h (kids.drop j) = 0 := by
  rw [List.drop_eq_nil_of_le hj]; simp only [cnt]
/-- truth values as cells -/
def bls (l : List Bool) : List Value := l.map .bool
theorem bls_len (l : List Bool) : (bls l).length = l.length := by simp [bls]
theorem Sits.bool {w : World} {l : List Bool} {A : Option Addr} (hr : Sits w A (bls l)) {k : Nat} (h : k < l.length) : ∃ b o, A = some ⟨b, o, none⟩ ∧ w.cell? ⟨b, o + k, none⟩ = some (.bool l[k]) :=
  let ⟨b, o, e, hc⟩ := hr.get (by rw [bls_len]; omega)
  ⟨b, o, e, hc k _ (by simp [bls, h])⟩
theorem hasA_none {l : List CL.At} {set : List Bool} {a : CL.At} (h : ixo l a = none) : hasA l set a = false := by simp [hasA, h]
theorem hasA_some {l : List CL.At} {set : List Bool} {a : CL.At} {i : Nat} (h : ixo l a = some i) : hasA l set a = set.getD i false := by simp [hasA, h]
set_option maxHeartbeats 800000 in
theorem formula.has_c (l : List CL.At) (set : List Bool) (a : CL.At) (A S : Option Addr) (c d : Nat) (w : World) (hl : l.length ≤ maxLen) (hs : set.length ≤ maxLen) (hr : Sits w A (ats l)) (hrs : Sits w S (bls set)) :
    Calls Try.prog 47 #[.agg #[.slice A l.length c, .slice S set.length d], .agg #[.string ⟨a.n.toArray⟩, .int .i64 a.a.m, .int .i64 a.a.u]] w fun r w' => r = .returned (.bool (hasA l set a)) ∧ Ext w w' := by
  obtain ⟨nm, m, u⟩ := a
  unfold maxLen at hs
  have hx0 : Ext w ((w.alloc (.cells #[.slice A l.length c, .slice S set.length d] 71)).alloc (.cells #[.string ⟨nm.toArray⟩, .int .i64 m, .int .i64 u] 25)) := by go_grown
  have bC := (Blk.new w 71 #[.slice A l.length c, .slice S set.length d]).alloc (.cells #[.string ⟨nm.toArray⟩, .int .i64 m, .int .i64 u] 25)
  cases hi : ixo l ⟨nm, ⟨m, u⟩⟩ with
  | none =>
    have HV := Lib.hid (hasA_none (set := set) hi)
    have hx : ixi l ⟨nm, ⟨m, u⟩⟩ = -1 := by simp [ixi, hi]
    go_enter Try.func47, Try.ntmps47
    go_wp2_with (go_at_call 60; (with_reducible refine (atIndex_c l ⟨nm, ⟨m, u⟩⟩ _ _ _ hl (hr.ext hx0)).mono ?_); rintro r w' ⟨rfl, hx1⟩)
    go_ret
    exact ⟨ret_bool HV.out.symm, hx0.tr hx1⟩
  | some i =>
    have HV := Lib.hid (hasA_some (set := set) hi)
    have hx : ixi l ⟨nm, ⟨m, u⟩⟩ = (i : Int) := by simp [ixi, hi]
    by_cases hlt : i < set.length
    · have HG := Lib.hid (show set.getD i false = set[i] by simp [List.getD, hlt])
      obtain ⟨b, o, rfl, hc⟩ := hrs.bool hlt
      go_enter Try.func47, Try.ntmps47
      go_wp2_with (go_at_call 60; (with_reducible refine (atIndex_c l ⟨nm, ⟨m, u⟩⟩ _ _ _ hl (hr.ext hx0)).mono ?_); rintro r w' ⟨rfl, hx1⟩; have d0 : w'.cell? ⟨w.heap.size, 0, none⟩ = some (.slice A l.length c) := (bC.ext hx1).cell 0; have d1 : w'.cell? ⟨w.heap.size, 1, none⟩ = some (.slice (some ⟨b, o, none⟩) set.length d) := (bC.ext hx1).cell 1; have d2 := hx1.cell (hx0.cell hc))
      go_ret
      exact ⟨ret_bool (by rw [HV.out, HG.out]), hx0.tr hx1⟩
    · have HG := Lib.hid (show set.getD i false = false by simp [List.getD, List.getElem?_eq_none (show set.length ≤ i by omega)])
      go_enter Try.func47, Try.ntmps47
      go_wp2_with (go_at_call 60; (with_reducible refine (atIndex_c l ⟨nm, ⟨m, u⟩⟩ _ _ _ hl (hr.ext hx0)).mono ?_); rintro r w' ⟨rfl, hx1⟩; have d0 : w'.cell? ⟨w.heap.size, 0, none⟩ = some (.slice A l.length c) := (bC.ext hx1).cell 0; have d1 : w'.cell? ⟨w.heap.size, 1, none⟩ = some (.slice S set.length d) := (bC.ext hx1).cell 1)
      go_ret
      exact ⟨ret_bool (by rw [HV.out, HG.out]), hx0.tr hx1⟩
set_option maxHeartbeats 1600000 in
theorem formula.eval_c (l : List CL.At) (set : List Bool) (A S : Option Addr) (c d : Nat) (hl : l.length ≤ maxLen) (hs : set.length ≤ maxLen) (e : CL.Ex) : ∀ (w : World) (B : Nat) (cs : List Value), Rd w B e cs → B ≤ w.heap.size → Sits w A (ats l) → Sits w S (bls set) →
    Calls Try.prog 48 #[.agg cs.toArray, .func (.func 47) #[.agg #[.slice A l.length c, .slice S set.length d]] #[]] w fun r w' => r = .returned (.bool (ev (hasA l set) e)) ∧ Ext w w' := by
  induction e using CL.Ex.ind with
  | h k a kids ih =>
    intro w B cs hR hB hrl hrs
    obtain ⟨A0, c0, rfl, hnm, hkl, hkc, hK⟩ := hR.inv
    obtain ⟨nm, m, u⟩ := a
    have IH := Lib.hid ih
    clear ih hR
    unfold maxLen at hkl
    obtain ⟨bE, hx0⟩ := box1 w #[.int .i64 k, .string ⟨nm.toArray⟩, .int .i64 m, .int .i64 u, .slice A0 kids.length c0] 28
    have hz0 := hx0.size
    by_cases hkids : kids = []
    · subst hkids
      simp only [List.length_nil] at bE hx0 hz0
      have HP := Lib.hid (show ev (hasA l set) (.mk k ⟨nm, ⟨m, u⟩⟩ []) = hasA l set ⟨nm, ⟨m, u⟩⟩ by simp [ev])
      go_enter Try.func48, Try.ntmps48
      go_wp2_with (go_at_call 47; (with_reducible refine (formula.has_c l set ⟨nm, ⟨m, u⟩⟩ A S c d _ hl hs (hrl.ext hx0) (hrs.ext hx0)).mono ?_); rintro r w' ⟨rfl, hx1⟩)
      go_ret
      exact ⟨ret_bool HP.out.symm, hx0.tr hx1⟩
    · have hkl0 : ((kids.length : Int) == 0) = false := beq_eq_false_iff_ne.2 (fun h => hkids (List.eq_nil_of_length_eq_zero (by omega)))
      have HP := Lib.hid (show ev (hasA l set) (.mk k ⟨nm, ⟨m, u⟩⟩ kids) = decide (k ≤ (cnt (hasA l set) kids : Nat)) by simp only [ev]; rw [if_neg hkids])
      go_enter Try.func48, Try.ntmps48
      go_wp2
      generalize (w.alloc (.cells #[.int .i64 k, .string ⟨nm.toArray⟩, .int .i64 m, .int .i64 u, .slice A0 kids.length c0] 28)) = w1 at *
      go_loopw [5, 19] (fun n i wr => ∃ (j n' : Nat), j ≤ kids.length ∧ n' ≤ j ∧ i = .int .i64 j ∧ n = .int .i64 n' ∧ Ext w1 wr ∧ Hid (cnt (hasA l set) kids = n' + cnt (hasA l set) (kids.drop j))) (fun _ i _ => kids.length - (intOf i).toNat)
      case atStart => exact ⟨0, 0, by omega, by omega, rfl, rfl, Ext.rfl', Lib.hid (by simp)⟩
      case round =>
        obtain ⟨j, n', hj, hn', rfl, rfl, hx, HL⟩ := hrel
        have hzr := hx.size
        have hbE := bE.ext hx
        have hbl := hbE.lt
        by_cases hlt : j < kids.length
        · have hKr := hK.below ((hx0.tr hx).mono hB)
          obtain ⟨b, o, k1, s1, m1, u1, A1, l1, x1, rfl, hbB, hR, c0, c1, c2, c3, c4⟩ := hKr.get hlt
          have HS := Lib.hid (cnt_step (h := hasA l set) hlt)
          have hm := List.getElem_mem hlt
          generalize kids[j] = e at *
          have hbx : b ≠ wr.heap.size := by omega
          have hxr := (hx0.tr hx).tr (Ext.new wr (.cells #[.int .i64 k1, .string s1, .int .i64 m1, .int .i64 u1, .slice A1 l1 x1] 28))
          cases hev : ev (hasA l set) e
          all_goals
            go_wp2_with (go_at_call 48; (with_reducible refine (IH.out e hm _ B _ (hR.kept ((Below.refl _ _).alloc (by omega) _)) (by simp; omega) (hrl.ext hxr) (hrs.ext hxr)).mono ?_); rintro r w' ⟨rfl, hx1⟩)
            first
              | exact ⟨⟨j + 1, n' + 1, by omega, by omega, by go_num, by go_num, hx.tr ((Ext.new _ _).tr hx1), Lib.hid (by rw [HL.out, HS.out, hev]; simp; omega)⟩, by simp [intOf]; omega⟩
              | exact ⟨⟨j + 1, n', by omega, by omega, by go_num, rfl, hx.tr ((Ext.new _ _).tr hx1), Lib.hid (by rw [HL.out, HS.out, hev]; simp)⟩, by simp [intOf]; omega⟩
        · have e0 : wr.cell? ⟨w.heap.size, 0, none⟩ = some (.int .i64 k) := hbE.cell 0
          go_wp2
          go_ret
          refine ⟨ret_bool ?_, hx0.tr hx⟩
          rw [HP.out, HL.out, cnt_end (by omega)]
          simp
theorem formula.holds_c (l : List CL.At) (set : List Bool) (A S : Option Addr) (c d : Nat) (hl : l.length ≤ maxLen) (hs : set.length ≤ maxLen) (e : CL.Ex) (w : World) (B : Nat) (cs : List Value) (hR : Rd w B e cs) (hB : B ≤ w.heap.size) (hrl : Sits w A (ats l)) (hrs : Sits w S (bls set)) :
    Calls Try.prog 35 #[.agg cs.toArray, .slice A l.length c, .slice S set.length d] w fun r w' => r = .returned (.bool (ev (hasA l set) e)) ∧ Ext w w' := by
  obtain ⟨k, s, m, u, A1, l1, c1, rfl⟩ := hR.shape
  have hx0 := Ext.new w (.cells #[.int .i64 k, .string s, .int .i64 m, .int .i64 u, .slice A1 l1 c1] 28)
  have hz0 := hx0.size
  go_enter Try.func35, Try.ntmps35
  go_wp2_with (go_at_call 48; (with_reducible refine (formula.eval_c l set A S c d hl hs e _ B _ (hR.ext hx0 hB) (by omega) (hrl.ext hx0) (hrs.ext hx0)).mono ?_); rintro r w' ⟨rfl, hx⟩)
  go_ret
  exact ⟨rfl, hx0.tr hx⟩
end Go.Proofs.Ytmboojbhnmdnkaa
