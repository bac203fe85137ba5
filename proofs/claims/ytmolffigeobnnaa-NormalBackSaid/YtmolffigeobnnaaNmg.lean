
/- The walks of normal's merge: what is asked of a kid, whether it is there, how it is added. -/
import Derived.Test.YtmolffigeobnnaaNeq
import Derived.Deep.DrawnRows
namespace Go.Proofs.Ytmolffigeobnnaa
open Go.RowKit
set_option linter.unusedVariables false
set_option linter.unusedSimpArgs false
set_option maxRecDepth 100000
attribute [local go_sem ↓] Go.wp_at_zero Go.wp_at_succ
theorem pAny_c (e : CL.Ex) (w : World) (B : Nat) (cs : List Value) (hR : Rd w B e cs) : Calls Try.prog 79 #[.agg cs.toArray] w fun r w' => r = .returned (.bool (CL.pAny e)) ∧ Ext w w' := by
  cases e with
  | mk k a kids =>
    obtain ⟨A, c, rfl, hnm, hkl, hkc, hK⟩ := hR.inv
    have HV := Lib.hid (show (k == 1) = CL.pAny (.mk k a kids) by unfold CL.pAny CL.Ex.k; rw [Bool.eq_iff_iff]; simp)
    clear hR hK
    go_enter Try.func79, Try.ntmps79
    go_wp2
    go_ret
    exact ⟨ret_bool HV.out, by go_grown⟩
theorem pAll_c (e : CL.Ex) (w : World) (B : Nat) (cs : List Value) (hR : Rd w B e cs) : Calls Try.prog 80 #[.agg cs.toArray] w fun r w' => r = .returned (.bool (CL.pAll e)) ∧ Ext w w' := by
  cases e with
  | mk k a kids =>
    obtain ⟨A, c, rfl, hnm, hkl, hkc, hK⟩ := hR.inv
    have HV := Lib.hid (show (k == (kids.length : Int)) = CL.pAll (.mk k a kids) by unfold CL.pAll CL.Ex.k CL.Ex.kids; rw [Bool.eq_iff_iff]; simp)
    clear hR hK
    go_enter Try.func80, Try.ntmps80
    go_wp2
    go_ret
    exact ⟨ret_bool HV.out, by go_grown⟩
theorem same_c (x e : CL.Ex) (w : World) (B g : Nat) (cs ds : List Value) (hR : Rd w B x cs) (hS : Rd w B e ds) (hb : Blk w g 28 ds.toArray) (hB : B ≤ w.heap.size) :
    Calls Try.prog 95 #[.agg cs.toArray, .pointer (some ⟨g, 0, none⟩)] w fun r w' => r = .returned (.bool (CL.eqE x e)) ∧ Ext w w' := by
  obtain ⟨k0, s0, m0, u0, A0, l0, c0, rfl⟩ := hR.shape
  obtain ⟨k1, s1, m1, u1, A1, l1, c1, rfl⟩ := hS.shape
  obtain ⟨bE, hx0⟩ := box1 w #[.int .i64 k0, .string s0, .int .i64 m0, .int .i64 u0, .slice A0 l0 c0] 28
  have hb' := hb.ext hx0
  have hgl := hb.lt
  obtain ⟨f0, f1, f2, f3, f4⟩ := hb'.c5
  have H1 := Lib.hid (equal_c x e _ B _ _ (hR.ext hx0 hB) (hS.ext hx0 hB) (by have := hx0.size; omega))
  clear hR hS bE hb hb'
  go_enter Try.func95, Try.ntmps95
  go_wp2_with (go_at_call 96; (with_reducible refine H1.out.mono ?_); rintro r w1 ⟨rfl, hx1⟩)
  go_ret
  exact ⟨rfl, hx0.tr hx1⟩
/-- where an expression first stands in a list -/
def ixE (l : List CL.Ex) (x : CL.Ex) : Int := match l.findIdx? (fun b => decide (b = x)) with | none => -1 | some i => (i : Int)
theorem ixE_hit {l : List CL.Ex} {x : CL.Ex} {j : Nat} (h : x ∉ l.take j) (hj : j < l.length) (e : l[j] = x) : ixE l x = j := by
  have : l.findIdx? (fun b => decide (b = x)) = some j := by
    rw [List.findIdx?_eq_some_iff_getElem]
    refine ⟨hj, by simp [e], fun i hi => ?_⟩
    simp only [decide_eq_true_eq]
    intro he
    exact h (by rw [List.mem_take_iff_getElem]; exact ⟨i, by omega, he⟩)
  simp [ixE, this]
theorem ixE_none {l : List CL.Ex} {x : CL.Ex} {j : Nat} (h : x ∉ l.take j) (hj : l.length ≤ j) : ixE l x = -1 := by
  rw [List.take_of_length_le hj] at h
  have : l.findIdx? (fun b => decide (b = x)) = none := by
    rw [List.findIdx?_eq_none_iff]
    intro y hy
    simp only [decide_eq_false_iff_not]
    intro e; subst e; exact h hy
  simp [ixE, this]
theorem ixE_mem (l : List CL.Ex) (x : CL.Ex) : decide (0 ≤ ixE l x) = decide (x ∈ l) := by
  by_cases h : x ∈ l
  · cases hh : l.findIdx? (fun b => decide (b = x)) with
    | none =>
      rw [List.findIdx?_eq_none_iff] at hh
      simpa using hh x h
    | some i => simp [ixE, hh, h]
  · have : ixE l x = -1 := ixE_none (j := l.length) (by simpa using h) (Nat.le_refl _)
    simp [this, h]
theorem outE_step {l : List CL.Ex} {x : CL.Ex} {j : Nat} (h : x ∉ l.take j) (hj : j < l.length) (e : ¬ l[j] = x) : x ∉ l.take (j + 1) := by
  rw [List.take_succ_eq_append_getElem hj]
  simp only [List.mem_append, List.mem_singleton, not_or]
  exact ⟨h, fun h => e h.symm⟩
set_option maxHeartbeats 1600000 in
theorem IndexFunc_c (l : List CL.Ex) (x : CL.Ex) (A : Option Addr) (c g : Nat) (ds : List Value) (hl : l.length ≤ maxLen) (w : World) (B : Nat) (hA : Kids w B A l) (hS : Rd w B x ds) (hb : Blk w g 28 ds.toArray) (hB : B ≤ w.heap.size) :
    Calls Try.prog 113 #[.slice A l.length c, .func (.func 95) #[] #[.pointer (some ⟨g, 0, none⟩)]] w fun r w' => r = .returned (.int .i64 (ixE l x)) ∧ Ext w w' := by
  unfold maxLen at hl
  go_enter Try.func113, Try.ntmps113
  go_wp2
  go_loopw [8] (fun i wr => ∃ j : Nat, j ≤ l.length ∧ i = .int .i64 j ∧ Ext w wr ∧ Hid (x ∉ l.take j)) (fun i _ => l.length - (intOf i).toNat)
  case atStart => exact ⟨0, by omega, rfl, Ext.rfl', Lib.hid (by simp)⟩
  case round =>
    obtain ⟨j, hj, rfl, hx, HJ⟩ := hrel
    have hzr := hx.size
    by_cases hlt : j < l.length
    · obtain ⟨b1, o1, k1, s1, m1, u1, A1, l1, x1, rfl, hb1, hR1, c0, c1, c2, c3, c4⟩ := (hA.below (hx.mono hB)).get hlt
      have H1 := Lib.hid (ixE_hit HJ.out hlt)
      have H3 := Lib.hid (outE_step HJ.out hlt)
      have HC := Lib.hid (same_c l[j] x wr B g _ ds hR1 (hS.ext hx hB) (hb.ext hx) (by omega))
      generalize l[j] = y at *
      have hji : (j : Int) < (l.length : Int) := by omega
      cases hyx : CL.eqE y x
      · rw [hyx] at HC
        have HE := Lib.hid (H3.out (fun e => by rw [CL.eqE_eq] at hyx; simp [e] at hyx))
        clear hyx
        go_wp2_with (go_at_call 95; (with_reducible refine HC.out.mono ?_); rintro r w' ⟨rfl, hx3⟩)
        exact ⟨⟨j + 1, by omega, by go_num, hx.tr hx3, HE⟩, by simp [intOf]; omega⟩
      · rw [hyx] at HC
        have HE := Lib.hid (H1.out ((CL.eqE_iff y x).1 hyx))
        clear hyx
        go_wp2_with (go_at_call 95; (with_reducible refine HC.out.mono ?_); rintro r w' ⟨rfl, hx3⟩)
        go_ret
        exact ⟨ret_int HE.out.symm, hx.tr hx3⟩
    · have HE := Lib.hid (ixE_none HJ.out (by omega))
      go_wp2
      go_ret
      exact ⟨ret_int HE.out.symm, hx⟩
theorem ContainsFunc_c (l : List CL.Ex) (x : CL.Ex) (A : Option Addr) (c g : Nat) (ds : List Value) (hl : l.length ≤ maxLen) (w : World) (B : Nat) (hA : Kids w B A l) (hS : Rd w B x ds) (hb : Blk w g 28 ds.toArray) (hB : B ≤ w.heap.size) :
    Calls Try.prog 94 #[.slice A l.length c, .func (.func 95) #[] #[.pointer (some ⟨g, 0, none⟩)]] w fun r w' => r = .returned (.bool (decide (x ∈ l))) ∧ Ext w w' := by
  have HM := Lib.hid (ixE_mem l x)
  have HI := Lib.hid (IndexFunc_c l x A c g ds hl w B hA hS hb hB)
  clear hA hS hb
  go_enter Try.func94, Try.ntmps94
  go_wp2_with (go_at_call 113; (with_reducible refine HI.out.mono ?_); rintro r w' ⟨rfl, hx⟩)
  go_ret
  exact ⟨ret_bool HM.out, hx⟩
/-- merge's list, behind its variable in block p -/
structure MgS (w : World) (p lo : Nat) (l : List CL.Ex) (A : Option Addr) (c : Nat) (vs : List (List Value)) : Prop where
  blk : Blk w p 26 #[.slice A l.length c]
  own : w.ownsRow (p + 1) 28 5 (.slice A l.length c) l.length vs.flatten
  len : vs.length = l.length
  kids : ∀ i (h1 : i < l.length) (h2 : i < vs.length), RdI w lo p l[i] vs[i]
theorem MgS.ext {w w' : World} {p lo : Nat} {l : List CL.Ex} {A : Option Addr} {c : Nat} {vs : List (List Value)} (h : MgS w p lo l A c vs) (hx : Ext w w') : MgS w' p lo l A c vs :=
  ⟨h.blk.ext hx, own_ext h.own hx, h.len, fun i h1 h2 => (h.kids i h1 h2).ext hx (Nat.le_of_lt h.blk.lt)⟩
theorem MgS.five {w : World} {p lo : Nat} {l : List CL.Ex} {A : Option Addr} {c : Nat} {vs : List (List Value)} (h : MgS w p lo l A c vs) : ∀ x ∈ vs, x.length = 5 := fun x hx => by
  obtain ⟨i, hi, rfl⟩ := List.mem_iff_getElem.1 hx
  exact (h.kids i (by have := h.len; omega) hi).len
theorem MgS.rd {w : World} {p lo : Nat} {l : List CL.Ex} {A : Option Addr} {c : Nat} {vs : List (List Value)} (h : MgS w p lo l A c vs) : Kids w w.heap.size A l :=
  ⟨vs, h.len, h.five, SitsB.of (Sits.of_own h.own), fun i h1 h2 => (h.kids i h1 h2).rd.le (Nat.le_of_lt h.blk.lt)⟩
theorem MgS.size {w : World} {p lo : Nat} {l : List CL.Ex} {A : Option Addr} {c : Nat} {vs : List (List Value)} (h : MgS w p lo l A c vs) : vs.flatten.length = l.length * 5 := by rw [flat_len h.five, h.len]
def AddPost' (p lo : Nat) (l : List CL.Ex) (w : World) (r : Ending) (w' : World) : Prop := r = .returned (.tuple #[]) ∧ ∃ A c vs, MgS w' p lo l A c vs ∧ Below p w w'
theorem row_ne {A : Option Addr} {n c g m d W s : Nat} (h : (Value.slice (some ⟨g, 0, none⟩) m d).ownBlock = (Value.slice A n c).ownBlock ∨ (Value.slice (some ⟨g, 0, none⟩) m d).ownBlock = some W) (hO : ∀ x, (Value.slice A n c).ownBlock = some x → x < s) (hW : s < W) : g ≠ s := by
  rcases h with e | e
  · have := hO g e.symm; omega
  · simp [Value.ownBlock] at e; omega
theorem tail5 {w : World} {base g n c : Nat} {E : TypeId} {xs : List Value} {z0 z1 z2 z3 z4 : Value} (h : w.ownsRow base E 5 (.slice (some ⟨g, 0, none⟩) (n + 1) c) (n + 1) (xs ++ [z0, z1, z2, z3, z4])) (hx : xs.length = n * 5) :
    w.cell? ⟨g, n * 5, none⟩ = some z0 ∧ w.cell? ⟨g, n * 5 + 1, none⟩ = some z1 ∧ w.cell? ⟨g, n * 5 + 2, none⟩ = some z2 ∧ w.cell? ⟨g, n * 5 + 3, none⟩ = some z3 ∧ w.cell? ⟨g, n * 5 + 4, none⟩ = some z4 := by
  refine ⟨?_, ?_, ?_, ?_, ?_⟩ <;> rw [h.cellAt _ (by omega), List.getElem?_append_right (by omega)] <;> simp [hx]
theorem set5 {F : List Value} {m : Nat} (h : F.length = m) (z0 z1 z2 z3 z4 a0 a1 a2 a3 a4 : Value) : (((((F ++ [z0, z1, z2, z3, z4]).set m a0).set (m + 1) a1).set (m + 2) a2).set (m + 3) a3).set (m + 4) a4 = F ++ [a0, a1, a2, a3, a4] := by
  subst h
  rw [List.set_append_right _ _ (Nat.le_refl _)]
  rw [List.set_append_right _ _ (by omega), List.set_append_right _ _ (by omega), List.set_append_right _ _ (by omega), List.set_append_right _ _ (by omega)]
  simp [Nat.add_sub_cancel_left]
section
variable {w w3 : World} {p lo g c c3 : Nat} {l : List CL.Ex} {x : CL.Ex} {vs : List (List Value)} {z0 z1 z2 z3 z4 a0 a1 a2 a3 a4 q : Value}
theorem add_kids (hl : vs.length = l.length) (hk : ∀ i (h1 : i < l.length) (h2 : i < vs.length), RdI w lo p l[i] vs[i]) (hx : RdI w lo p x [a0, a1, a2, a3, a4]) : (vs ++ [([a0, a1, a2, a3, a4] : List Value)]).length = (l ++ [x]).length ∧ ∀ i (h1 : i < (l ++ [x]).length) (h2 : i < (vs ++ [([a0, a1, a2, a3, a4] : List Value)]).length), RdI w lo p (l ++ [x])[i] (vs ++ [([a0, a1, a2, a3, a4] : List Value)])[i] := by
  refine ⟨by simp [hl], fun i h1 h2 => ?_⟩
  rcases Nat.lt_or_ge i l.length with hlt | hge
  · have e1 : (l ++ [x])[i] = l[i] := List.getElem_append_left hlt
    have e2 : (vs ++ [([a0, a1, a2, a3, a4] : List Value)])[i] = vs[i]'(by omega) := List.getElem_append_left (by omega)
    rw [e1, e2]; exact hk i hlt (by omega)
  · have e0 : i = l.length := by simp at h1; omega
    have e1 : (l ++ [x])[i] = x := by simp [e0]
    have e2 : (vs ++ [([a0, a1, a2, a3, a4] : List Value)])[i] = [a0, a1, a2, a3, a4] := by simp [e0, ← hl]
    rw [e1, e2]; exact hx
theorem add_done {W : World} (hW : W = ((((((w3.setCell ⟨g, l.length * 5, none⟩ a0).setCell ⟨g, l.length * 5 + 1, none⟩ a1).setCell ⟨g, l.length * 5 + 2, none⟩ a2).setCell ⟨g, l.length * 5 + 3, none⟩ a3).setCell ⟨g, l.length * 5 + 4, none⟩ a4).setCell ⟨p, 0, none⟩ (.slice (some ⟨g, 0, none⟩) (l.length + 1) c3)) ∨
      W = ((((((w3.setCell ⟨p, 0, none⟩ (.slice (some ⟨g, 0, none⟩) (l.length + 1) c3)).setCell ⟨g, l.length * 5, none⟩ a0).setCell ⟨g, l.length * 5 + 1, none⟩ a1).setCell ⟨g, l.length * 5 + 2, none⟩ a2).setCell ⟨g, l.length * 5 + 3, none⟩ a3).setCell ⟨g, l.length * 5 + 4, none⟩ a4))
    (ho : w3.ownsRow (p + 1) 28 5 (.slice (some ⟨g, 0, none⟩) (l.length + 1) c3) (l.length + 1) (vs.flatten ++ [z0, z1, z2, z3, z4])) (hF : vs.flatten.length = l.length * 5) (hb : Blk w3 p 26 #[q]) (hl : vs.length = l.length)
    (hk : ∀ i (h1 : i < l.length) (h2 : i < vs.length), RdI w3 lo p l[i] vs[i]) (hx : RdI w3 lo p x [a0, a1, a2, a3, a4]) (hbw : Below p w w3) (hps : p ≤ w3.heap.size) : ∃ A c vs, MgS W p lo (l ++ [x]) A c vs ∧ Below p w W := by
  have hgp : p + 1 ≤ g := (ho.lt g rfl).1
  have hne : p ≠ g := by omega
  obtain ⟨k1, k2⟩ := add_kids hl hk hx
  have hlen : (l ++ [x]).length = l.length + 1 := by simp
  have hfl : (vs ++ [([a0, a1, a2, a3, a4] : List Value)]).flatten = vs.flatten ++ [a0, a1, a2, a3, a4] := by simp
  have hoS : ∀ {w' : World}, w'.ownsRow (p + 1) 28 5 (.slice (some ⟨g, 0, none⟩) (l.length + 1) c3) (l.length + 1) (vs.flatten ++ [z0, z1, z2, z3, z4]) →
      (((((w'.setCell ⟨g, l.length * 5, none⟩ a0).setCell ⟨g, l.length * 5 + 1, none⟩ a1).setCell ⟨g, l.length * 5 + 2, none⟩ a2).setCell ⟨g, l.length * 5 + 3, none⟩ a3).setCell ⟨g, l.length * 5 + 4, none⟩ a4).ownsRow (p + 1) 28 5 (.slice (some ⟨g, 0, none⟩) (l.length + 1) c3) (l.length + 1) (vs.flatten ++ [a0, a1, a2, a3, a4]) := fun {w'} h => by
    have := (((((h.stored (l.length * 5) a0).1.stored (l.length * 5 + 1) a1).1.stored (l.length * 5 + 2) a2).1.stored (l.length * 5 + 3) a3).1.stored (l.length * 5 + 4) a4).1
    rwa [set5 hF] at this
  have hoG : ∀ {w' : World}, Only g w' (((((w'.setCell ⟨g, l.length * 5, none⟩ a0).setCell ⟨g, l.length * 5 + 1, none⟩ a1).setCell ⟨g, l.length * 5 + 2, none⟩ a2).setCell ⟨g, l.length * 5 + 3, none⟩ a3).setCell ⟨g, l.length * 5 + 4, none⟩ a4) := fun {w'} => ((((Only.rf.set _ a0).set _ a1).set _ a2).set _ a3).set _ a4
  have hgo : p ≤ g := by omega
  have hkeep : ∀ {u u' : World} {r : Nat} {e : CL.Ex} {cs : List Value}, RdI u lo p e cs → Only r u u' → p ≤ r → p ≤ u.heap.size → RdI u' lo p e cs := fun {u u' r e cs} h ho hr hs => h.same (Same.grown ho (fun x e => by injection e; omega) hs)
  rcases hW with rfl | rfl
  · have h1 := hoG (w' := w3)
    have h2 : Only p _ _ := Only.rf.set (a := (((((w3.setCell ⟨g, l.length * 5, none⟩ a0).setCell ⟨g, l.length * 5 + 1, none⟩ a1).setCell ⟨g, l.length * 5 + 2, none⟩ a2).setCell ⟨g, l.length * 5 + 3, none⟩ a3).setCell ⟨g, l.length * 5 + 4, none⟩ a4)) 0 (.slice (some ⟨g, 0, none⟩) (l.length + 1) c3)
    have s1 := h1.size
    have hb2 := (hb.only h1 hne).set 0 (.slice (some ⟨g, 0, none⟩) (l.length + 1) c3)
    refine ⟨some ⟨g, 0, none⟩, c3, _, ⟨by rw [hlen]; exact hb2, ?_, k1, fun i a b => hkeep (hkeep (k2 i a b) h1 hgo hps) h2 (Nat.le_refl _) (by omega)⟩, below_only (below_only hbw h1 hgo hps) h2 (Nat.le_refl _) (by omega)⟩
    rw [hlen, hfl]
    exact own_only (hoS ho) h2 (fun e => by injection e with e; exact hne e.symm)
  · have h2 : Only p w3 (w3.setCell ⟨p, 0, none⟩ (.slice (some ⟨g, 0, none⟩) (l.length + 1) c3)) := Only.rf.set 0 _
    have h1 := hoG (w' := w3.setCell ⟨p, 0, none⟩ (.slice (some ⟨g, 0, none⟩) (l.length + 1) c3))
    have s2 := h2.size
    have hb2 := (hb.set 0 (.slice (some ⟨g, 0, none⟩) (l.length + 1) c3)).only h1 hne
    refine ⟨some ⟨g, 0, none⟩, c3, _, ⟨by rw [hlen]; exact hb2, ?_, k1, fun i a b => hkeep (hkeep (k2 i a b) h2 (Nat.le_refl _) hps) h1 hgo (by omega)⟩, below_only (below_only hbw h2 (Nat.le_refl _) hps) h1 hgo (by omega)⟩
    rw [hlen, hfl]
    exact hoS (own_only ho h2 (fun e => by injection e with e; exact hne e.symm))
theorem add_done1 (ho : w3.ownsRow (p + 1) 28 5 (.slice (some ⟨g, 0, none⟩) (l.length + 1) c3) (l.length + 1) (vs.flatten ++ [z0, z1, z2, z3, z4])) (hF : vs.flatten.length = l.length * 5) (hb : Blk w3 p 26 #[q]) (hl : vs.length = l.length)
    (hk : ∀ i (h1 : i < l.length) (h2 : i < vs.length), RdI w3 lo p l[i] vs[i]) (hx : RdI w3 lo p x [a0, a1, a2, a3, a4]) (hbw : Below p w w3) (hps : p ≤ w3.heap.size) :
    ∃ A c vs, MgS ((((((w3.setCell ⟨g, l.length * 5, none⟩ a0).setCell ⟨g, l.length * 5 + 1, none⟩ a1).setCell ⟨g, l.length * 5 + 2, none⟩ a2).setCell ⟨g, l.length * 5 + 3, none⟩ a3).setCell ⟨g, l.length * 5 + 4, none⟩ a4).setCell ⟨p, 0, none⟩ (.slice (some ⟨g, 0, none⟩) (l.length + 1) c3)) p lo (l ++ [x]) A c vs ∧ Below p w ((((((w3.setCell ⟨g, l.length * 5, none⟩ a0).setCell ⟨g, l.length * 5 + 1, none⟩ a1).setCell ⟨g, l.length * 5 + 2, none⟩ a2).setCell ⟨g, l.length * 5 + 3, none⟩ a3).setCell ⟨g, l.length * 5 + 4, none⟩ a4).setCell ⟨p, 0, none⟩ (.slice (some ⟨g, 0, none⟩) (l.length + 1) c3)) :=
  add_done (.inl rfl) ho hF hb hl hk hx hbw hps
theorem add_done2 (ho : w3.ownsRow (p + 1) 28 5 (.slice (some ⟨g, 0, none⟩) (l.length + 1) c3) (l.length + 1) (vs.flatten ++ [z0, z1, z2, z3, z4])) (hF : vs.flatten.length = l.length * 5) (hb : Blk w3 p 26 #[q]) (hl : vs.length = l.length)
    (hk : ∀ i (h1 : i < l.length) (h2 : i < vs.length), RdI w3 lo p l[i] vs[i]) (hx : RdI w3 lo p x [a0, a1, a2, a3, a4]) (hbw : Below p w w3) (hps : p ≤ w3.heap.size) :
    ∃ A c vs, MgS ((((((w3.setCell ⟨p, 0, none⟩ (.slice (some ⟨g, 0, none⟩) (l.length + 1) c3)).setCell ⟨g, l.length * 5, none⟩ a0).setCell ⟨g, l.length * 5 + 1, none⟩ a1).setCell ⟨g, l.length * 5 + 2, none⟩ a2).setCell ⟨g, l.length * 5 + 3, none⟩ a3).setCell ⟨g, l.length * 5 + 4, none⟩ a4) p lo (l ++ [x]) A c vs ∧ Below p w ((((((w3.setCell ⟨p, 0, none⟩ (.slice (some ⟨g, 0, none⟩) (l.length + 1) c3)).setCell ⟨g, l.length * 5, none⟩ a0).setCell ⟨g, l.length * 5 + 1, none⟩ a1).setCell ⟨g, l.length * 5 + 2, none⟩ a2).setCell ⟨g, l.length * 5 + 3, none⟩ a3).setCell ⟨g, l.length * 5 + 4, none⟩ a4) :=
  add_done (.inr rfl) ho hF hb hl hk hx hbw hps
end
set_option maxHeartbeats 3200000 in
theorem add_c (l : List CL.Ex) (x : CL.Ex) (p lo c : Nat) (A : Option Addr) (vs : List (List Value)) (cs : List Value) (w : World) (h : MgS w p lo l A c vs) (hx : RdI w lo p x cs) (hl : l.length ≤ 1000) :
    Calls Try.prog 93 #[.agg cs.toArray, .pointer (some ⟨p, 0, none⟩)] w (AddPost' p lo (CL.addU l x) w) := by
  obtain ⟨k0, s0, m0, u0, A0, l0, c0, rfl⟩ := hx.shape
  obtain ⟨bE, hx0⟩ := box1 w #[.int .i64 k0, .string s0, .int .i64 m0, .int .i64 u0, .slice A0 l0 c0] 28
  have hz0 := hx0.size
  have hpl := h.blk.lt
  have hS := h.ext hx0
  have hzz : (w.alloc (.cells #[.int .i64 k0, .string s0, .int .i64 m0, .int .i64 u0, .slice A0 l0 c0] 28)).heap.size = w.heap.size + 1 := by simp
  have HCF := Lib.hid (ContainsFunc_c l x A c w.heap.size _ (by unfold maxLen; omega) _ _ hS.rd ((hx.rd.ext hx0 (by omega)).le (by omega)) bE (Nat.le_refl _))
  have p0 := hS.blk.cell 0
  by_cases hm : x ∈ l
  · have HA := Lib.hid (show CL.addU l x = l by unfold CL.addU; rw [if_pos hm])
    rw [decide_eq_true hm] at HCF
    clear hm
    go_enter Try.func93, Try.ntmps93
    go_wp2_with (go_at_call 94; (with_reducible refine HCF.out.mono ?_); rintro r w1 ⟨rfl, hx1⟩)
    go_end0
    rw [HA.out]
    exact ⟨rfl, A, c, vs, hS.ext hx1, (hx0.tr hx1).mono (by omega)⟩
  · have HA := Lib.hid (show CL.addU l x = l ++ [x] by unfold CL.addU; rw [if_neg hm])
    rw [decide_eq_false hm] at HCF
    clear hm
    go_enter Try.func93, Try.ntmps93
    go_wp2_with (go_at_call 94; (with_reducible refine HCF.out.mono ?_); rintro r w1 ⟨rfl, hx1⟩)
    have hS1 := hS.ext hx1
    have hz1 := hx1.size
    have bE1 := bE.ext hx1
    have HX1 := Lib.hid (hx.ext (hx0.tr hx1) (by omega))
    have HBel := Lib.hid ((hx0.tr hx1).mono (show p ≤ w.heap.size by omega))
    have hgE := bE1.lt
    clear HCF bE p0 hx1
    obtain ⟨d0, d1, d2, d3, d4⟩ := bE1.c5
    have p0 := hS1.blk.cell 0
    have z0 := hS1.blk.frozen 0
    have n1 : some p ≠ (Value.slice A l.length c).ownBlock := fun e => by have := (hS1.own.lt _ e.symm).1; omega
    have n2 : p ≠ w.heap.size := by omega
    have HO := Lib.hid (own_drew hS1.own)
    have HB := Lib.hid hS1.blk.drew
    have hbE := Lib.hid bE1.drew
    have hle := hS1.size
    have hli : (l.length : Int) < (l.length : Int) + 1 := by omega
    have n5 : some w.heap.size ≠ (Value.slice A l.length c).ownBlock := fun e => by have := (h.own.lt _ e.symm).2; omega
    have hyz := Ext.new w1 (.cells #[.int .i64 0, .string ⟨#[]⟩, .int .i64 0, .int .i64 0, .slice none 0 0] 28)
    have p0' := hyz.cell p0
    have d0' := hyz.cell d0
    have d1' := hyz.cell d1
    have d2' := hyz.cell d2
    have d3' := hyz.cell d3
    have d4' := hyz.cell d4
    have hOl : ∀ g, (Value.slice A l.length c).ownBlock = some g → g < w.heap.size := fun g e => (h.own.lt g e).2
    go_region_law
      (refine step_append_row _ (by rfl) (.tmp 7) (.tmp 10) _ (by rfl) (p + 1) 28 5 64 _ Try.underlying26 ex_info rfl (by omega) (.slice A l.length c) l.length vs.flatten (by rfl) (HO.out.alloc _) _ _ _ [.int .i64 0, .string ⟨#[]⟩, .int .i64 0, .int .i64 0, .slice none 0 0] (by rfl) (by rfl) (Sits.new _ _ _) (by simp [Value.oneCell']) (by simp only [maxLen]; omega) (by omega) (by simp; omega) ?_; intro v3 w3 hown3 hb3 hg3 hrow3; obtain ⟨A3, c3, rfl, hc3, _⟩ := own_form hown3; obtain ⟨g3, rfl, hg3b⟩ := own_some hown3 (by omega); have hb4 := hg3.blk (HB.out.alloc _) n1; have e43 : w3.cell? ⟨p, 0, none⟩ = some (.slice A l.length c) := hb4.cell 0; have f43 := hb4.frozen 0; obtain ⟨x0, x1, x2, x3, x4⟩ := tail5 hown3 hle; have y0 := hown3.frozenAt (l.length * 5); have y1 := hown3.frozenAt (l.length * 5 + 1); have y2 := hown3.frozenAt (l.length * 5 + 2); have y3 := hown3.frozenAt (l.length * 5 + 3); have y4 := hown3.frozenAt (l.length * 5 + 4); have n3 : g3 ≠ p := (by omega); have n4 : g3 ≠ w.heap.size := row_ne hrow3 hOl (by simp; omega); obtain ⟨t0, t1, t2, t3, t4⟩ := (hg3.blk (hbE.out.alloc _) n5).c5)
    all_goals
      have hza : (w1.alloc (.cells #[.int .i64 0, .string ⟨#[]⟩, .int .i64 0, .int .i64 0, .slice none 0 0] 28)).heap.size = w1.heap.size + 1 := by simp
      have hk3 : ∀ {e : CL.Ex} {cs : List Value}, RdI w1 lo p e cs → RdI w3 lo p e cs := fun h => ((h.ext (Ext.drawn w1) (by omega)).ext (Ext.new w1.drew (.cells #[.int .i64 0, .string ⟨#[]⟩, .int .i64 0, .int .i64 0, .slice none 0 0] 28)) (by simp; omega)).same (Same.grown hg3 (fun y e => by have := (hS1.own.lt y e).1; omega) (by simp; omega))
      go_wp2
      go_end0
      rw [HA.out]
      have hbel : Below p w w3 := ((HBel.out.drew).alloc (by simp; omega) _).trans (hb3.mono (by omega))
      have hps3 : p ≤ w3.heap.size := by have hs3 := hg3.size; simp at hs3; omega
      refine ⟨rfl, ?_⟩
      first
        | with_reducible exact add_done1 hown3 hle hb4 hS1.len (fun i a b => hk3 (hS1.kids i a b)) (hk3 HX1.out) hbel hps3
        | with_reducible exact add_done2 hown3 hle hb4 hS1.len (fun i a b => hk3 (hS1.kids i a b)) (hk3 HX1.out) hbel hps3
end Go.Proofs.Ytmolffigeobnnaa
