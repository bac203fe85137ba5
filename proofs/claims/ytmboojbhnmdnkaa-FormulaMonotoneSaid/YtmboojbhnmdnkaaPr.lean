
/- The walks that tell whether an expression is valid: request.proper, request.ValidExpr. -/
import Derived.Test.YtmboojbhnmdnkaaAt
namespace Go.Proofs.Ytmboojbhnmdnkaa
open Go.RowKit
set_option linter.unusedVariables false
theorem note_len {l : List CL.At} {a : CL.At} (h : l.length ≤ 8) : (CL.note l a).2.length ≤ 8 := by
  unfold CL.note
  split
  · exact h
  · split
    · exact h
    · split
      · exact h
      · simp; omega
theorem prop_len (e : CL.Ex) : ∀ l : List CL.At, l.length ≤ 8 → (CL.prop e l).2.length ≤ 8 := by
  induction e using CL.Ex.ind with
  | h k a kids ih =>
    have hL : ∀ (ks : List CL.Ex), (∀ e ∈ ks, ∀ l : List CL.At, l.length ≤ 8 → (CL.prop e l).2.length ≤ 8) → ∀ l : List CL.At, l.length ≤ 8 → (CL.propL ks l).2.length ≤ 8 := by
      intro ks
      induction ks with
      | nil => intro _ l h; simpa [CL.propL] using h
      | cons e ks ihk =>
        intro hk l h
        simp only [CL.propL]
        split
        · exact ihk (fun x hx => hk x (by simp [hx])) _ (hk e (by simp) l h)
        · exact hk e (by simp) l h
    intro l h
    simp only [CL.prop]
    split
    · split
      · exact note_len h
      · exact h
    · split
      · exact h
      · exact hL kids ih l h
theorem propL_step {kids : List CL.Ex} {j : Nat} {l : List CL.At} (hj : j < kids.length) : CL.propL (kids.drop j) l = if (CL.prop kids[j] l).1 = true then CL.propL (kids.drop (j + 1)) (CL.prop kids[j] l).2 else (false, (CL.prop kids[j] l).2) := by
  rw [List.drop_eq_getElem_cons hj]; simp only [CL.propL]
theorem propL_end {kids : List CL.Ex} {j : Nat} {l : List CL.At} (hj : kids.length ≤ j) : CL.propL (kids.drop j) l = (true, l) := by
  rw [List.drop_eq_nil_of_le hj]; simp only [CL.propL]
theorem at_neq0 (s : List UInt8) (a b : Int) (W : World) : (binOp .neq 25 (.agg #[.string ⟨s.toArray⟩, .int .i64 a, .int .i64 b]) (.agg #[.string ⟨#[]⟩, .int .i64 0, .int .i64 0])).run Try.prog W = .ok (.bool (!decide ((⟨s, ⟨a, b⟩⟩ : CL.At) = CL.noAt))) W := at_neq s [] a b 0 0 W
theorem Blk.c5 {w : World} {g : Nat} {t : TypeId} {x y z v u : Value} (h : Blk w g t #[x, y, z, v, u]) : w.cell? ⟨g, 0, none⟩ = some x ∧ w.cell? ⟨g, 1, none⟩ = some y ∧ w.cell? ⟨g, 2, none⟩ = some z ∧ w.cell? ⟨g, 3, none⟩ = some v ∧ w.cell? ⟨g, 4, none⟩ = some u := ⟨h.cell 0, h.cell 1, h.cell 2, h.cell 3, h.cell 4⟩
set_option maxHeartbeats 1600000 in
theorem request.proper_c (e : CL.Ex) : ∀ (w : World) (B : Nat) (cs : List Value) (l : List CL.At) (G g base : Nat), Rd w B e cs → B ≤ G → G ≤ g → G ≤ base → base ≤ w.heap.size → AtRow w g base l → l.length ≤ 8 →
    Calls Try.prog 43 #[.agg cs.toArray, .pointer (some ⟨g, 0, none⟩)] w fun r w' => r = .returned (.bool (CL.prop e l).1) ∧ AtRow w' g base (CL.prop e l).2 ∧ Below G w w' := by
  induction e using CL.Ex.ind with
  | h k a kids ih =>
    intro w B cs l G g base hR hBG hGg hGb hbs hrow hl8
    obtain ⟨A, c, rfl, hnm, hkl, hkc, hK⟩ := hR.inv
    obtain ⟨nm, m, u⟩ := a
    have IH := Lib.hid ih
    clear ih hR
    unfold maxLen at hkl
    obtain ⟨bE, hx0⟩ := box1 w #[.int .i64 k, .string ⟨nm.toArray⟩, .int .i64 m, .int .i64 u, .slice A kids.length c] 28
    have HROW := Lib.hid (hrow.ext hx0)
    have hz0 := hx0.size
    by_cases hkids : kids = []
    · subst hkids
      simp only [List.length_nil] at bE hx0 HROW hz0
      by_cases hk0 : k = 0
      · subst hk0
        cases hva : CL.vatom ⟨nm, ⟨m, u⟩⟩
        · have HP := Lib.hid (show CL.prop (.mk 0 ⟨nm, ⟨m, u⟩⟩ []) l = (false, l) by simp [CL.prop, hva])
          go_enter Try.func43, Try.ntmps43
          go_wp2_with (go_at_call 58; (with_reducible refine (request.validAtom_c ⟨nm, ⟨m, u⟩⟩ _ hnm).mono ?_); rintro e w' ⟨rfl, hx⟩)
          go_ret
          rw [HP.out]
          exact ⟨rfl, HROW.out.ext hx, (hx0.tr hx).mono (by omega)⟩
        · have HP := Lib.hid (show CL.prop (.mk 0 ⟨nm, ⟨m, u⟩⟩ []) l = (decide ((CL.note l ⟨nm, ⟨m, u⟩⟩).1 = 0), (CL.note l ⟨nm, ⟨m, u⟩⟩).2) by simp [CL.prop, hva])
          go_enter Try.func43, Try.ntmps43
          go_wp2_with (first
            | (go_at_call 58; (with_reducible refine (request.validAtom_c ⟨nm, ⟨m, u⟩⟩ _ hnm).mono ?_); rintro e w' ⟨rfl, hx⟩; obtain ⟨e0, e1, e2, e3, e4⟩ := (bE.ext hx).c5; have hz1 := hx.size)
            | (go_at_call 59; (with_reducible refine (request.note_c ⟨nm, ⟨m, u⟩⟩ l _ G g base hGg hGb (by omega) hl8 (HROW.out.ext hx)).mono ?_); rintro e w'' ⟨rfl, hrow', hb'⟩))
          go_ret
          rw [HP.out]
          exact ⟨rfl, hrow', ((hx0.tr hx).mono (by omega)).trans hb'⟩
      · have hk0' : (k == 0) = false := by simpa using hk0
        have HP := Lib.hid (show CL.prop (.mk k ⟨nm, ⟨m, u⟩⟩ []) l = (false, l) by simp [CL.prop, hk0])
        go_enter Try.func43, Try.ntmps43
        go_wp2
        go_ret
        rw [HP.out]
        exact ⟨rfl, HROW.out, hx0.mono (by omega)⟩
    · have hkl0 : ((kids.length : Int) == 0) = false := beq_eq_false_iff_ne.2 (fun h => hkids (List.eq_nil_of_length_eq_zero (by omega)))
      by_cases hbad : k < 1 ∨ (kids.length : Int) < k ∨ (⟨nm, ⟨m, u⟩⟩ : CL.At) ≠ CL.noAt
      · have HP := Lib.hid (show CL.prop (.mk k ⟨nm, ⟨m, u⟩⟩ kids) l = (false, l) by simp only [CL.prop]; rw [if_neg hkids, if_pos hbad])
        have hb2 : k < 1 ∨ (1 ≤ k ∧ (kids.length : Int) < k) ∨ (1 ≤ k ∧ k ≤ (kids.length : Int) ∧ decide ((⟨nm, ⟨m, u⟩⟩ : CL.At) = CL.noAt) = false) := by
          by_cases h1 : k < 1
          · exact .inl h1
          · by_cases h2 : (kids.length : Int) < k
            · exact .inr (.inl ⟨by omega, h2⟩)
            · exact .inr (.inr ⟨by omega, by omega, by simpa [h1, h2] using hbad⟩)
        clear hbad
        have hq := at_neq0 nm m u
        have hg := at_guard
        rcases hb2 with h1 | ⟨h1, h2⟩ | ⟨h1, h2, h3⟩
        all_goals
          try simp only [h3] at hq
          go_enter Try.func43, Try.ntmps43
          go_wp2
          go_ret
          rw [HP.out]
          exact ⟨rfl, HROW.out, hx0.mono (by omega)⟩
      · have HP := Lib.hid (show CL.prop (.mk k ⟨nm, ⟨m, u⟩⟩ kids) l = CL.propL kids l by simp only [CL.prop]; rw [if_neg hkids, if_neg hbad])
        have h1 : 1 ≤ k := by omega
        have h2 : k ≤ (kids.length : Int) := by omega
        have h3 : decide ((⟨nm, ⟨m, u⟩⟩ : CL.At) = CL.noAt) = true := by
          simp only [not_or, ne_eq, Classical.not_not] at hbad
          simpa using hbad.2.2
        clear hbad
        have hq := at_neq0 nm m u
        simp only [h3] at hq
        have hg := at_guard
        clear h3
        go_enter Try.func43, Try.ntmps43
        go_wp2
        generalize (w.alloc (.cells #[.int .i64 k, .string ⟨nm.toArray⟩, .int .i64 m, .int .i64 u, .slice A kids.length c] 28)) = w1 at *
        go_loopw [46] (fun i wr => ∃ (j : Nat) (l' : List CL.At), j ≤ kids.length ∧ i = .int .i64 j ∧ AtRow wr g base l' ∧ l'.length ≤ 8 ∧ Below G w wr ∧ Hid (CL.propL kids l = CL.propL (kids.drop j) l')) (fun i _ => kids.length - (intOf i).toNat)
        case atStart => exact ⟨0, l, by omega, rfl, HROW.out, hl8, hx0.mono (by omega), Lib.hid (by simp)⟩
        case round =>
          obtain ⟨j, l', hj, rfl, hrow', hl', hbl, HL⟩ := hrel
          have hsz := hbl.size
          by_cases hlt : j < kids.length
          · have hKr := hK.below (hbl.mono hBG)
            obtain ⟨b, o, k1, s1, m1, u1, A1, l1, x1, rfl, hbB, hR, c0, c1, c2, c3, c4⟩ := hKr.get hlt
            have HS := Lib.hid (propL_step (l := l') hlt)
            have HN := Lib.hid (prop_len kids[j] l' hl')
            have hm := List.getElem_mem hlt
            generalize kids[j] = e at *
            have hbx : b ≠ wr.heap.size := by omega
            have hBw : B ≤ wr.heap.size := by omega
            cases hpe : (CL.prop e l').1
            · go_wp2_with (go_at_call 43; (with_reducible refine (IH.out e hm _ B _ l' G g base (hR.kept ((Below.refl _ _).alloc hBw _)) hBG hGg hGb (by simp; omega) (hrow'.ext (Ext.new _ _)) hl').mono ?_); rintro r w' ⟨rfl, hrow2, hb2⟩)
              go_ret
              rw [HP.out, HL.out, HS.out, hpe, if_neg (by simp)]
              exact ⟨rfl, hrow2, (hbl.alloc (by omega) _).trans hb2⟩
            · go_wp2_with (go_at_call 43; (with_reducible refine (IH.out e hm _ B _ l' G g base (hR.kept ((Below.refl _ _).alloc hBw _)) hBG hGg hGb (by simp; omega) (hrow'.ext (Ext.new _ _)) hl').mono ?_); rintro r w' ⟨rfl, hrow2, hb2⟩)
              exact ⟨⟨j + 1, _, by omega, by go_num, hrow2, HN.out, (hbl.alloc (by omega) _).trans hb2, Lib.hid (by rw [HL.out, HS.out, if_pos hpe])⟩, by simp [intOf]; omega⟩
          · go_wp2
            go_ret
            rw [HP.out, HL.out, propL_end (by omega)]
            exact ⟨rfl, hrow', hbl⟩
theorem request.ValidExpr_c (e : CL.Ex) (w : World) (B : Nat) (cs : List Value) (hR : Rd w B e cs) (hB : B ≤ w.heap.size) : Calls Try.prog 32 #[.agg cs.toArray] w fun r w' => r = .returned (.bool (CL.valid e)) ∧ Ext w w' := by
  have HV := Lib.hid (CL.valid_prop e)
  obtain ⟨k, s, m, u, A, l, c, rfl⟩ := hR.shape
  obtain ⟨bE, hx0⟩ := box1 w #[.int .i64 k, .string s, .int .i64 m, .int .i64 u, .slice A l c] 28
  have hx1 : Ext w ((w.alloc (.cells #[.int .i64 k, .string s, .int .i64 m, .int .i64 u, .slice A l c] 28)).alloc (.cells #[.slice none 0 0] 29)) := by go_grown
  have bE1 := bE.alloc (.cells #[.slice none 0 0] 29)
  have hrow : AtRow ((w.alloc (.cells #[.int .i64 k, .string s, .int .i64 m, .int .i64 u, .slice A l c] 28)).alloc (.cells #[.slice none 0 0] 29)) (w.heap.size + 1) (w.heap.size + 1) [] := by
    refine ⟨.slice none 0 0, ?_, rfl, .inl ⟨rfl, rfl⟩⟩
    have h := Blk.new (w.alloc (.cells #[.int .i64 k, .string s, .int .i64 m, .int .i64 u, .slice A l c] 28)) 29 #[.slice none 0 0]
    rw [World.size_alloc] at h; exact h
  have hz : w.heap.size + 1 + 1 ≤ ((w.alloc (.cells #[.int .i64 k, .string s, .int .i64 m, .int .i64 u, .slice A l c] 28)).alloc (.cells #[.slice none 0 0] 29)).heap.size := by simp
  cases hs : CL.small e
  · have hd : CL.dep e = 0 := by simp [CL.dep, hs]
    have HE := Lib.hid (show CL.valid e = false by rw [HV.out, hs]; rfl)
    go_enter Try.func32, Try.ntmps32
    go_wp2_with (go_at_call 42; (with_reducible refine (request.Depth_c e _ B _ (hR.ext hx1 hB) (by omega)).mono ?_); rintro r w' ⟨rfl, hx⟩)
    go_ret
    exact ⟨ret_bool HE.out.symm, hx1.tr hx⟩
  · have hd : ((CL.dep e : Int) == 0) = false := by
      have h1 := CL.depth_pos e
      have h2 : CL.dep e = CL.depth e := by simp [CL.dep, hs]
      exact beq_eq_false_iff_ne.2 (by omega)
    have hd2 : ((CL.dep e : Int) != 0) = true := by simp at hd; simp [hd]
    have HE := Lib.hid (show CL.valid e = (CL.prop e []).1 by rw [HV.out, hs]; rfl)
    go_enter Try.func32, Try.ntmps32
    go_wp2_with (first
      | (go_at_call 42; (with_reducible refine (request.Depth_c e _ B _ (hR.ext hx1 hB) (by omega)).mono ?_); rintro r w' ⟨rfl, hx⟩; obtain ⟨e0, e1, e2, e3, e4⟩ := (bE1.ext hx).c5; have hz2 := hx.size)
      | (go_at_call 43; (with_reducible refine (request.proper_c e _ B _ [] w.heap.size (w.heap.size + 1) (w.heap.size + 1) ((hR.ext hx1 hB).ext hx (by omega)) hB (by omega) (by omega) (by omega) (hrow.ext hx) (by decide)).mono ?_); rintro r w' ⟨rfl, hrow2, hb2⟩))
    go_ret
    exact ⟨ret_bool HE.out.symm, (hx1.tr hx).trans hb2⟩
end Go.Proofs.Ytmboojbhnmdnkaa
