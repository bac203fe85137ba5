
/- The walks of the reference that lists the atoms of a valid expression: clusterlocksref07.Add, Atoms, ValidExpr. -/
import Derived.Test.YtmboojbhnmdnkaaCo
import Derived.Test.YtmboojbhnmdnkaaAp
namespace Go.Proofs.Ytmboojbhnmdnkaa
open Go.RowKit
set_option linter.unusedVariables false
theorem raddL_none {kids : List CL.Ex} {j : Nat} {l : List CL.At} (hj : j < kids.length) (h : CL.radd kids[j] l = none) : CL.raddL (kids.drop j) l = none := by
  rw [List.drop_eq_getElem_cons hj]; simp only [CL.raddL, h]
theorem raddL_some {kids : List CL.Ex} {j : Nat} {l x : List CL.At} (hj : j < kids.length) (h : CL.radd kids[j] l = some x) : CL.raddL (kids.drop j) l = CL.raddL (kids.drop (j + 1)) x := by
  rw [List.drop_eq_getElem_cons hj]; simp only [CL.raddL, h]
theorem raddL_end {kids : List CL.Ex} {j : Nat} {l : List CL.At} (hj : kids.length ≤ j) : CL.raddL (kids.drop j) l = some l := by
  rw [List.drop_eq_nil_of_le hj]; simp only [CL.raddL]
theorem sizeL_step {kids : List CL.Ex} {j : Nat} (hj : j < kids.length) : CL.sizeL (kids.drop j) = CL.size kids[j] + CL.sizeL (kids.drop (j + 1)) := by
  rw [List.drop_eq_getElem_cons hj]; simp only [CL.sizeL]
theorem radd_len (e : CL.Ex) : ∀ l x : List CL.At, CL.radd e l = some x → x.length ≤ l.length + CL.size e := by
  induction e using CL.Ex.ind with
  | h k a kids ih =>
    have hL : ∀ (ks : List CL.Ex), (∀ e ∈ ks, ∀ l x : List CL.At, CL.radd e l = some x → x.length ≤ l.length + CL.size e) → ∀ l x : List CL.At, CL.raddL ks l = some x → x.length ≤ l.length + CL.sizeL ks := by
      intro ks
      induction ks with
      | nil => intro _ l x h; simp [CL.raddL] at h; simp [h]
      | cons e ks ihk =>
        intro hk l x h
        simp only [CL.raddL] at h
        split at h
        · cases h
        · rename_i y hy
          have h1 := hk e (by simp) l y hy
          have h2 := ihk (fun x hx => hk x (by simp [hx])) _ _ h
          simp only [CL.sizeL]; omega
    intro l x h
    simp only [CL.radd] at h
    split at h
    · split at h
      · injection h with h
        subst h
        simp only [CL.size]
        split
        · omega
        · simp
      · cases h
    · split at h
      · cases h
      · have := hL kids ih l x h
        simp only [CL.size]; omega
def AddPost (base : Nat) (e : CL.Ex) (l : List CL.At) (r0 : Option Nat) (w : World) (r : Ending) (w' : World) : Prop :=
  (match CL.radd e l with
    | none => ∃ v, r = .returned (.tuple #[v, .bool false])
    | some x => ∃ v, r = .returned (.tuple #[v, .bool true]) ∧ w'.ownsRow base 25 3 v x.length (ats x) ∧ RowIn w r0 v) ∧ w.grownBy w' r0
theorem AddPost.mk_n {base : Nat} {e : CL.Ex} {l : List CL.At} {r0 : Option Nat} {w w' : World} {v : Value} (h : CL.radd e l = none) (hg : w.grownBy w' r0) : AddPost base e l r0 w (.returned (.tuple #[v, .bool false])) w' := by
  unfold AddPost; rw [h]; exact ⟨⟨v, rfl⟩, hg⟩
theorem AddPost.mk_s {base : Nat} {e : CL.Ex} {l x : List CL.At} {r0 : Option Nat} {w w' : World} {v : Value} (h : CL.radd e l = some x) (ho : w'.ownsRow base 25 3 v x.length (ats x)) (hr : RowIn w r0 v) (hg : w.grownBy w' r0) : AddPost base e l r0 w (.returned (.tuple #[v, .bool true])) w' := by
  unfold AddPost; rw [h]; exact ⟨⟨v, rfl, ho, hr⟩, hg⟩
theorem AddPost.un_n {base : Nat} {e : CL.Ex} {l : List CL.At} {r0 : Option Nat} {w w' : World} {r : Ending} (h : CL.radd e l = none) (hp : AddPost base e l r0 w r w') : ∃ v, r = .returned (.tuple #[v, .bool false]) ∧ w.grownBy w' r0 := by
  unfold AddPost at hp; rw [h] at hp; obtain ⟨⟨v, hv⟩, hg⟩ := hp; exact ⟨v, hv, hg⟩
theorem AddPost.un_s {base : Nat} {e : CL.Ex} {l x : List CL.At} {r0 : Option Nat} {w w' : World} {r : Ending} (h : CL.radd e l = some x) (hp : AddPost base e l r0 w r w') : ∃ v, r = .returned (.tuple #[v, .bool true]) ∧ w'.ownsRow base 25 3 v x.length (ats x) ∧ RowIn w r0 v ∧ w.grownBy w' r0 := by
  unfold AddPost at hp; rw [h] at hp; obtain ⟨⟨v, hv, h1, h2⟩, hg⟩ := hp; exact ⟨v, hv, h1, h2, hg⟩
theorem leaf_n {k : Int} {a : CL.At} {l : List CL.At} (h : ¬ (k = 0 ∧ CL.vatom a = true)) : CL.radd (.mk k a []) l = none := by simp only [CL.radd]; rw [if_pos trivial, if_neg h]
theorem leaf_s {a : CL.At} {l : List CL.At} (h : CL.vatom a = true) : CL.radd (.mk 0 a []) l = some (if a ∈ l then l else l ++ [a]) := by simp [CL.radd, h]
set_option maxHeartbeats 3200000 in
theorem clusterlocksref07.Add_c (e : CL.Ex) : ∀ (w : World) (B : Nat) (cs : List Value) (l : List CL.At) (base : Nat) (A : Option Addr) (c : Nat), Rd w B e cs → B ≤ base → base ≤ w.heap.size → w.ownsRow base 25 3 (.slice A l.length c) l.length (ats l) → l.length + CL.size e ≤ 1000 →
    Calls Try.prog 46 #[.slice A l.length c, .agg cs.toArray] w (AddPost base e l (Value.slice A l.length c).ownBlock w) := by
  induction e using CL.Ex.ind with
  | h k a kids ih =>
    intro w B cs l base A0 c0 hR hBb hbs hown h8
    obtain ⟨A, c, rfl, hnm, hkl, hkc, hK⟩ := hR.inv
    obtain ⟨nm, m, u⟩ := a
    have IH := Lib.hid ih
    clear ih hR
    unfold maxLen at hkl
    have hsz : CL.size (.mk k ⟨nm, ⟨m, u⟩⟩ kids) = 1 + CL.sizeL kids := by simp [CL.size]
    obtain ⟨bE, hx0⟩ := box1 w #[.int .i64 k, .string ⟨nm.toArray⟩, .int .i64 m, .int .i64 u, .slice A kids.length c] 28
    have hz0 := hx0.size
    have hbl := bE.lt
    have hg := at_guard
    by_cases hkids : kids = []
    · subst hkids
      simp only [List.length_nil] at bE hx0 hz0 hbl
      by_cases hva : k = 0 ∧ CL.vatom ⟨nm, ⟨m, u⟩⟩ = true
      · obtain ⟨rfl, hva⟩ := hva
        have HP := Lib.hid (leaf_s (l := l) hva)
        have hv1 : CL.vname nm = true := by simp [CL.vatom] at hva; exact hva.1
        have hv2 : CL.usable ⟨m, u⟩ = true := by simp [CL.vatom] at hva; exact hva.2
        clear hva
        have HN : Hid ((⟨nm, ⟨m, u⟩⟩ : CL.At) ∉ l.take 0) := Lib.hid (by simp)
        go_enter Try.func46, Try.ntmps46
        go_wp2_with (first
          | (go_at_call 62; (with_reducible refine (clusterlocksref05.ValidName_c nm _ hnm).mono ?_); rintro r w' ⟨rfl, rfl⟩)
          | (go_at_call 63; (with_reducible refine (clusterlocksref07.Usable_c m u _).mono ?_); rintro r w' ⟨rfl, hx⟩))
        have hx2 := hx0.tr hx
        have HO := Lib.hid (own_ext hown hx2)
        replace bE := bE.ext hx
        go_loopw [6] (fun i wr => ∃ j : Nat, j ≤ l.length ∧ i = .int .i64 j ∧ Ext w' wr ∧ Hid ((⟨nm, ⟨m, u⟩⟩ : CL.At) ∉ l.take j)) (fun i _ => l.length - (intOf i).toNat)
        case atStart => exact ⟨0, by omega, rfl, Ext.rfl', HN⟩
        case round =>
          obtain ⟨j, hj, rfl, hy, HJ⟩ := hrel
          obtain ⟨wo, rfl⟩ : ∃ wo : World, wo = wr := ⟨_, rfl⟩
          by_cases hlt : j < l.length
          · obtain ⟨b, o, rfl, c0, c1, c2⟩ := ((Sits.of_own hown).ext (hx2.tr hy)).atoms hlt
            have H1 := Lib.hid (List.getElem_mem hlt)
            have H3 := Lib.hid (out_step HJ.out hlt)
            have bEr := bE.ext hy
            have q0 := ExtOf.cell (bEr.cell 1)
            have q1 := ExtOf.cell (bEr.cell 2)
            have q2 := ExtOf.cell (bEr.cell 3)
            generalize l[j] = x at *
            obtain ⟨xn, xm, xu⟩ := x
            simp only at c0 c1 c2
            have q3 := ExtOf.cell c0
            have q4 := ExtOf.cell c1
            have q5 := ExtOf.cell c2
            have hq := at_eql xn nm xm xu m u
            by_cases heq : (⟨xn, ⟨xm, xu⟩⟩ : CL.At) = ⟨nm, ⟨m, u⟩⟩
            · have hmem := H1.out
              rw [heq] at hmem
              rw [decide_eq_true heq] at hq
              have HP2 := Lib.hid (HP.out.trans (by rw [if_pos hmem]))
              clear heq hmem c0 c1 c2
              go_wp2_with fail
              refine wp_region_ext_lit (by kernel_rfl) (by kernel_rfl) ?_
              repeat (go_big_quiet_step (fail))
              refine wpQuiet_nil ?_
              intro wq hw'
              obtain ⟨⟨wq', hxq⟩, hw''⟩ := hw'
              subst hw''
              go_wp2
              go_ret2
              exact AddPost.mk_s HP2.out (own_ext HO.out (hy.tr hxq)) (.inl rfl) (grown_ext (hx2.tr (hy.tr hxq)))
            · have H4 := Lib.hid (H3.out (Ne.symm heq))
              rw [decide_eq_false heq] at hq
              clear heq c0 c1 c2
              go_wp2_with fail
              refine wp_region_ext_lit (by kernel_rfl) (by kernel_rfl) ?_
              repeat (go_big_quiet_step (fail))
              refine wpQuiet_nil ?_
              intro wq hw'
              obtain ⟨⟨wq', hxq⟩, hw''⟩ := hw'
              subst hw''
              go_wp2
              exact ⟨⟨j + 1, by omega, by go_num, hy.tr hxq, H4⟩, by simp [intOf]; omega⟩
          · have hout := HJ.out
            rw [List.take_of_length_le (by omega)] at hout
            have HP2 := Lib.hid (HP.out.trans (by rw [if_neg hout]))
            clear hout
            have hxo := hx2.tr hy
            have hzo := hxo.size
            obtain ⟨e0, e1, e2, e3, e4⟩ := (bE.ext hy).c5
            go_wp2_with (at_builtin; refine wpList_append_row _ rfl (.tmp 46) (.tmp 49) _ rfl base 25 3 32 _ Try.underlying29 at_info rfl (by omega) _ _ _ rfl ((own_ext HO.out hy).alloc _) _ _ _ [.string ⟨nm.toArray⟩, .int .i64 m, .int .i64 u] rfl rfl (Sits.new _ _ _) (by simp [Value.oneCell']) (by simp only [maxLen]; omega) (by omega) (by simp; omega) ?_; intro v3 w3 hown3 hb3 hg3 hrow3)
            go_ret2
            refine AddPost.mk_s HP2.out ?_ ?_ ?_
            · rw [ats_snoc, List.length_append]; exact hown3
            · rcases hrow3 with e | e
              · exact .inl e
              · exact .inr ⟨_, e, by simp; omega⟩
            · exact grown_tr (grown_ext (hxo.tr (Ext.new _ _))) hg3 (.inl rfl)
      · have HP := Lib.hid (leaf_n (l := l) hva)
        have hb2 : k ≠ 0 ∨ (k = 0 ∧ CL.vname nm = false) ∨ (k = 0 ∧ CL.vname nm = true ∧ CL.usable ⟨m, u⟩ = false) := by
          by_cases h1 : k = 0
          · by_cases h2 : CL.vname nm = true
            · exact .inr (.inr ⟨h1, h2, by simpa [CL.vatom, h1, h2] using hva⟩)
            · exact .inr (.inl ⟨h1, by simpa using h2⟩)
          · exact .inl h1
        clear hva
        rcases hb2 with h1 | ⟨rfl, h2⟩ | ⟨rfl, h2, h3⟩
        all_goals
          try (have h1' : (k == 0) = false := by simpa using h1)
          go_enter Try.func46, Try.ntmps46
          go_wp2_with (first
            | (go_at_call 62; (with_reducible refine (clusterlocksref05.ValidName_c nm _ hnm).mono ?_); rintro r w' ⟨rfl, rfl⟩)
            | (go_at_call 63; (with_reducible refine (clusterlocksref07.Usable_c m u _).mono ?_); rintro r w' ⟨rfl, hx⟩))
          go_ret2
          first
            | exact AddPost.mk_n HP.out (grown_ext hx0)
            | exact AddPost.mk_n HP.out (grown_ext (hx0.tr hx))
    · have hkl0 : ((kids.length : Int) == 0) = false := beq_eq_false_iff_ne.2 (fun h => hkids (List.eq_nil_of_length_eq_zero (by omega)))
      by_cases hbad : k < 1 ∨ (kids.length : Int) < k ∨ (⟨nm, ⟨m, u⟩⟩ : CL.At) ≠ CL.noAt
      · have HP := Lib.hid (show CL.radd (.mk k ⟨nm, ⟨m, u⟩⟩ kids) l = none by simp only [CL.radd]; rw [if_neg hkids, if_pos hbad])
        have hb2 : k < 1 ∨ (1 ≤ k ∧ (kids.length : Int) < k) ∨ (1 ≤ k ∧ k ≤ (kids.length : Int) ∧ decide ((⟨nm, ⟨m, u⟩⟩ : CL.At) = CL.noAt) = false) := by
          by_cases h1 : k < 1
          · exact .inl h1
          · by_cases h2 : (kids.length : Int) < k
            · exact .inr (.inl ⟨by omega, h2⟩)
            · exact .inr (.inr ⟨by omega, by omega, by simpa [h1, h2] using hbad⟩)
        clear hbad
        have hq := at_neq0 nm m u
        rcases hb2 with h1 | ⟨h1, h2⟩ | ⟨h1, h2, h3⟩
        all_goals
          try simp only [h3] at hq
          go_enter Try.func46, Try.ntmps46
          go_wp2
          go_ret2
          exact AddPost.mk_n HP.out (grown_ext hx0)
      · have HP := Lib.hid (show CL.radd (.mk k ⟨nm, ⟨m, u⟩⟩ kids) l = CL.raddL kids l by simp only [CL.radd]; rw [if_neg hkids, if_neg hbad])
        have h1 : 1 ≤ k := by omega
        have h2 : k ≤ (kids.length : Int) := by omega
        have h3 : decide ((⟨nm, ⟨m, u⟩⟩ : CL.At) = CL.noAt) = true := by
          simp only [not_or, ne_eq, Classical.not_not] at hbad
          simpa using hbad.2.2
        clear hbad
        have hq := at_neq0 nm m u
        simp only [h3] at hq
        clear h3
        have HOWN := Lib.hid (own_ext hown hx0)
        have hro : ∀ g, (Value.slice A0 l.length c0).ownBlock = some g → base ≤ g ∧ g < w.heap.size := fun g hg => hown.lt g hg
        have HRO := Lib.hid hro
        have HNE := Lib.hid (show some w.heap.size ≠ (Value.slice A0 l.length c0).ownBlock from fun e => by have := hro _ e.symm; omega)
        clear hro hown
        go_enter Try.func46, Try.ntmps46
        go_wp2
        generalize hr0 : (Value.slice A0 l.length c0).ownBlock = r0 at *
        generalize (w.alloc (.cells #[.int .i64 k, .string ⟨nm.toArray⟩, .int .i64 m, .int .i64 u, .slice A kids.length c] 28)) = w1 at *
        go_loopw [0, 7] (fun v i wr => ∃ (j : Nat) (l' : List CL.At) (A' : Option Addr) (c' : Nat), j ≤ kids.length ∧ i = .int .i64 j ∧ v = .slice A' l'.length c' ∧ Hid (wr.ownsRow base 25 3 (.slice A' l'.length c') l'.length (ats l')) ∧ Hid (RowIn w1 r0 (.slice A' l'.length c')) ∧ w1.grownBy wr r0 ∧ l'.length + CL.sizeL (kids.drop j) ≤ 1000 ∧ Hid (CL.raddL kids l = CL.raddL (kids.drop j) l')) (fun _ i _ => kids.length - (intOf i).toNat)
        case atStart => exact ⟨0, l, _, _, by omega, rfl, rfl, HOWN, Lib.hid (.inl hr0), World.grownBy.refl _ _, by simp; omega, Lib.hid (by simp)⟩
        case round =>
          obtain ⟨j, l', A', c', hj, rfl, rfl, HO, HRI, hgr, hlen, HL⟩ := hrel
          have hbE := hgr.blk bE HNE.out
          have e4 : wr.cell? ⟨w.heap.size, 4, none⟩ = some (.slice A kids.length c) := hbE.cell 4
          have hsr := hgr.size
          have hbel : Below base w wr := ((hx0.mono hbs).trans (grown_below hgr (by omega) (fun g hg => (HRO.out g hg).1)))
          have hbl2 := hbE.lt
          by_cases hlt : j < kids.length
          · have hKr := hK.below (hbel.mono hBb)
            obtain ⟨b, o, k1, s1, m1, u1, A1, l1, x1, rfl, hbB, hR, c0, c1, c2, c3, c4⟩ := hKr.get hlt
            have hst := sizeL_step hlt
            have HLN := Lib.hid (radd_len kids[j] l')
            have HE := Lib.hid (fun h => raddL_none (l := l') hlt h)
            have HS := Lib.hid (fun x h => raddL_some (l := l') (x := x) hlt h)
            have hm := List.getElem_mem hlt
            generalize kids[j] = e at *
            have hbx : b ≠ wr.heap.size := by omega
            cases hre : CL.radd e l' with
            | none =>
              go_wp2_with (go_at_call 46; (with_reducible refine (IH.out e hm _ B _ l' base A' c' hR hBb (by omega) HO.out (by omega)).mono ?_); intro r w' hp; obtain ⟨v, rfl, hgp⟩ := hp.un_n hre)
              go_ret2
              refine AddPost.mk_n (HP.out.trans (HL.out.trans (HE.out hre))) ?_
              refine grown_tr (grown_ext hx0) (grown_tr hgr hgp ?_) (.inl rfl)
              exact HRI.out
            | some x =>
              have hlx := HLN.out x hre
              go_wp2_with (go_at_call 46; (with_reducible refine (IH.out e hm _ B _ l' base A' c' hR hBb (by omega) HO.out (by omega)).mono ?_); intro r w' hp; obtain ⟨v, rfl, hown', hri', hgp⟩ := hp.un_s hre; obtain ⟨A2, c2, rfl, _, _⟩ := own_form hown')
              exact ⟨⟨j + 1, _, A2, c2, by omega, by go_num, rfl, hown', HRI.out.tr hsr hri', grown_tr hgr hgp HRI.out, by omega, Lib.hid (HL.out.trans (HS.out x hre))⟩, by simp [intOf]; omega⟩
          · go_wp2
            go_ret2
            refine AddPost.mk_s (HP.out.trans (HL.out.trans (raddL_end (by omega)))) HO.out ?_ ?_
            · rcases HRI.out with e | ⟨g, e, hg⟩
              · exact .inl e
              · exact .inr ⟨g, e, by omega⟩
            · exact grown_tr (grown_ext hx0) hgr (.inl rfl)
end Go.Proofs.Ytmboojbhnmdnkaa
