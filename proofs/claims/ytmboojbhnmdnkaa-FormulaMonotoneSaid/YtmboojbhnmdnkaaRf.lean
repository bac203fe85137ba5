
/- The walks of the reference of chapter 8: holds, Holds, Hopeless, SameBools. -/
import Derived.Test.YtmboojbhnmdnkaaFc
namespace Go.Proofs.Ytmboojbhnmdnkaa
open Go.RowKit
set_option linter.unusedVariables false
mutual
def rev (h : CL.At → Bool) : CL.Ex → Bool | .mk k a kids => if k = 0 then h a else decide (k ≤ (rcnt h kids : Nat))
def rcnt (h : CL.At → Bool) : List CL.Ex → Nat
  | [] => 0
  | e :: l => (if rev h e = true then 1 else 0) + rcnt h l
end
theorem rev_ev (h : CL.At → Bool) (e : CL.Ex) : ∀ l x : List CL.At, CL.radd e l = some x → rev h e = ev h e := by
  induction e using CL.Ex.ind with
  | h k a kids ih =>
    have hL : ∀ (ks : List CL.Ex), (∀ e ∈ ks, ∀ l x : List CL.At, CL.radd e l = some x → rev h e = ev h e) → ∀ l x : List CL.At, CL.raddL ks l = some x → rcnt h ks = cnt h ks := by
      intro ks
      induction ks with
      | nil => intro _ l x _; simp [rcnt, cnt]
      | cons e ks ihk =>
        intro hk l x hx
        simp only [CL.raddL] at hx
        split at hx
        · cases hx
        · rename_i y hy
          simp only [rcnt, cnt]
          rw [hk e (by simp) l y hy, ihk (fun x hx => hk x (by simp [hx])) y x hx]
    intro l x hx
    simp only [CL.radd] at hx
    split at hx
    · rename_i hk
      split at hx
      · rename_i hk2
        simp only [rev, ev]
        rw [if_pos hk2.1, if_pos hk]
      · cases hx
    · rename_i hk
      split at hx
      · cases hx
      · rename_i hb
        simp only [rev, ev]
        rw [if_neg (by omega), if_neg hk, hL kids ih l x hx]
theorem rev_valid {h : CL.At → Bool} {e : CL.Ex} (hv : CL.valid e = true) : rev h e = ev h e := rev_ev h e [] _ (CL.valid_coll hv).1
theorem rcnt_step {h : CL.At → Bool} {kids : List CL.Ex} {j : Nat} (hj : j < kids.length) : rcnt h (kids.drop j) = (if rev h kids[j] = true then 1 else 0) + rcnt h (kids.drop (j + 1)) := by
  rw [List.drop_eq_getElem_cons hj]; simp only [rcnt]
theorem rcnt_end {h : CL.At → Bool} {kids : List CL.Ex} {j : Nat} (hj : kids.length ≤ j) : rcnt h (kids.drop j) = 0 := by
  rw [List.drop_eq_nil_of_le hj]; simp only [rcnt]
theorem hasA_hit {l : List CL.At} {set : List Bool} {a : CL.At} {j : Nat} (h : a ∉ l.take j) (hj : j < l.length) (e : a = l[j]) : hasA l set a = set.getD j false := hasA_some (ixo_hit h hj e)
theorem hasA_end {l : List CL.At} {set : List Bool} {a : CL.At} {j : Nat} (h : a ∉ l.take j) (hj : l.length ≤ j) : hasA l set a = false := by
  rw [List.take_of_length_le hj] at h
  exact hasA_none (ixo_none h)
set_option maxHeartbeats 3200000 in
theorem clusterlocksref08.holds_c (l : List CL.At) (set : List Bool) (A S : Option Addr) (c d : Nat) (hl : l.length ≤ maxLen) (hs : set.length ≤ maxLen) (e : CL.Ex) : ∀ (w : World) (B : Nat) (cs : List Value), Rd w B e cs → B ≤ w.heap.size → Sits w A (ats l) → Sits w S (bls set) →
    Calls Try.prog 36 #[.agg cs.toArray, .slice A l.length c, .slice S set.length d] w fun r w' => r = .returned (.bool (rev (hasA l set) e)) ∧ Ext w w' := by
  induction e using CL.Ex.ind with
  | h k a kids ih =>
    intro w B cs hR hB hrl hrs
    obtain ⟨A0, c0, rfl, hnm, hkl, hkc, hK⟩ := hR.inv
    obtain ⟨nm, m, u⟩ := a
    have IH := Lib.hid ih
    clear ih hR
    have hl2 := hl
    have hs2 := hs
    unfold maxLen at hkl hl2 hs2
    obtain ⟨bE, hx0⟩ := box1 w #[.int .i64 k, .string ⟨nm.toArray⟩, .int .i64 m, .int .i64 u, .slice A0 kids.length c0] 28
    have hz0 := hx0.size
    have hg := at_guard
    by_cases hk0 : k = 0
    · subst hk0
      have HP := Lib.hid (show rev (hasA l set) (.mk 0 ⟨nm, ⟨m, u⟩⟩ kids) = hasA l set ⟨nm, ⟨m, u⟩⟩ by simp [rev])
      have HN : Hid ((⟨nm, ⟨m, u⟩⟩ : CL.At) ∉ l.take 0) := Lib.hid (by simp)
      go_enter Try.func36, Try.ntmps36
      go_wp2
      generalize (w.alloc (.cells #[.int .i64 0, .string ⟨nm.toArray⟩, .int .i64 m, .int .i64 u, .slice A0 kids.length c0] 28)) = w1 at *
      go_loopw [7] (fun i wr => ∃ j : Nat, j ≤ l.length ∧ i = .int .i64 j ∧ Ext w1 wr ∧ Hid ((⟨nm, ⟨m, u⟩⟩ : CL.At) ∉ l.take j)) (fun i _ => l.length - (intOf i).toNat)
      case atStart => exact ⟨0, by omega, rfl, Ext.rfl', HN⟩
      case round =>
        obtain ⟨j, hj, rfl, hy, HJ⟩ := hrel
        by_cases hlt : j < l.length
        · obtain ⟨b, o, rfl, c0, c1, c2⟩ := (hrl.ext (hx0.tr hy)).atoms hlt
          have H1 := Lib.hid (hasA_hit (set := set) HJ.out hlt)
          have H3 := Lib.hid (out_step HJ.out hlt)
          have bEr := bE.ext hy
          have q0 := ExtOf.cell (bEr.cell 1)
          have q1 := ExtOf.cell (bEr.cell 2)
          have q2 := ExtOf.cell (bEr.cell 3)
          generalize l[j] = x at *
          obtain ⟨xn, xm, xu⟩ := x
          simp only at c0 c1 c2
          have q3 := ExtOf.cell c0
          have q4 := ExtOf.cell c1
          have q5 := ExtOf.cell c2
          have hq := at_eql xn nm xm xu m u
          by_cases heq : (⟨xn, ⟨xm, xu⟩⟩ : CL.At) = ⟨nm, ⟨m, u⟩⟩
          · rw [decide_eq_true heq] at hq
            have H4 := Lib.hid (H1.out heq.symm)
            clear heq c0 c1 c2
            go_wp2_with fail
            refine wp_region_ext_lit (by kernel_rfl) (by kernel_rfl) ?_
            repeat (go_big_quiet_step (fail))
            refine wpQuiet_nil ?_
            intro wq hw'
            obtain ⟨⟨wq', hxq⟩, hw''⟩ := hw'
            subst hw''
            clear q0 q1 q2 q3 q4 q5
            by_cases hjs : j < set.length
            · have HG := Lib.hid (show set.getD j false = set[j] by simp [List.getD, hjs])
              obtain ⟨b2, o2, rfl, hc⟩ := (hrs.ext (hx0.tr (hy.tr hxq))).bool hjs
              go_wp2
              go_ret
              exact ⟨ret_bool (by rw [HP.out, H4.out, HG.out]), hx0.tr (hy.tr hxq)⟩
            · have HG := Lib.hid (show set.getD j false = false by simp [List.getD, List.getElem?_eq_none (show set.length ≤ j by omega)])
              go_wp2
              go_ret
              exact ⟨ret_bool (by rw [HP.out, H4.out, HG.out]), hx0.tr (hy.tr hxq)⟩
          · have H4 := Lib.hid (H3.out (Ne.symm heq))
            rw [decide_eq_false heq] at hq
            clear heq c0 c1 c2
            go_wp2_with fail
            refine wp_region_ext_lit (by kernel_rfl) (by kernel_rfl) ?_
            repeat (go_big_quiet_step (fail))
            refine wpQuiet_nil ?_
            intro wq hw'
            obtain ⟨⟨wq', hxq⟩, hw''⟩ := hw'
            subst hw''
            go_wp2
            exact ⟨⟨j + 1, by omega, by go_num, hy.tr hxq, H4⟩, by simp [intOf]; omega⟩
        · have H4 := Lib.hid (hasA_end (set := set) HJ.out (by omega))
          go_wp2
          go_ret
          exact ⟨ret_bool (by rw [HP.out, H4.out]), hx0.tr hy⟩
    · have hk0' : (k == 0) = false := by simpa using hk0
      have HP := Lib.hid (show rev (hasA l set) (.mk k ⟨nm, ⟨m, u⟩⟩ kids) = decide (k ≤ (rcnt (hasA l set) kids : Nat)) by simp only [rev]; rw [if_neg hk0])
      go_enter Try.func36, Try.ntmps36
      go_wp2
      generalize (w.alloc (.cells #[.int .i64 k, .string ⟨nm.toArray⟩, .int .i64 m, .int .i64 u, .slice A0 kids.length c0] 28)) = w1 at *
      go_loopw [8, 9] (fun n i wr => ∃ (j n' : Nat), j ≤ kids.length ∧ n' ≤ j ∧ i = .int .i64 j ∧ n = .int .i64 n' ∧ Ext w1 wr ∧ Hid (rcnt (hasA l set) kids = n' + rcnt (hasA l set) (kids.drop j))) (fun _ i _ => kids.length - (intOf i).toNat)
      case atStart => exact ⟨0, 0, by omega, by omega, rfl, rfl, Ext.rfl', Lib.hid (by simp)⟩
      case round =>
        obtain ⟨j, n', hj, hn', rfl, rfl, hx, HL⟩ := hrel
        have hzr := hx.size
        have hbE := bE.ext hx
        have hbl := hbE.lt
        have d4 : wr.cell? ⟨w.heap.size, 4, none⟩ = some (.slice A0 kids.length c0) := hbE.cell 4
        by_cases hlt : j < kids.length
        · have hKr := hK.below ((hx0.tr hx).mono hB)
          obtain ⟨b, o, k1, s1, m1, u1, A1, l1, x1, rfl, hbB, hR, c0, c1, c2, c3, c4⟩ := hKr.get hlt
          have HS := Lib.hid (rcnt_step (h := hasA l set) hlt)
          have hm := List.getElem_mem hlt
          generalize kids[j] = e at *
          have hbx : b ≠ wr.heap.size := by omega
          have hxr := hx0.tr hx
          cases hev : rev (hasA l set) e
          all_goals
            go_wp2_with (go_at_call 36; (with_reducible refine (IH.out e hm _ B _ hR (by omega) (hrl.ext hxr) (hrs.ext hxr)).mono ?_); rintro r w' ⟨rfl, hx1⟩)
            first
              | exact ⟨⟨j + 1, n' + 1, by omega, by omega, by go_num, by go_num, hx.tr hx1, Lib.hid (by rw [HL.out, HS.out, hev]; simp; omega)⟩, by simp [intOf]; omega⟩
              | exact ⟨⟨j + 1, n', by omega, by omega, by go_num, rfl, hx.tr hx1, Lib.hid (by rw [HL.out, HS.out, hev]; simp)⟩, by simp [intOf]; omega⟩
        · have e0 : wr.cell? ⟨w.heap.size, 0, none⟩ = some (.int .i64 k) := hbE.cell 0
          go_wp2
          go_ret
          refine ⟨ret_bool ?_, hx0.tr hx⟩
          rw [HP.out, HL.out, rcnt_end (by omega)]
          simp
/-- the same, for a valid expression -/
theorem rholds_c (l : List CL.At) (set : List Bool) (A S : Option Addr) (c d : Nat) (hl : l.length ≤ maxLen) (hs : set.length ≤ maxLen) (e : CL.Ex) (hv : CL.valid e = true) (w : World) (B : Nat) (cs : List Value) (hR : Rd w B e cs) (hB : B ≤ w.heap.size) (hrl : Sits w A (ats l)) (hrs : Sits w S (bls set)) :
    Calls Try.prog 36 #[.agg cs.toArray, .slice A l.length c, .slice S set.length d] w fun r w' => r = .returned (.bool (ev (hasA l set) e)) ∧ Ext w w' := by
  have h := clusterlocksref08.holds_c l set A S c d hl hs e w B cs hR hB hrl hrs
  rwa [rev_valid hv] at h
theorem RAts.get {e : CL.Ex} {w w' : World} {r : Ending} (h : RAts e w r w') : ∃ A c, r = .returned (.tuple #[.slice A (CL.atoms e).length c, .bool (CL.valid e)]) ∧ Sits w' A (ats (CL.atoms e)) ∧ Ext w w' := by
  obtain ⟨v, rfl, ho, hb⟩ := h
  obtain ⟨A, c, rfl, _, _⟩ := own_form ho
  exact ⟨A, c, rfl, Sits.of_own ho, hb⟩
end Go.Proofs.Ytmboojbhnmdnkaa
