/-  -/
import Derived.Test.YtmolffigeobnnaaZ1
import Derived.Deep.RegionHeld3
import Derived.Deep.RegionLaw
import Derived.Deep.DeepCutAuto
/- The walks of package amount and of its reference: each function once, with what it returns. -/
namespace Go.Proofs.Ytmolffigeobnnaa
open Go.RowKit
theorem am_eqIn (a b c d : Int) (W : World) : (Op.equalIn 10000 23 (.agg #[.int .i64 a, .int .i64 b]) (.agg #[.int .i64 c, .int .i64 d])).run Try.prog W = .ok (decide (a = c ∧ b = d)) W := by
  have h1 : Try.prog.stoodInHeld 23 = false := by kernel_rfl
  rw [run_equalIn_struct (d := 9999) _ _ _ _ (by simp [Program.fieldsOf, Try.underlying23]) h1]
  simp [Program.fieldsOf, Try.underlying23, Op.eqFields, go_sem, Try.underlying3]
  by_cases e1 : a = c <;> by_cases e2 : b = d <;> simp [e1, e2]
theorem am_eql (a b c d : Int) (W : World) : (binOp .eql 23 (.agg #[.int .i64 a, .int .i64 b]) (.agg #[.int .i64 c, .int .i64 d])).run Try.prog W = .ok (.bool (decide (a = c ∧ b = d))) W := by
  rw [run_eql_struct, am_eqIn]; rfl
theorem am_neq (a b c d : Int) (W : World) : (binOp .neq 23 (.agg #[.int .i64 a, .int .i64 b]) (.agg #[.int .i64 c, .int .i64 d])).run Try.prog W = .ok (.bool (!decide (a = c ∧ b = d))) W := by
  rw [run_neq_struct, am_eqIn]; rfl
theorem am_guard : Try.prog.eqGuardType Try.prog.depth 23 = false := by kernel_rfl
theorem am_zero (a b : Int) (W : World) : (binOp .eql 23 (.agg #[.int .i64 a, .int .i64 b]) (.agg #[.int .i64 0, .int .i64 0])).run Try.prog W = .ok (.bool (CL.zer ⟨a, b⟩)) W := am_eql a b 0 0 W
theorem amount.Shaped_c (n : ByteArray) (k u h : Int) (w : World) : Calls Try.prog 116 #[.agg #[.string n, .int .i64 k, .int .i64 u, .int .i64 h]] w fun e w' => e = .returned (.bool (CL.shaped k u)) ∧ Ext w w' := by
  go_enter Try.func116, Try.ntmps116
  go_wp2
  all_goals (go_ret; refine ⟨ret_bool ?_, ?_⟩; · go_tidy; grind [CL.shaped]
             · go_grown)
theorem amount.Fits_c (n : ByteArray) (k u h a b : Int) (w : World) : Calls Try.prog 98 #[.agg #[.string n, .int .i64 k, .int .i64 u, .int .i64 h], .agg #[.int .i64 a, .int .i64 b]] w fun e w' => e = .returned (.bool (CL.fits k u ⟨a, b⟩)) ∧ Ext w w' := by
  go_enter Try.func98, Try.ntmps98
  go_wp2_with (first
        | (go_at_call 116; refine (amount.Shaped_c _ _ _ _ _).mono ?_; rintro e w' ⟨rfl, hx1⟩; have hx := Ext.tr (a := w) (by go_grown) hx1; have hz := hx.size; obtain ⟨hc1, hf1⟩ := bcell hx1; have hz1 := hx1.size; (try simp only [World.size_alloc] at hz1); (try have hl0 : w.heap.size < w'.heap.size := by omega); (try have hl1 : w.heap.size + 1 < w'.heap.size := by omega); (try have hl2 : w.heap.size + 1 + 1 < w'.heap.size := by omega); (try have hl3 : w.heap.size + 1 + 1 + 1 < w'.heap.size := by omega); clear hx1)
        | (go_at_call 117; refine (Valid_c _ _).mono ?_; rintro e w' ⟨rfl, rfl⟩))
  all_goals (go_ret; refine ⟨ret_bool ?_, ?_⟩; · go_tidy; grind [CL.fits]
             · go_grown)
/-- an amount as a value -/
theorem ret_am {J : CL.Am} {a b : Int} (h : J = ⟨a, b⟩) : Ending.returned (.agg #[.int .i64 a, .int .i64 b]) = .returned (.agg #[.int .i64 J.m, .int .i64 J.u]) := by rw [h]
end Go.Proofs.Ytmolffigeobnnaa
/- The walks of packages catalog and its reference that expressions reach: names. -/
namespace Go.Proofs.Ytmolffigeobnnaa
open Go.RowKit
set_option linter.unusedVariables false
theorem catalog.Reserved_c (s : List UInt8) (w : World) : Calls Try.prog 115 #[.string ⟨s.toArray⟩] w fun e w' => e = .returned (.bool (CL.rsv s)) ∧ w = w' := by
  go_enter Try.func115, Try.ntmps115
  go_wp2
  all_goals (go_ret; refine ⟨ret_bool ?_, rfl⟩; go_tidy; rw [Bool.eq_iff_iff]; simp_all [CL.rsv])
theorem clusterlocksref05.Reserved_c (s : List UInt8) (w : World) : Calls Try.prog 110 #[.string ⟨s.toArray⟩] w fun e w' => e = .returned (.bool (CL.rsv s)) ∧ w = w' := by
  go_enter Try.func110, Try.ntmps110
  go_wp2
  all_goals (go_ret; refine ⟨ret_bool ?_, rfl⟩; go_tidy; rw [Bool.eq_iff_iff]; simp_all [CL.rsv])
theorem clusterlocksref05.Letter_c (n : Int) (w : World) : Calls Try.prog 109 #[.int .u8 n] w fun e w' => e = .returned (.bool (CL.ltr n)) ∧ w = w' := by
  go_enter Try.func109, Try.ntmps109
  go_wp2
  all_goals (go_ret; refine ⟨ret_bool ?_, rfl⟩; simp [CL.ltr]; try omega)
theorem clusterlocksref05.Part_c (n : Int) (w : World) : Calls Try.prog 111 #[.int .u8 n] w fun e w' => e = .returned (.bool (CL.prt n)) ∧ w = w' := by
  go_enter Try.func111, Try.ntmps111
  go_wp2_with (go_at_call 109; refine (clusterlocksref05.Letter_c _ _).mono ?_; rintro e w' ⟨rfl, rfl⟩)
  all_goals (go_ret; refine ⟨ret_bool ?_, rfl⟩; go_tidy; first | (simp_all [CL.prt, CL.dig]; done) | (simp_all [CL.prt, CL.dig]; grind))
theorem clusterlocksref05.ValidName_c (s : List UInt8) (w : World) (hs : s.length ≤ maxLen) : Calls Try.prog 90 #[.string ⟨s.toArray⟩] w fun e w' => e = .returned (.bool (CL.vname s)) ∧ w = w' := by
  unfold maxLen at hs
  by_cases hl : 1 ≤ s.length ∧ s.length ≤ 12
  · obtain ⟨h1, h2⟩ := hl
    by_cases hc : CL.at8 CL.ltr (s[0]'(by omega)) = true
    · have c0 : CL.ltr (((⟨s.toArray⟩ : ByteArray)[0]'(by simp [ByteArray.size]; omega)).toNat : Int) = true := hc
      by_cases hr : CL.rsv s = true
      · have HV := Lib.hid (CL.vname_rsv hr)
        go_enter Try.func90, Try.ntmps90
        go_wp2_with (first
        | (go_at_call 109; refine (clusterlocksref05.Letter_c _ _).mono ?_; rintro e w' ⟨rfl, rfl⟩)
        | (go_at_call 110; refine (clusterlocksref05.Reserved_c _ _).mono ?_; rintro e w' ⟨rfl, rfl⟩))
        go_ret
        exact ⟨ret_bool HV.out.symm, rfl⟩
      · simp only [Bool.not_eq_true] at hr
        have HR := Lib.hid hr
        have HO : Hid (CL.OkTo s 0) := CL.OkTo.zero
        go_enter Try.func90, Try.ntmps90
        go_wp2_with (first
        | (go_at_call 109; refine (clusterlocksref05.Letter_c _ _).mono ?_; rintro e w' ⟨rfl, rfl⟩)
        | (go_at_call 110; refine (clusterlocksref05.Reserved_c _ _).mono ?_; rintro e w' ⟨rfl, rfl⟩))
        go_loop [3] (fun i => ∃ k : Nat, k ≤ s.length ∧ i = .int .i64 k ∧ Hid (CL.OkTo s k)) (fun i => s.length - (intOf i).toNat)
        case atStart => exact ⟨0, by omega, rfl, HO⟩
        case round =>
          obtain ⟨k, hk, rfl, HK⟩ := hrel
          by_cases hlt : k < s.length
          · by_cases hp : CL.at8 CL.prt s[k] = true
            · have c1 : CL.prt (((⟨s.toArray⟩ : ByteArray)[k]'hlt).toNat : Int) = true := hp
              have HS := Lib.hid (HK.out.step hlt (by unfold CL.okAt; split; · subst_vars; exact hc
                                                      · exact hp))
              clear hp
              go_wp2_with (first
        | (go_at_call 111; refine (clusterlocksref05.Part_c _ _).mono ?_; rintro e w' ⟨rfl, rfl⟩))
              go_round
              case rel => exact ⟨k + 1, by omega, by go_num, HS⟩
              case measure => simp [intOf]; omega
            · simp only [Bool.not_eq_true] at hp
              have c1 : CL.prt (((⟨s.toArray⟩ : ByteArray)[k]'hlt).toNat : Int) = false := hp
              have HV := Lib.hid (CL.vname_bad hlt (by unfold CL.okAt; split; · subst_vars; rw [CL.prt_ltr hc] at hp; cases hp
                                                       · exact hp))
              clear hp
              go_wp2_with (first
        | (go_at_call 111; refine (clusterlocksref05.Part_c _ _).mono ?_; rintro e w' ⟨rfl, rfl⟩))
              go_ret
              exact ⟨ret_bool HV.out.symm, rfl⟩
          · have HV := Lib.hid (CL.vname_all (by omega) h2 HR.out (fun i hi => HK.out i hi (by omega)))
            go_wp2
            go_ret
            exact ⟨ret_bool HV.out.symm, rfl⟩
    · simp only [Bool.not_eq_true] at hc
      have c0 : CL.ltr (((⟨s.toArray⟩ : ByteArray)[0]'(by simp [ByteArray.size]; omega)).toNat : Int) = false := hc
      have HV := Lib.hid (CL.vname_bad (s := s) (i := 0) (by omega) (by unfold CL.okAt; rw [if_pos rfl]; exact hc))
      go_enter Try.func90, Try.ntmps90
      go_wp2_with (first
        | (go_at_call 109; refine (clusterlocksref05.Letter_c _ _).mono ?_; rintro e w' ⟨rfl, rfl⟩)
        | (go_at_call 110; refine (clusterlocksref05.Reserved_c _ _).mono ?_; rintro e w' ⟨rfl, rfl⟩))
      go_ret
      exact ⟨ret_bool HV.out.symm, rfl⟩
  · have HV := Lib.hid (CL.vname_len (s := s) (by omega))
    have hl2 : s.length < 1 ∨ (1 ≤ s.length ∧ 12 < s.length) := by omega
    clear hl
    rcases hl2 with h1 | ⟨h1, h2⟩
    all_goals
      go_enter Try.func90, Try.ntmps90
      go_wp2
      go_ret
      exact ⟨ret_bool HV.out.symm, rfl⟩
theorem ok0 (c : UInt8) : CL.okAt 0 c = decide (97 ≤ (c.toNat : Int) ∧ (c.toNat : Int) ≤ 122) := rfl
theorem ok1 (c : UInt8) {k : Nat} (h : 0 < k) : CL.okAt k c = (decide (97 ≤ (c.toNat : Int) ∧ (c.toNat : Int) ≤ 122) || decide (48 ≤ (c.toNat : Int) ∧ (c.toNat : Int) ≤ 57) || (c.toNat : Int) == 95 || (c.toNat : Int) == 45) := by
  unfold CL.okAt; rw [if_neg (by omega)]; rfl
set_option maxHeartbeats 800000 in
theorem catalog.ValidName_c (s : List UInt8) (w : World) (hs : s.length ≤ maxLen) : Calls Try.prog 97 #[.string ⟨s.toArray⟩] w fun e w' => e = .returned (.bool (CL.vname s)) ∧ w = w' := by
  unfold maxLen at hs
  by_cases hl : 1 ≤ s.length ∧ s.length ≤ 12
  · obtain ⟨h1, h2⟩ := hl
    by_cases hr : CL.rsv s = true
    · have HV := Lib.hid (CL.vname_rsv hr)
      go_enter Try.func97, Try.ntmps97
      go_wp2_with (first
        | (go_at_call 115; refine (catalog.Reserved_c _ _).mono ?_; rintro e w' ⟨rfl, rfl⟩))
      go_ret
      exact ⟨ret_bool HV.out.symm, rfl⟩
    · simp only [Bool.not_eq_true] at hr
      have HR := Lib.hid hr
      have HO : Hid (CL.OkTo s 0) := CL.OkTo.zero
      go_enter Try.func97, Try.ntmps97
      go_wp2_with (first
        | (go_at_call 115; refine (catalog.Reserved_c _ _).mono ?_; rintro e w' ⟨rfl, rfl⟩))
      go_loop [21] (fun i => ∃ k : Nat, k ≤ s.length ∧ i = .int .i64 k ∧ Hid (CL.OkTo s k)) (fun i => s.length - (intOf i).toNat)
      case atStart => exact ⟨0, by omega, rfl, HO⟩
      case round =>
        obtain ⟨k, hk, rfl, HK⟩ := hrel
        by_cases hlt : k < s.length
        · have HS := Lib.hid (fun h => HK.out.step hlt h)
          have HV := Lib.hid (fun h => CL.vname_bad (i := k) hlt h)
          rcases Nat.eq_zero_or_pos k with hk0 | hk0
          · subst hk0
            have H0 := Lib.hid (show CL.okAt 0 s[0] = decide (97 ≤ (((⟨s.toArray⟩ : ByteArray)[0]'hlt).toNat : Int) ∧ (((⟨s.toArray⟩ : ByteArray)[0]'hlt).toNat : Int) ≤ 122) from ok0 s[0])
            clear hk
            go_wp2
            all_goals first
              | (go_ret; exact ⟨ret_bool (HV.out (by rw [H0.out]; grind)).symm, rfl⟩)
              | (refine ⟨⟨1, by omega, rfl, Lib.hid (HS.out (by rw [H0.out]; grind))⟩, by simp [intOf]; omega⟩)
          · have hz : ((k : Int) == 0) = false := beq_eq_false_iff_ne.2 (by omega)
            have H0 := Lib.hid (show CL.okAt k s[k] = (decide (97 ≤ (((⟨s.toArray⟩ : ByteArray)[k]'hlt).toNat : Int) ∧ (((⟨s.toArray⟩ : ByteArray)[k]'hlt).toNat : Int) ≤ 122) || decide (48 ≤ (((⟨s.toArray⟩ : ByteArray)[k]'hlt).toNat : Int) ∧ (((⟨s.toArray⟩ : ByteArray)[k]'hlt).toNat : Int) ≤ 57) || (((⟨s.toArray⟩ : ByteArray)[k]'hlt).toNat : Int) == 95 || (((⟨s.toArray⟩ : ByteArray)[k]'hlt).toNat : Int) == 45) from ok1 s[k] hk0)
            go_wp2
            all_goals first
              | (go_ret; exact ⟨ret_bool (HV.out (by rw [H0.out]; grind)).symm, rfl⟩)
              | (refine ⟨⟨k + 1, by omega, by go_num, Lib.hid (HS.out (by rw [H0.out]; grind))⟩, by simp [intOf]; omega⟩)
        · have HV := Lib.hid (CL.vname_all (by omega) h2 HR.out (fun i hi => HK.out i hi (by omega)))
          go_wp2
          go_ret
          exact ⟨ret_bool HV.out.symm, rfl⟩
  · have HV := Lib.hid (CL.vname_len (s := s) (by omega))
    have hl2 : s.length < 1 ∨ (1 ≤ s.length ∧ 12 < s.length) := by omega
    clear hl
    rcases hl2 with h1 | ⟨h1, h2⟩
    all_goals
      go_enter Try.func97, Try.ntmps97
      go_wp2
      go_ret
      exact ⟨ret_bool HV.out.symm, rfl⟩
end Go.Proofs.Ytmolffigeobnnaa
/- The walks that count nodes and levels of an expression, by the program and by the reference. -/
namespace Go.Proofs.Ytmolffigeobnnaa
open Go.RowKit
set_option linter.unusedVariables false
theorem box1 (w : World) (c1 : Array Value) (t1 : TypeId) : Blk (w.alloc (.cells c1 t1)) w.heap.size t1 c1 ∧ Ext w (w.alloc (.cells c1 t1)) := ⟨Blk.new _ _ _, Ext.new _ _⟩
theorem meas_le {e : CL.Ex} {lv n : Nat} (h : (CL.meas e lv n).1 ≠ 0) : (CL.meas e lv n).2 ≤ 24 ∧ (CL.meas e lv n).1 ≤ 24 ∧ n ≤ (CL.meas e lv n).2 := by
  by_cases c : CL.depth e + lv ≤ 5 ∧ n + CL.size e ≤ 24
  · rw [(CL.meas_spec e lv n).1 c]; simp only; omega
  · exact absurd ((CL.meas_spec e lv n).2 c) h
theorem measL_step {kids : List CL.Ex} {j lv n d : Nat} (hj : j < kids.length) : CL.measL (kids.drop j) lv n d = if (CL.meas kids[j] lv n).1 = 0 then (0, (CL.meas kids[j] lv n).2) else CL.measL (kids.drop (j + 1)) lv (CL.meas kids[j] lv n).2 (max d (CL.meas kids[j] lv n).1) := by
  rw [List.drop_eq_getElem_cons hj]; simp only [CL.measL]
theorem measL_end {kids : List CL.Ex} {j lv n d : Nat} (hj : kids.length ≤ j) : CL.measL (kids.drop j) lv n d = (d + 1, n) := by
  rw [List.drop_eq_nil_of_le hj]; simp only [CL.measL]
set_option maxHeartbeats 1600000 in
theorem request.measure_c (e : CL.Ex) : ∀ (w : World) (B : Nat) (cs : List Value) (lv n g : Nat) (L : Int), L = (lv : Int) → Rd w B e cs → B ≤ g → Blk w g 3 #[.int .i64 n] → n ≤ 24 → lv ≤ 5 →
    Calls Try.prog 81 #[.agg cs.toArray, .int .i64 L, .pointer (some ⟨g, 0, none⟩)] w fun r w' =>
      r = .returned (.int .i64 ((CL.meas e lv n).1 : Nat)) ∧ Blk w' g 3 #[.int .i64 ((CL.meas e lv n).2 : Nat)] ∧ Only g w w' := by
  induction e using CL.Ex.ind with
  | h k a kids ih =>
    intro w B cs lv n g L hL hR hBg hb hn hlv
    subst hL
    obtain ⟨A, c, rfl, hnm, hkl, hkc, hK⟩ := hR.inv
    obtain ⟨nm, m, u⟩ := a
    have IH := Lib.hid ih
    clear ih hR
    have h0 : w.cell? ⟨g, 0, none⟩ = some (.int .i64 n) := hb.cell 0
    have f0 := hb.frozen 0
    have hgl := hb.lt
    have hne : g ≠ w.heap.size := by omega
    have hne' : w.heap.size ≠ g := by omega
    unfold maxLen at hkl
    have hb1 := ((hb.set 0 (.int .i64 (n + 1 : Nat))).alloc (.cells #[.int .i64 k, .string ⟨nm.toArray⟩, .int .i64 m, .int .i64 u, .slice A kids.length c] 28))
    have ho1 := (Only.set (Only.rf (g := g) (w := w)) 0 (.int .i64 (n + 1 : Nat))).tr (Only.of_ext (Ext.new _ (.cells #[.int .i64 k, .string ⟨nm.toArray⟩, .int .i64 m, .int .i64 u, .slice A kids.length c] 28)))
    by_cases hc : lv ≤ 4 ∧ n + 1 ≤ 24
    · obtain ⟨hc1, hc2⟩ := hc
      have HM := Lib.hid (show CL.meas (.mk k ⟨nm, ⟨m, u⟩⟩ kids) lv n = CL.measL kids (lv + 1) (n + 1) 0 by simp only [CL.meas]; rw [if_neg (by omega)])
      go_enter Try.func81, Try.ntmps81
      go_wp2
      push_cast at hb1 ho1
      generalize ((w.setCell ⟨g, 0, none⟩ (.int .i64 ((n : Int) + 1))).alloc (.cells #[.int .i64 k, .string ⟨nm.toArray⟩, .int .i64 m, .int .i64 u, .slice A kids.length c] 28)) = w1 at *
      go_loopw [7, 27] (fun d i wr => ∃ (j d' n' : Nat), j ≤ kids.length ∧ i = .int .i64 j ∧ d = .int .i64 d' ∧ Blk wr g 3 #[.int .i64 n'] ∧ Only g w wr ∧ n' ≤ 24 ∧ d' ≤ 24 ∧ Hid (CL.measL kids (lv + 1) (n + 1) 0 = CL.measL (kids.drop j) (lv + 1) n' d')) (fun _ i _ => kids.length - (intOf i).toNat)
      case atStart => exact ⟨0, 0, n + 1, by omega, rfl, rfl, by simpa using hb1, ho1, hc2, by omega, Lib.hid (by simp)⟩
      case round =>
        obtain ⟨j, d, n', hj, rfl, rfl, hbr, hor, hn', hd', HL⟩ := hrel
        have hgr := hbr.lt
        have hner : g ≠ wr.heap.size := by omega
        by_cases hlt : j < kids.length
        · have hKr := hK.below (below_only (Below.refl B w) hor hBg (by omega))
          obtain ⟨b, o, k1, s1, m1, u1, A1, l1, x1, rfl, hbB, hR, c0, c1, c2, c3, c4⟩ := hKr.get hlt
          have HS := Lib.hid (measL_step (lv := lv + 1) (n := n') (d := d) hlt)
          have HE := Lib.hid (meas_le (e := kids[j]) (lv := lv + 1) (n := n'))
          have hm := List.getElem_mem hlt
          generalize kids[j] = e at *
          have hbx : b ≠ wr.heap.size := by omega
          go_wp2_with (go_at_call 81; (with_reducible refine (IH.out e hm _ B _ (lv + 1) n' g _ (by omega) (hR.kept ((Below.refl _ _).alloc (by omega) _)) hBg (hbr.alloc _) hn' (by omega)).mono ?_); rintro r w' ⟨rfl, hb', ho'⟩)
          · rename_i hq
            have hz : (CL.meas e (lv + 1) n').1 = 0 := by simpa using hq
            go_ret
            rw [HM.out, HL.out, HS.out, if_pos hz]
            exact ⟨rfl, hb', (hor.tr (Only.of_ext (Ext.new _ _))).tr ho'⟩
          · rename_i hq
            have hz : (CL.meas e (lv + 1) n').1 ≠ 0 := by simpa using hq
            obtain ⟨q1, q2, q3⟩ := HE.out hz
            refine ⟨⟨j + 1, max d (CL.meas e (lv + 1) n').1, (CL.meas e (lv + 1) n').2, by omega, by go_num, ?_, hb', (hor.tr (Only.of_ext (Ext.new _ _))).tr ho', q1, by omega, Lib.hid (by rw [HL.out, HS.out, if_neg hz])⟩, by simp [intOf]; omega⟩
            split <;> (congr 1; omega)
        · go_wp2
          go_ret
          rw [HM.out, HL.out, measL_end (by omega)]
          exact ⟨rfl, hbr, hor⟩
    · have HM := Lib.hid (show CL.meas (.mk k ⟨nm, ⟨m, u⟩⟩ kids) lv n = (0, n + 1) by simp only [CL.meas]; rw [if_pos (by omega)])
      go_enter Try.func81, Try.ntmps81
      have hc2 : 4 < lv ∨ 24 < n + 1 := by omega
      rcases hc2 with hc2 | hc2
      all_goals
        go_wp2
        all_goals
          go_ret
          rw [HM.out]
          exact ⟨rfl, by simpa using hb1, by simpa using ho1⟩
theorem request.Depth_c (e : CL.Ex) (w : World) (B : Nat) (cs : List Value) (hR : Rd w B e cs) (hB : B ≤ w.heap.size) : Calls Try.prog 64 #[.agg cs.toArray] w fun r w' => r = .returned (.int .i64 (CL.dep e : Nat)) ∧ Ext w w' := by
  obtain ⟨k, s, m, u, A, l, c, rfl⟩ := hR.shape
  go_enter Try.func64, Try.ntmps64
  have hx0 : Ext w ((w.alloc (.cells #[.int .i64 k, .string s, .int .i64 m, .int .i64 u, .slice A l c] 28)).alloc (.cells #[.int .i64 0] 3)) := by go_grown
  have hb0 : Blk ((w.alloc (.cells #[.int .i64 k, .string s, .int .i64 m, .int .i64 u, .slice A l c] 28)).alloc (.cells #[.int .i64 0] 3)) (w.heap.size + 1) 3 #[.int .i64 (0 : Nat)] := by
    have h := Blk.new (w.alloc (.cells #[.int .i64 k, .string s, .int .i64 m, .int .i64 u, .slice A l c] 28)) 3 #[.int .i64 0]
    rw [World.size_alloc] at h; exact h
  go_wp2_with (go_at_call 81; (with_reducible refine (request.measure_c e _ B _ 1 0 (w.heap.size + 1) 1 rfl (hR.ext hx0 hB) (by omega) hb0 (by omega) (by omega)).mono ?_); rintro r w' ⟨rfl, hb', ho'⟩)
  go_ret
  refine ⟨ret_int ?_, hx0.only ho' (by omega)⟩
  unfold CL.dep
  by_cases h : CL.small e = true
  · rw [if_pos h, CL.meas_small h]
  · rw [if_neg h, CL.meas_great (by simpa using h)]
theorem rszL_step {kids : List CL.Ex} {j dp n d : Nat} (hj : j < kids.length) : CL.rszL (kids.drop j) dp n d = if 24 < n + (CL.rsz kids[j] dp).1 then (25, 0) else CL.rszL (kids.drop (j + 1)) dp (n + (CL.rsz kids[j] dp).1) (max d (CL.rsz kids[j] dp).2) := by
  rw [List.drop_eq_getElem_cons hj]; simp only [CL.rszL]
theorem rszL_end {kids : List CL.Ex} {j dp n d : Nat} (hj : kids.length ≤ j) : CL.rszL (kids.drop j) dp n d = (n, d + 1) := by
  rw [List.drop_eq_nil_of_le hj]; simp only [CL.rszL]
theorem rsz_le (e : CL.Ex) (dp : Nat) : (CL.rsz e dp).1 ≤ 25 ∧ ((CL.rsz e dp).1 ≤ 24 → (CL.rsz e dp).2 ≤ 24) := by
  by_cases c : CL.depth e + dp ≤ 5 ∧ CL.size e ≤ 24
  · rw [(CL.rsz_spec e dp).1 c]; simp only; omega
  · have := (CL.rsz_spec e dp).2 c; omega
set_option maxHeartbeats 1600000 in
theorem clusterlocksref07.Size_c (e : CL.Ex) : ∀ (w : World) (B : Nat) (cs : List Value) (dp : Nat) (L : Int), L = (dp : Int) → Rd w B e cs → B ≤ w.heap.size → dp ≤ 5 →
    Calls Try.prog 61 #[.agg cs.toArray, .int .i64 L] w fun r w' =>
      r = .returned (.tuple #[.int .i64 ((CL.rsz e dp).1 : Nat), .int .i64 ((CL.rsz e dp).2 : Nat)]) ∧ Ext w w' := by
  induction e using CL.Ex.ind with
  | h k a kids ih =>
    intro w B cs lv L hL hR hB hlv
    subst hL
    obtain ⟨A, c, rfl, hnm, hkl, hkc, hK⟩ := hR.inv
    obtain ⟨nm, m, u⟩ := a
    have IH := Lib.hid ih
    clear ih hR
    unfold maxLen at hkl
    by_cases hc : lv ≤ 4 ∧ kids.length ≤ 24
    · obtain ⟨hc1, hc2⟩ := hc
      have HM := Lib.hid (show CL.rsz (.mk k ⟨nm, ⟨m, u⟩⟩ kids) lv = CL.rszL kids (lv + 1) 1 0 by simp only [CL.rsz]; rw [if_neg (by omega)])
      obtain ⟨bE, hx0⟩ := box1 w #[.int .i64 k, .string ⟨nm.toArray⟩, .int .i64 m, .int .i64 u, .slice A kids.length c] 28
      go_enter Try.func61, Try.ntmps61
      go_wp2
      generalize (w.alloc (.cells #[.int .i64 k, .string ⟨nm.toArray⟩, .int .i64 m, .int .i64 u, .slice A kids.length c] 28)) = w1 at *
      go_loopw [6, 7, 8] (fun n d i wr => ∃ (j d' n' : Nat), j ≤ kids.length ∧ i = .int .i64 j ∧ d = .int .i64 d' ∧ n = .int .i64 n' ∧ Ext w1 wr ∧ n' ≤ 24 ∧ d' ≤ 24 ∧ Hid (CL.rszL kids (lv + 1) 1 0 = CL.rszL (kids.drop j) (lv + 1) n' d')) (fun _ _ i _ => kids.length - (intOf i).toNat)
      case atStart => exact ⟨0, 0, 1, by omega, rfl, rfl, rfl, Ext.rfl', by omega, by omega, Lib.hid (by simp)⟩
      case round =>
        obtain ⟨j, d, n', hj, rfl, rfl, rfl, hx, hn', hd', HL⟩ := hrel
        have e4 : wr.cell? ⟨w.heap.size, 4, none⟩ = some (.slice A kids.length c) := (bE.ext hx).cell 4
        have hw1 := hx0.size
        have hwr := hx.size
        have hbs := (bE.ext hx).lt
        by_cases hlt : j < kids.length
        · have hKr := hK.below ((hx0.tr hx).mono hB)
          obtain ⟨b, o, k1, s1, m1, u1, A1, l1, x1, rfl, hbB, hR, c0, c1, c2, c3, c4⟩ := hKr.get hlt
          have HS := Lib.hid (rszL_step (dp := lv + 1) (n := n') (d := d) hlt)
          obtain ⟨q1, q2⟩ := rsz_le kids[j] (lv + 1)
          have HE := Lib.hid q2
          clear q2
          have hm := List.getElem_mem hlt
          generalize kids[j] = e at *
          have hbx : b ≠ wr.heap.size := by omega
          by_cases h24 : 24 < n' + (CL.rsz e (lv + 1)).1
          · go_wp2_with (go_at_call 61; (with_reducible refine (IH.out e hm _ B _ (lv + 1) _ (by omega) hR (by omega) (by omega)).mono ?_); rintro r w' ⟨rfl, hx'⟩)
            all_goals
              go_ret2
              rw [HM.out, HL.out, HS.out, if_pos h24]
              exact ⟨rfl, hx0.tr (hx.tr hx')⟩
          · go_wp2_with (go_at_call 61; (with_reducible refine (IH.out e hm _ B _ (lv + 1) _ (by omega) hR (by omega) (by omega)).mono ?_); rintro r w' ⟨rfl, hx'⟩)
            all_goals
              have hd2 := HE.out (by omega)
              refine ⟨⟨j + 1, max d (CL.rsz e (lv + 1)).2, n' + (CL.rsz e (lv + 1)).1, by omega, by go_num, by congr 1; omega, by congr 1, hx.tr hx', by omega, by omega, Lib.hid (by rw [HL.out, HS.out, if_neg h24])⟩, by simp [intOf]; omega⟩
        · go_wp2
          go_ret2
          rw [HM.out, HL.out, rszL_end (by omega)]
          exact ⟨rfl, hx0.tr hx⟩
    · have HM := Lib.hid (show CL.rsz (.mk k ⟨nm, ⟨m, u⟩⟩ kids) lv = (25, 0) by simp only [CL.rsz]; rw [if_pos (by omega)])
      have hc2 : 4 < lv ∨ 24 < kids.length := by omega
      rcases hc2 with hc2 | hc2
      all_goals
        go_enter Try.func61, Try.ntmps61
        go_wp2
        all_goals
          go_ret2
          rw [HM.out]
          exact ⟨rfl, Ext.new _ _⟩
theorem clusterlocksref07.Nodes_c (e : CL.Ex) (w : World) (B : Nat) (cs : List Value) (hR : Rd w B e cs) (hB : B ≤ w.heap.size) : Calls Try.prog 32 #[.agg cs.toArray] w fun r w' => r = .returned (.int .i64 (CL.nod e : Nat)) ∧ Ext w w' := by
  obtain ⟨k, s, m, u, A, l, c, rfl⟩ := hR.shape
  have hn : if CL.small e = true then CL.rsz e 1 = (CL.size e, CL.depth e) ∧ CL.size e ≤ 24 ∧ CL.nod e = CL.size e else (CL.rsz e 1).1 = 25 ∧ CL.nod e = 0 := by
    by_cases h : CL.small e = true
    · rw [if_pos h]; exact ⟨CL.rsz_small h, by simp [CL.small] at h; omega, by simp [CL.nod, h]⟩
    · rw [if_neg h]; exact ⟨CL.rsz_great (by simpa using h), by simp [CL.nod, h]⟩
  split at hn
  · obtain ⟨h1, h2, h3⟩ := hn
    go_enter Try.func32, Try.ntmps32
    go_wp2_with (go_at_call 61; (with_reducible refine (clusterlocksref07.Size_c e _ B _ 1 1 rfl (hR.ext (Ext.new _ _) hB) (by simp; omega) (by omega)).mono ?_); rintro r w' ⟨rfl, hx'⟩)
    go_ret
    exact ⟨ret_int (by rw [h3]), (Ext.new _ _).tr hx'⟩
  · obtain ⟨h1, h2⟩ := hn
    go_enter Try.func32, Try.ntmps32
    go_wp2_with (go_at_call 61; (with_reducible refine (clusterlocksref07.Size_c e _ B _ 1 1 rfl (hR.ext (Ext.new _ _) hB) (by simp; omega) (by omega)).mono ?_); rintro r w' ⟨rfl, hx'⟩)
    go_ret
    exact ⟨ret_int (by rw [h2]; rfl), (Ext.new _ _).tr hx'⟩
theorem clusterlocksref07.Usable_c (a b : Int) (w : World) : Calls Try.prog 91 #[.agg #[.int .i64 a, .int .i64 b]] w fun e w' => e = .returned (.bool (CL.usable ⟨a, b⟩)) ∧ Ext w w' := by
  go_enter Try.func91, Try.ntmps91
  go_wp2_with (first
        | (go_at_call 112; refine (RValid_c _ _).mono ?_; rintro e w' ⟨rfl, rfl⟩))
  all_goals (go_ret; refine ⟨ret_bool ?_, Ext.new _ _⟩; go_tidy; grind [CL.usable])
end Go.Proofs.Ytmolffigeobnnaa
/- Atoms in memory: equality, lists of atoms, and the walks that gather them. -/
namespace Go.Proofs.Ytmolffigeobnnaa
open Go.RowKit
set_option linter.unusedVariables false
theorem fm_len {α : Type} {c : α → List Value} {sz : Nat} (h : ∀ a, (c a).length = sz) (l : List α) : (l.flatMap c).length = l.length * sz := by
  induction l with
  | nil => simp
  | cons t l ih => rw [List.flatMap_cons, List.length_append, ih, h, List.length_cons, Nat.add_mul]; omega
theorem fm_get {α : Type} {c : α → List Value} {sz : Nat} (h : ∀ a, (c a).length = sz) {l : List α} {k : Nat} (hk : k < l.length) (j : Nat) (hj : j < sz) : (l.flatMap c)[k * sz + j]? = (c l[k])[j]? := by
  induction l generalizing k with
  | nil => simp at hk
  | cons t l ih =>
    cases k with
    | zero => rw [List.flatMap_cons, List.getElem?_append_left (by rw [h]; omega)]; simp
    | succ k =>
      rw [List.flatMap_cons, List.getElem?_append_right (by rw [h, Nat.add_mul]; omega), h]
      have := ih (k := k) (by simpa using hk)
      simp only [List.getElem_cons_succ]
      rw [← this]; congr 1; rw [Nat.add_mul]; omega
theorem am_eqD (k : Nat) (a b c d : Int) (W : World) : (Op.equalIn (k + 2) 23 (.agg #[.int .i64 a, .int .i64 b]) (.agg #[.int .i64 c, .int .i64 d])).run Try.prog W = .ok (decide (a = c ∧ b = d)) W := by
  have h1 : Try.prog.stoodInHeld 23 = false := by kernel_rfl
  rw [run_equalIn_struct (d := k + 1) _ _ _ _ (by simp [Program.fieldsOf, Try.underlying23]) h1]
  simp [Program.fieldsOf, Try.underlying23, Op.eqFields, go_sem, Try.underlying3]
  by_cases e1 : a = c <;> by_cases e2 : b = d <;> simp [e1, e2]
theorem at_eqIn (s t : List UInt8) (a b c d : Int) (W : World) : (Op.equalIn 10000 25 (.agg #[.string ⟨s.toArray⟩, .int .i64 a, .int .i64 b]) (.agg #[.string ⟨t.toArray⟩, .int .i64 c, .int .i64 d])).run Try.prog W = .ok (decide ((⟨s, ⟨a, b⟩⟩ : CL.At) = ⟨t, ⟨c, d⟩⟩)) W := by
  have h1 : Try.prog.stoodInHeld 25 = false := by kernel_rfl
  rw [run_equalIn_struct (d := 9999) _ _ _ _ (by simp [Program.fieldsOf, Try.underlying25]) h1]
  simp [Program.fieldsOf, Try.underlying25, Op.eqFields, go_sem, Try.underlying9]
  by_cases e0 : s = t <;> by_cases e1 : a = c <;> by_cases e2 : b = d <;> simp [e0, e1, e2]
/-- an atom as a value -/
def atv (a : CL.At) : Value := .agg #[.string ⟨a.n.toArray⟩, .int .i64 a.a.m, .int .i64 a.a.u]
theorem at_eql (s t : List UInt8) (a b c d : Int) (W : World) : (binOp .eql 25 (.agg #[.string ⟨s.toArray⟩, .int .i64 a, .int .i64 b]) (.agg #[.string ⟨t.toArray⟩, .int .i64 c, .int .i64 d])).run Try.prog W = .ok (.bool (decide ((⟨s, ⟨a, b⟩⟩ : CL.At) = ⟨t, ⟨c, d⟩⟩))) W := by
  rw [run_eql_struct, at_eqIn]; rfl
theorem at_neq (s t : List UInt8) (a b c d : Int) (W : World) : (binOp .neq 25 (.agg #[.string ⟨s.toArray⟩, .int .i64 a, .int .i64 b]) (.agg #[.string ⟨t.toArray⟩, .int .i64 c, .int .i64 d])).run Try.prog W = .ok (.bool (!decide ((⟨s, ⟨a, b⟩⟩ : CL.At) = ⟨t, ⟨c, d⟩⟩))) W := by
  rw [run_neq_struct, at_eqIn]; rfl
theorem at_guard : Try.prog.eqGuardType Try.prog.depth 25 = false := by kernel_rfl
theorem at_info : (Try.prog.info? 25).map (fun i => (i.zero, i.size, i.bytes)) = some (some (.agg #[.string ⟨#[]⟩, .int .i64 0, .int .i64 0]), 3, 32) := by kernel_rfl
/-- atoms as cells -/
def atc (a : CL.At) : List Value := [.string ⟨a.n.toArray⟩, .int .i64 a.a.m, .int .i64 a.a.u]
def ats (l : List CL.At) : List Value := l.flatMap atc
theorem ats_len (l : List CL.At) : (ats l).length = l.length * 3 := fm_len (c := atc) (fun _ => rfl) l
theorem ats_append (a b : List CL.At) : ats (a ++ b) = ats a ++ ats b := by simp [ats]
theorem ats_snoc (l : List CL.At) (a : CL.At) : ats (l ++ [a]) = ats l ++ atc a := by simp [ats]
theorem at_cells {w : World} {l : List CL.At} {p o k : Nat} (hc : ∀ j u, (ats l)[j]? = some u → w.cell? ⟨p, o + j, none⟩ = some u) (h : k < l.length) :
    w.cell? ⟨p, o + k * 3, none⟩ = some (.string ⟨l[k].n.toArray⟩) ∧ w.cell? ⟨p, o + k * 3 + 1, none⟩ = some (.int .i64 l[k].a.m) ∧ w.cell? ⟨p, o + k * 3 + 2, none⟩ = some (.int .i64 l[k].a.u) :=
  ⟨hc (k * 3 + 0) _ (fm_get (c := atc) (sz := 3) (fun _ => rfl) h 0 (by omega)), hc (k * 3 + 1) _ (fm_get (c := atc) (sz := 3) (fun _ => rfl) h 1 (by omega)), hc (k * 3 + 2) _ (fm_get (c := atc) (sz := 3) (fun _ => rfl) h 2 (by omega))⟩
theorem Sits.atoms {w : World} {l : List CL.At} {A : Option Addr} (hr : Sits w A (ats l)) {k : Nat} (h : k < l.length) : ∃ b o, A = some ⟨b, o, none⟩ ∧
    w.cell? ⟨b, o + k * 3, none⟩ = some (.string ⟨l[k].n.toArray⟩) ∧ w.cell? ⟨b, o + k * 3 + 1, none⟩ = some (.int .i64 l[k].a.m) ∧ w.cell? ⟨b, o + k * 3 + 2, none⟩ = some (.int .i64 l[k].a.u) :=
  let ⟨b, o, e, hc⟩ := hr.get (by rw [ats_len]; omega)
  ⟨b, o, e, at_cells hc h⟩
/-- a slot that holds a list of atoms of the call's own -/
def AtRow (w : World) (g base : Nat) (l : List CL.At) : Prop := ∃ v, Blk w g 44 #[v] ∧ w.ownsRow base 25 3 v l.length (ats l)
theorem AtRow.ext {w w' : World} {g base : Nat} {l : List CL.At} (h : AtRow w g base l) (hx : Ext w w') : AtRow w' g base l :=
  let ⟨v, h1, h2⟩ := h
  ⟨v, h1.ext hx, own_ext h2 hx⟩
theorem at_ne : 25 ≠ 44 := by decide
def NoteTo (l : List CL.At) (a : CL.At) (j : Nat) : Prop := CL.noteF l a = CL.noteF (l.drop j) a ∧ a ∉ l.take j
theorem NoteTo.zero (l : List CL.At) (a : CL.At) : NoteTo l a 0 := ⟨by simp, by simp⟩
theorem NoteTo.hit {l : List CL.At} {a : CL.At} {j : Nat} (h : NoteTo l a j) (hj : j < l.length) (he : a = l[j]) : CL.note l a = (0, l) := by
  have h1 := h.1
  rw [List.drop_eq_getElem_cons hj] at h1
  simp only [CL.noteF, he, if_true] at h1
  unfold CL.note
  rw [if_pos (by rw [he]; exact List.getElem_mem hj), he, h1]
theorem NoteTo.name {l : List CL.At} {a : CL.At} {j : Nat} (h : NoteTo l a j) (hj : j < l.length) (he : ¬ a = l[j]) (hn : a.n = l[j].n) : CL.note l a = (13, l) := by
  have h1 := h.1
  rw [List.drop_eq_getElem_cons hj] at h1
  simp only [CL.noteF] at h1
  rw [if_neg he, if_pos hn] at h1
  unfold CL.note
  rw [h1]
  split
  · rfl
  · rw [if_pos (by decide)]
theorem NoteTo.step {l : List CL.At} {a : CL.At} {j : Nat} (h : NoteTo l a j) (hj : j < l.length) (he : ¬ a = l[j]) (hn : ¬ a.n = l[j].n) : NoteTo l a (j + 1) := by
  have h1 := h.1
  rw [List.drop_eq_getElem_cons hj] at h1
  simp only [CL.noteF] at h1
  rw [if_neg he, if_neg hn] at h1
  refine ⟨h1, ?_⟩
  rw [List.take_succ_eq_append_getElem hj]
  simp only [List.mem_append, List.mem_singleton, not_or]
  exact ⟨h.2, he⟩
theorem NoteTo.done {l : List CL.At} {a : CL.At} {j : Nat} (h : NoteTo l a j) (hj : l.length ≤ j) : CL.note l a = if l.length = 8 then (4, l) else (0, l ++ [a]) := by
  obtain ⟨h1, h2⟩ := h
  rw [List.drop_eq_nil_of_le hj] at h1
  rw [List.take_of_length_le hj] at h2
  unfold CL.note
  rw [if_neg h2, h1]
  simp [CL.noteF]
set_option maxRecDepth 100000 in
set_option maxHeartbeats 1600000 in
theorem request.note_c (a : CL.At) (l : List CL.At) (w : World) (G g base : Nat) (hG : G ≤ g) (hgb : G ≤ base) (hbs : base ≤ w.heap.size) (hl : l.length ≤ 8) (h : AtRow w g base l) :
    Calls Try.prog 83 #[.pointer (some ⟨g, 0, none⟩), .agg #[.string ⟨a.n.toArray⟩, .int .i64 a.a.m, .int .i64 a.a.u]] w fun r w' => r = .returned (.int .i64 (CL.note l a).1) ∧ AtRow w' g base (CL.note l a).2 ∧ Below G w w' := by
  have HR := Lib.hid h
  obtain ⟨v, hb, hown⟩ := h
  obtain ⟨A, c, rfl, hc1, hc2⟩ := own_form hown
  obtain ⟨nm, m, u⟩ := a
  have hlt := hb.lt
  have h0 : w.cell? ⟨g, 0, none⟩ = some (.slice A l.length c) := hb.cell 0
  have hr := Sits.of_own hown
  have hq := at_eql
  have hg := at_guard
  have HN := Lib.hid (NoteTo.zero l ⟨nm, ⟨m, u⟩⟩)
  obtain ⟨bE, hx0⟩ := box1 w #[.string ⟨nm.toArray⟩, .int .i64 m, .int .i64 u] 25
  have hne : g ≠ w.heap.size := by omega
  go_enter Try.func83, Try.ntmps83
  go_wp2
  generalize (w.alloc (.cells #[.string ⟨nm.toArray⟩, .int .i64 m, .int .i64 u] 25)) = w1 at *
  go_loopw [11] (fun i wr => ∃ j : Nat, j ≤ l.length ∧ i = .int .i64 j ∧ Ext w1 wr ∧ Hid (NoteTo l ⟨nm, ⟨m, u⟩⟩ j)) (fun i _ => l.length - (intOf i).toNat)
  case atStart => exact ⟨0, by omega, rfl, Ext.rfl', HN⟩
  case round =>
    obtain ⟨j, hj, rfl, hx, HJ⟩ := hrel
    have hx2 := hx0.tr hx
    have bEr := bE.ext hx
    have e0 : wr.cell? ⟨w.heap.size, 0, none⟩ = some (.string ⟨nm.toArray⟩) := bEr.cell 0
    have e1 : wr.cell? ⟨w.heap.size, 1, none⟩ = some (.int .i64 m) := bEr.cell 1
    have e2 : wr.cell? ⟨w.heap.size, 2, none⟩ = some (.int .i64 u) := bEr.cell 2
    have hbs2 := bEr.lt
    by_cases hlt2 : j < l.length
    · obtain ⟨b, o, rfl, c0, c1, c2⟩ := (hr.ext hx2).atoms hlt2
      have H1 := Lib.hid (HJ.out.hit hlt2)
      have H2 := Lib.hid (HJ.out.name hlt2)
      have H3 := Lib.hid (HJ.out.step hlt2)
      generalize l[j] = x at *
      obtain ⟨xn, xm, xu⟩ := x
      simp only at c0 c1 c2
      have hbb : b ≠ wr.heap.size := by have := World.block_lt_of_cell? _ _ c0; simp at this; omega
      have hwn : w.heap.size ≠ wr.heap.size := by omega
      have hx3 := hx2.tr (Ext.new wr (.cells #[.string ⟨xn.toArray⟩, .int .i64 xm, .int .i64 xu] 25))
      by_cases heq : nm = xn ∧ m = xm ∧ u = xu
      · obtain ⟨rfl, rfl, rfl⟩ := heq
        go_wp2
        go_ret
        rw [H1.out (by simp)]
        exact ⟨rfl, HR.out.ext hx3, hx3.mono (by omega)⟩
      · have HQ := Lib.hid heq
        have hfe : decide ((⟨nm, ⟨m, u⟩⟩ : CL.At) = ⟨xn, ⟨xm, xu⟩⟩) = false := by simpa using heq
        have hq1 := fun W => (at_eql nm xn m u xm xu W).trans (by rw [hfe])
        clear heq hfe hq
        go_wp2
        · go_ret
          rw [H2.out (by have := HQ.out; grind) (by grind)]
          exact ⟨rfl, HR.out.ext hx3, hx3.mono (by omega)⟩
        · exact ⟨⟨j + 1, by omega, by go_num, hx.tr (Ext.new _ _), Lib.hid (H3.out (by have := HQ.out; grind) (by grind))⟩, by simp [intOf]; omega⟩
    · have HD := Lib.hid (HJ.out.done (by omega))
      have h1 : wr.cell? ⟨g, 0, none⟩ = some (.slice A l.length c) := hx2.cell h0
      by_cases h8 : l.length = 8
      · have h8' : ((l.length : Int) == 8) = true := by simp [h8]
        go_wp2
        go_ret
        rw [HD.out, if_pos h8]
        exact ⟨rfl, HR.out.ext hx2, hx2.mono (by omega)⟩
      · have h8' : ((l.length : Int) == 8) = false := beq_eq_false_iff_ne.2 (by omega)
        go_wp2
        have hbr := hb.ext hx2
        have hownr := own_ext hown hx2
        have f1 := hbr.frozen 0
        have n1 : some g ≠ (Value.slice A l.length c).ownBlock := Ne.symm (own_ne hownr hbr at_ne)
        have hne3 : g ≠ wr.heap.size := by have := hbr.lt; omega
        have hBr := hx2.size
        have x1 : (wr.alloc (.cells #[.string ⟨nm.toArray⟩, .int .i64 m, .int .i64 u] 25)).cell? ⟨g, 0, none⟩ = some (.slice A l.length c) := (hbr.alloc _).cell 0
        go_region_law
          ((refine step_append_sits _ (by rfl) _ _ _ (by rfl) base 25 3 32 _ Try.underlying44 at_info rfl (by omega) (.slice A l.length c) l.length (ats l) (by rfl) ((hownr.alloc _).drew) _ _ _ [.string ⟨nm.toArray⟩, .int .i64 m, .int .i64 u] (by rfl) (by rfl) (Sits.drew (Sits.new _ _ _)) (by simp [Value.oneCell']) (by simp only [maxLen]; omega) (by omega) (by simp; omega) ?_; intro v3 w3 hown3 hb3 hg3; obtain ⟨A3, c3, rfl, hc3, hc4⟩ := own_form hown3; have e3 : w3.cell? ⟨g, 0, none⟩ = some (.slice A l.length c) := hg3.cell ((hbr.alloc _).cell 0) n1; have f3 : w3.frozen? ⟨g, 0, none⟩ = false := hg3.frozenB ((hbr.alloc _)) n1 0))
        all_goals
          have hb4 := hg3.blk (hbr.alloc _) n1
          go_wp2
          go_ret
          rw [HD.out, if_neg h8]
          refine ⟨rfl, ⟨.slice A3 (l.length + 1) c3, ?_, ?_⟩, ?_⟩
          · have := hb4.set 0 (.slice A3 (l.length + 1) c3); simpa using this
          · rw [ats_snoc, List.length_append]
            exact own_only hown3 (Only.rf.set 0 _) (own_ne hown3 hb4 at_ne)
          · exact below_only ((((hx2.mono (by omega)).alloc (by omega) _).drew).trans (hb3.mono hgb)) (Only.rf.set 0 _) hG (by have := hb3.size; simp at this; omega)
/-- two resources that stand for the kinds of an atom -/
theorem request.validAtom_c (a : CL.At) (w : World) (hn : a.n.length ≤ maxLen) : Calls Try.prog 82 #[.agg #[.string ⟨a.n.toArray⟩, .int .i64 a.a.m, .int .i64 a.a.u]] w fun e w' => e = .returned (.bool (CL.vatom a)) ∧ Ext w w' := by
  obtain ⟨nm, m, u⟩ := a
  have hx := Ext.rfl' (a := w)
  have HU := Lib.hid (CL.usable_fits ⟨m, u⟩)
  go_enter Try.func82, Try.ntmps82
  go_wp2_with (first
    | (go_at_call 97; (with_reducible refine (catalog.ValidName_c _ _ hn).mono ?_); rintro e w' ⟨rfl, rfl⟩)
    | (go_at_call 98; refine (amount.Fits_c _ _ _ _ _ _ _).mono ?_; rintro e w' ⟨rfl, hx1⟩; have hx := Ext.tr (a := w) (by go_grown) hx1; have hz := hx.size; obtain ⟨hc1, hf1⟩ := bcell hx1; have hz1 := hx1.size; (try simp only [World.size_alloc] at hz1); (try have hl0 : w.heap.size < w'.heap.size := by omega); (try have hl1 : w.heap.size + 1 < w'.heap.size := by omega); (try have hl2 : w.heap.size + 1 + 1 < w'.heap.size := by omega); (try have hl3 : w.heap.size + 1 + 1 + 1 < w'.heap.size := by omega); clear hx1))
  all_goals (go_ret; refine ⟨ret_bool ?_, ?_⟩; · go_tidy; have HU := HU.out; unfold CL.vatom; rw [HU]; grind
             · go_grown)
end Go.Proofs.Ytmolffigeobnnaa
/- The walks that tell whether an expression is valid: request.proper, request.ValidExpr. -/
namespace Go.Proofs.Ytmolffigeobnnaa
open Go.RowKit
set_option maxRecDepth 100000
set_option linter.unusedVariables false
theorem note_len {l : List CL.At} {a : CL.At} (h : l.length ≤ 8) : (CL.note l a).2.length ≤ 8 := by
  unfold CL.note
  split
  · exact h
  · split
    · exact h
    · split
      · exact h
      · simp; omega
theorem prop_len (e : CL.Ex) : ∀ l : List CL.At, l.length ≤ 8 → (CL.prop e l).2.length ≤ 8 := by
  induction e using CL.Ex.ind with
  | h k a kids ih =>
    have hL : ∀ (ks : List CL.Ex), (∀ e ∈ ks, ∀ l : List CL.At, l.length ≤ 8 → (CL.prop e l).2.length ≤ 8) → ∀ l : List CL.At, l.length ≤ 8 → (CL.propL ks l).2.length ≤ 8 := by
      intro ks
      induction ks with
      | nil => intro _ l h; simpa [CL.propL] using h
      | cons e ks ihk =>
        intro hk l h
        simp only [CL.propL]
        split
        · exact ihk (fun x hx => hk x (by simp [hx])) _ (hk e (by simp) l h)
        · exact hk e (by simp) l h
    intro l h
    simp only [CL.prop]
    split
    · split
      · exact note_len h
      · exact h
    · split
      · exact h
      · exact hL kids ih l h
theorem propL_step {kids : List CL.Ex} {j : Nat} {l : List CL.At} (hj : j < kids.length) : CL.propL (kids.drop j) l = if (CL.prop kids[j] l).1 = true then CL.propL (kids.drop (j + 1)) (CL.prop kids[j] l).2 else (false, (CL.prop kids[j] l).2) := by
  rw [List.drop_eq_getElem_cons hj]; simp only [CL.propL]
theorem propL_end {kids : List CL.Ex} {j : Nat} {l : List CL.At} (hj : kids.length ≤ j) : CL.propL (kids.drop j) l = (true, l) := by
  rw [List.drop_eq_nil_of_le hj]; simp only [CL.propL]
theorem at_neq0 (s : List UInt8) (a b : Int) (W : World) : (binOp .neq 25 (.agg #[.string ⟨s.toArray⟩, .int .i64 a, .int .i64 b]) (.agg #[.string ⟨#[]⟩, .int .i64 0, .int .i64 0])).run Try.prog W = .ok (.bool (!decide ((⟨s, ⟨a, b⟩⟩ : CL.At) = CL.noAt))) W := at_neq s [] a b 0 0 W
theorem Blk.c5 {w : World} {g : Nat} {t : TypeId} {x y z v u : Value} (h : Blk w g t #[x, y, z, v, u]) : w.cell? ⟨g, 0, none⟩ = some x ∧ w.cell? ⟨g, 1, none⟩ = some y ∧ w.cell? ⟨g, 2, none⟩ = some z ∧ w.cell? ⟨g, 3, none⟩ = some v ∧ w.cell? ⟨g, 4, none⟩ = some u := ⟨h.cell 0, h.cell 1, h.cell 2, h.cell 3, h.cell 4⟩
set_option maxHeartbeats 1600000 in
theorem request.proper_c (e : CL.Ex) : ∀ (w : World) (B : Nat) (cs : List Value) (l : List CL.At) (G g base : Nat), Rd w B e cs → B ≤ G → G ≤ g → G ≤ base → base ≤ w.heap.size → AtRow w g base l → l.length ≤ 8 →
    Calls Try.prog 65 #[.agg cs.toArray, .pointer (some ⟨g, 0, none⟩)] w fun r w' => r = .returned (.bool (CL.prop e l).1) ∧ AtRow w' g base (CL.prop e l).2 ∧ Below G w w' := by
  induction e using CL.Ex.ind with
  | h k a kids ih =>
    intro w B cs l G g base hR hBG hGg hGb hbs hrow hl8
    obtain ⟨A, c, rfl, hnm, hkl, hkc, hK⟩ := hR.inv
    obtain ⟨nm, m, u⟩ := a
    have IH := Lib.hid ih
    clear ih hR
    unfold maxLen at hkl
    obtain ⟨bE, hx0⟩ := box1 w #[.int .i64 k, .string ⟨nm.toArray⟩, .int .i64 m, .int .i64 u, .slice A kids.length c] 28
    have HROW := Lib.hid (hrow.ext hx0)
    have hz0 := hx0.size
    by_cases hkids : kids = []
    · subst hkids
      simp only [List.length_nil] at bE hx0 HROW hz0
      by_cases hk0 : k = 0
      · subst hk0
        cases hva : CL.vatom ⟨nm, ⟨m, u⟩⟩
        · have HP := Lib.hid (show CL.prop (.mk 0 ⟨nm, ⟨m, u⟩⟩ []) l = (false, l) by simp [CL.prop, hva])
          go_enter Try.func65, Try.ntmps65
          go_wp2_with (go_at_call 82; (with_reducible refine (request.validAtom_c ⟨nm, ⟨m, u⟩⟩ _ hnm).mono ?_); rintro e w' ⟨rfl, hx⟩)
          go_ret
          rw [HP.out]
          exact ⟨rfl, HROW.out.ext hx, (hx0.tr hx).mono (by omega)⟩
        · have HP := Lib.hid (show CL.prop (.mk 0 ⟨nm, ⟨m, u⟩⟩ []) l = (decide ((CL.note l ⟨nm, ⟨m, u⟩⟩).1 = 0), (CL.note l ⟨nm, ⟨m, u⟩⟩).2) by simp [CL.prop, hva])
          go_enter Try.func65, Try.ntmps65
          go_wp2_with (first
            | (go_at_call 82; (with_reducible refine (request.validAtom_c ⟨nm, ⟨m, u⟩⟩ _ hnm).mono ?_); rintro e w' ⟨rfl, hx⟩; obtain ⟨e0, e1, e2, e3, e4⟩ := (bE.ext hx).c5; have hz1 := hx.size)
            | (go_at_call 83; (with_reducible refine (request.note_c ⟨nm, ⟨m, u⟩⟩ l _ G g base hGg hGb (by omega) hl8 (HROW.out.ext hx)).mono ?_); rintro e w'' ⟨rfl, hrow', hb'⟩))
          go_ret
          rw [HP.out]
          exact ⟨rfl, hrow', ((hx0.tr hx).mono (by omega)).trans hb'⟩
      · have hk0' : (k == 0) = false := by simpa using hk0
        have HP := Lib.hid (show CL.prop (.mk k ⟨nm, ⟨m, u⟩⟩ []) l = (false, l) by simp [CL.prop, hk0])
        go_enter Try.func65, Try.ntmps65
        go_wp2
        go_ret
        rw [HP.out]
        exact ⟨rfl, HROW.out, hx0.mono (by omega)⟩
    · have hkl0 : ((kids.length : Int) == 0) = false := beq_eq_false_iff_ne.2 (fun h => hkids (List.eq_nil_of_length_eq_zero (by omega)))
      by_cases hbad : k < 1 ∨ (kids.length : Int) < k ∨ (⟨nm, ⟨m, u⟩⟩ : CL.At) ≠ CL.noAt
      · have HP := Lib.hid (show CL.prop (.mk k ⟨nm, ⟨m, u⟩⟩ kids) l = (false, l) by simp only [CL.prop]; rw [if_neg hkids, if_pos hbad])
        have hb2 : k < 1 ∨ (1 ≤ k ∧ (kids.length : Int) < k) ∨ (1 ≤ k ∧ k ≤ (kids.length : Int) ∧ decide ((⟨nm, ⟨m, u⟩⟩ : CL.At) = CL.noAt) = false) := by
          by_cases h1 : k < 1
          · exact .inl h1
          · by_cases h2 : (kids.length : Int) < k
            · exact .inr (.inl ⟨by omega, h2⟩)
            · exact .inr (.inr ⟨by omega, by omega, by simpa [h1, h2] using hbad⟩)
        clear hbad
        have hq := at_neq0 nm m u
        have hg := at_guard
        rcases hb2 with h1 | ⟨h1, h2⟩ | ⟨h1, h2, h3⟩
        all_goals
          try simp only [h3] at hq
          go_enter Try.func65, Try.ntmps65
          go_wp2
          go_ret
          rw [HP.out]
          exact ⟨rfl, HROW.out, hx0.mono (by omega)⟩
      · have HP := Lib.hid (show CL.prop (.mk k ⟨nm, ⟨m, u⟩⟩ kids) l = CL.propL kids l by simp only [CL.prop]; rw [if_neg hkids, if_neg hbad])
        have h1 : 1 ≤ k := by omega
        have h2 : k ≤ (kids.length : Int) := by omega
        have h3 : decide ((⟨nm, ⟨m, u⟩⟩ : CL.At) = CL.noAt) = true := by
          simp only [not_or, ne_eq, Classical.not_not] at hbad
          simpa using hbad.2.2
        clear hbad
        have hq := at_neq0 nm m u
        simp only [h3] at hq
        have hg := at_guard
        clear h3
        go_enter Try.func65, Try.ntmps65
        go_wp2
        generalize (w.alloc (.cells #[.int .i64 k, .string ⟨nm.toArray⟩, .int .i64 m, .int .i64 u, .slice A kids.length c] 28)) = w1 at *
        go_loopw [46] (fun i wr => ∃ (j : Nat) (l' : List CL.At), j ≤ kids.length ∧ i = .int .i64 j ∧ AtRow wr g base l' ∧ l'.length ≤ 8 ∧ Below G w wr ∧ Hid (CL.propL kids l = CL.propL (kids.drop j) l')) (fun i _ => kids.length - (intOf i).toNat)
        case atStart => exact ⟨0, l, by omega, rfl, HROW.out, hl8, hx0.mono (by omega), Lib.hid (by simp)⟩
        case round =>
          obtain ⟨j, l', hj, rfl, hrow', hl', hbl, HL⟩ := hrel
          have hsz := hbl.size
          by_cases hlt : j < kids.length
          · have hKr := hK.below (hbl.mono hBG)
            obtain ⟨b, o, k1, s1, m1, u1, A1, l1, x1, rfl, hbB, hR, c0, c1, c2, c3, c4⟩ := hKr.get hlt
            have HS := Lib.hid (propL_step (l := l') hlt)
            have HN := Lib.hid (prop_len kids[j] l' hl')
            have hm := List.getElem_mem hlt
            generalize kids[j] = e at *
            have hbx : b ≠ wr.heap.size := by omega
            have hBw : B ≤ wr.heap.size := by omega
            cases hpe : (CL.prop e l').1
            · go_wp2_with (go_at_call 65; (with_reducible refine (IH.out e hm _ B _ l' G g base (hR.kept ((Below.refl _ _).alloc hBw _)) hBG hGg hGb (by simp; omega) (hrow'.ext (Ext.new _ _)) hl').mono ?_); rintro r w' ⟨rfl, hrow2, hb2⟩)
              go_ret
              rw [HP.out, HL.out, HS.out, hpe, if_neg (by simp)]
              exact ⟨rfl, hrow2, (hbl.alloc (by omega) _).trans hb2⟩
            · go_wp2_with (go_at_call 65; (with_reducible refine (IH.out e hm _ B _ l' G g base (hR.kept ((Below.refl _ _).alloc hBw _)) hBG hGg hGb (by simp; omega) (hrow'.ext (Ext.new _ _)) hl').mono ?_); rintro r w' ⟨rfl, hrow2, hb2⟩)
              exact ⟨⟨j + 1, _, by omega, by go_num, hrow2, HN.out, (hbl.alloc (by omega) _).trans hb2, Lib.hid (by rw [HL.out, HS.out, if_pos hpe])⟩, by simp [intOf]; omega⟩
          · go_wp2
            go_ret
            rw [HP.out, HL.out, propL_end (by omega)]
            exact ⟨rfl, hrow', hbl⟩
theorem request.ValidExpr_c (e : CL.Ex) (w : World) (B : Nat) (cs : List Value) (hR : Rd w B e cs) (hB : B ≤ w.heap.size) : Calls Try.prog 44 #[.agg cs.toArray] w fun r w' => r = .returned (.bool (CL.valid e)) ∧ Ext w w' := by
  have HV := Lib.hid (CL.valid_prop e)
  obtain ⟨k, s, m, u, A, l, c, rfl⟩ := hR.shape
  obtain ⟨bE, hx0⟩ := box1 w #[.int .i64 k, .string s, .int .i64 m, .int .i64 u, .slice A l c] 28
  have hx1 : Ext w ((w.alloc (.cells #[.int .i64 k, .string s, .int .i64 m, .int .i64 u, .slice A l c] 28)).alloc (.cells #[.slice none 0 0] 44)) := by go_grown
  have bE1 := bE.alloc (.cells #[.slice none 0 0] 44)
  have hrow : AtRow ((w.alloc (.cells #[.int .i64 k, .string s, .int .i64 m, .int .i64 u, .slice A l c] 28)).alloc (.cells #[.slice none 0 0] 44)) (w.heap.size + 1) (w.heap.size + 1) [] := by
    refine ⟨.slice none 0 0, ?_, rfl, .inl ⟨rfl, rfl⟩⟩
    have h := Blk.new (w.alloc (.cells #[.int .i64 k, .string s, .int .i64 m, .int .i64 u, .slice A l c] 28)) 44 #[.slice none 0 0]
    rw [World.size_alloc] at h; exact h
  have hz : w.heap.size + 1 + 1 ≤ ((w.alloc (.cells #[.int .i64 k, .string s, .int .i64 m, .int .i64 u, .slice A l c] 28)).alloc (.cells #[.slice none 0 0] 44)).heap.size := by simp
  cases hs : CL.small e
  · have hd : CL.dep e = 0 := by simp [CL.dep, hs]
    have HE := Lib.hid (show CL.valid e = false by rw [HV.out, hs]; rfl)
    go_enter Try.func44, Try.ntmps44
    go_wp2_with (go_at_call 64; (with_reducible refine (request.Depth_c e _ B _ (hR.ext hx1 hB) (by omega)).mono ?_); rintro r w' ⟨rfl, hx⟩)
    go_ret
    exact ⟨ret_bool HE.out.symm, hx1.tr hx⟩
  · have hd : ((CL.dep e : Int) == 0) = false := by
      have h1 := CL.depth_pos e
      have h2 : CL.dep e = CL.depth e := by simp [CL.dep, hs]
      exact beq_eq_false_iff_ne.2 (by omega)
    have hd2 : ((CL.dep e : Int) != 0) = true := by simp at hd; simp [hd]
    have HE := Lib.hid (show CL.valid e = (CL.prop e []).1 by rw [HV.out, hs]; rfl)
    go_enter Try.func44, Try.ntmps44
    go_wp2_with (first
      | (go_at_call 64; (with_reducible refine (request.Depth_c e _ B _ (hR.ext hx1 hB) (by omega)).mono ?_); rintro r w' ⟨rfl, hx⟩; obtain ⟨e0, e1, e2, e3, e4⟩ := (bE1.ext hx).c5; have hz2 := hx.size)
      | (go_at_call 65; (with_reducible refine (request.proper_c e _ B _ [] w.heap.size (w.heap.size + 1) (w.heap.size + 1) ((hR.ext hx1 hB).ext hx (by omega)) hB (by omega) (by omega) (by omega) (hrow.ext hx) (by decide)).mono ?_); rintro r w' ⟨rfl, hrow2, hb2⟩))
    go_ret
    exact ⟨ret_bool HE.out.symm, (hx1.tr hx).trans hb2⟩
end Go.Proofs.Ytmolffigeobnnaa
