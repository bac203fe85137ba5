/-  -/
import Derived.Test.YtlfnpkjfnafeaaaDoorZ1
import Derived.Deep.RegionHeld3
import Derived.Deep.RegionLaw
import Derived.Deep.DeepCutAuto
import Derived.Deep.LoopGhost
import Derived.WalkMore
/- The walks of package amount and of its reference: each function once, with what it returns. -/
namespace Go.Proofs.YtlfnpkjfnafeaaaDoor
open Go.RowKit
theorem am_eqIn (a b c d : Int) (W : World) : (Op.equalIn 10000 23 (.agg #[.int .i64 a, .int .i64 b]) (.agg #[.int .i64 c, .int .i64 d])).run Tryd.prog W = .ok (decide (a = c ∧ b = d)) W := by
  have h1 : Tryd.prog.stoodInHeld 23 = false := by kernel_rfl
  rw [run_equalIn_struct (d := 9999) _ _ _ _ (by simp [Program.fieldsOf, Tryd.underlying23]) h1]
  simp [Program.fieldsOf, Tryd.underlying23, Op.eqFields, go_sem, Tryd.underlying3]
  by_cases e1 : a = c <;> by_cases e2 : b = d <;> simp [e1, e2]
theorem am_eql (a b c d : Int) (W : World) : (binOp .eql 23 (.agg #[.int .i64 a, .int .i64 b]) (.agg #[.int .i64 c, .int .i64 d])).run Tryd.prog W = .ok (.bool (decide (a = c ∧ b = d))) W := by
  rw [run_eql_struct, am_eqIn]; rfl
theorem am_neq (a b c d : Int) (W : World) : (binOp .neq 23 (.agg #[.int .i64 a, .int .i64 b]) (.agg #[.int .i64 c, .int .i64 d])).run Tryd.prog W = .ok (.bool (!decide (a = c ∧ b = d))) W := by
  rw [run_neq_struct, am_eqIn]; rfl
theorem am_guard : Tryd.prog.eqGuardType Tryd.prog.depth 23 = false := by kernel_rfl
theorem am_zero (a b : Int) (W : World) : (binOp .eql 23 (.agg #[.int .i64 a, .int .i64 b]) (.agg #[.int .i64 0, .int .i64 0])).run Tryd.prog W = .ok (.bool (CL.zer ⟨a, b⟩)) W := am_eql a b 0 0 W
theorem amount.Shaped_c (n : ByteArray) (k u h : Int) (w : World) : Calls Tryd.prog 98 #[.agg #[.string n, .int .i64 k, .int .i64 u, .int .i64 h]] w fun e w' => e = .returned (.bool (CL.shaped k u)) ∧ Ext w w' := by
  go_enter Tryd.func98, Tryd.ntmps98
  go_wp2
  all_goals (go_ret; refine ⟨ret_bool ?_, ?_⟩; · go_tidy; grind [CL.shaped]
             · go_grown)
theorem amount.Zero_c (a b : Int) (w : World) : Calls Tryd.prog 92 #[.agg #[.int .i64 a, .int .i64 b]] w fun e w' => e = .returned (.bool (CL.zer ⟨a, b⟩)) ∧ Ext w w' := by
  have hq := am_zero a b
  have hg := am_guard
  go_enter Tryd.func92, Tryd.ntmps92
  go_wp2
  go_ret
  exact ⟨rfl, Ext.new _ _⟩
theorem clusterlocksref04.Zero_c (a b : Int) (w : World) : Calls Tryd.prog 97 #[.agg #[.int .i64 a, .int .i64 b]] w fun e w' => e = .returned (.bool (CL.zer ⟨a, b⟩)) ∧ Ext w w' := by
  have hq := am_zero a b
  have hg := am_guard
  go_enter Tryd.func97, Tryd.ntmps97
  go_wp2
  go_ret
  exact ⟨rfl, Ext.new _ _⟩
theorem amount.Fits_c (n : ByteArray) (k u h a b : Int) (w : World) : Calls Tryd.prog 82 #[.agg #[.string n, .int .i64 k, .int .i64 u, .int .i64 h], .agg #[.int .i64 a, .int .i64 b]] w fun e w' => e = .returned (.bool (CL.fits k u ⟨a, b⟩)) ∧ Ext w w' := by
  go_enter Tryd.func82, Tryd.ntmps82
  go_wp2_with (first
        | (go_at_call 98; refine (amount.Shaped_c _ _ _ _ _).mono ?_; rintro e w' ⟨rfl, hx1⟩; have hx := Ext.tr (a := w) (by go_grown) hx1; have hz := hx.size; obtain ⟨hc1, hf1⟩ := bcell hx1; have hz1 := hx1.size; (try simp only [World.size_alloc] at hz1); (try have hl0 : w.heap.size < w'.heap.size := by omega); (try have hl1 : w.heap.size + 1 < w'.heap.size := by omega); (try have hl2 : w.heap.size + 1 + 1 < w'.heap.size := by omega); (try have hl3 : w.heap.size + 1 + 1 + 1 < w'.heap.size := by omega); clear hx1)
        | (go_at_call 99; refine (Valid_c _ _).mono ?_; rintro e w' ⟨rfl, rfl⟩))
  all_goals (go_ret; refine ⟨ret_bool ?_, ?_⟩; · go_tidy; grind [CL.fits]
             · go_grown)
/-- an amount as a value -/
theorem ret_am {J : CL.Am} {a b : Int} (h : J = ⟨a, b⟩) : Ending.returned (.agg #[.int .i64 a, .int .i64 b]) = .returned (.agg #[.int .i64 J.m, .int .i64 J.u]) := by rw [h]
end Go.Proofs.YtlfnpkjfnafeaaaDoor
/- The walks of packages catalog and its reference that expressions reach: names. -/
namespace Go.Proofs.YtlfnpkjfnafeaaaDoor
open Go.RowKit
set_option linter.unusedVariables false
theorem catalog.Reserved_c (s : List UInt8) (w : World) : Calls Tryd.prog 91 #[.string ⟨s.toArray⟩] w fun e w' => e = .returned (.bool (CL.rsv s)) ∧ w = w' := by
  go_enter Tryd.func91, Tryd.ntmps91
  go_wp2
  all_goals (go_ret; refine ⟨ret_bool ?_, rfl⟩; go_tidy; rw [Bool.eq_iff_iff]; simp_all [CL.rsv])
theorem clusterlocksref05.Reserved_c (s : List UInt8) (w : World) : Calls Tryd.prog 70 #[.string ⟨s.toArray⟩] w fun e w' => e = .returned (.bool (CL.rsv s)) ∧ w = w' := by
  go_enter Tryd.func70, Tryd.ntmps70
  go_wp2
  all_goals (go_ret; refine ⟨ret_bool ?_, rfl⟩; go_tidy; rw [Bool.eq_iff_iff]; simp_all [CL.rsv])
theorem clusterlocksref05.Letter_c (n : Int) (w : World) : Calls Tryd.prog 51 #[.int .u8 n] w fun e w' => e = .returned (.bool (CL.ltr n)) ∧ w = w' := by
  go_enter Tryd.func51, Tryd.ntmps51
  go_wp2
  all_goals (go_ret; refine ⟨ret_bool ?_, rfl⟩; simp [CL.ltr]; try omega)
theorem clusterlocksref05.Part_c (n : Int) (w : World) : Calls Tryd.prog 52 #[.int .u8 n] w fun e w' => e = .returned (.bool (CL.prt n)) ∧ w = w' := by
  go_enter Tryd.func52, Tryd.ntmps52
  go_wp2_with (go_at_call 51; refine (clusterlocksref05.Letter_c _ _).mono ?_; rintro e w' ⟨rfl, rfl⟩)
  all_goals (go_ret; refine ⟨ret_bool ?_, rfl⟩; go_tidy; first | (simp_all [CL.prt, CL.dig]; done) | (simp_all [CL.prt, CL.dig]; grind))
theorem clusterlocksref05.ValidName_c (s : List UInt8) (w : World) (hs : s.length ≤ maxLen) : Calls Tryd.prog 84 #[.string ⟨s.toArray⟩] w fun e w' => e = .returned (.bool (CL.vname s)) ∧ w = w' := by
  unfold maxLen at hs
  by_cases hl : 1 ≤ s.length ∧ s.length ≤ 12
  · obtain ⟨h1, h2⟩ := hl
    by_cases hc : CL.at8 CL.ltr (s[0]'(by omega)) = true
    · have c0 : CL.ltr (((⟨s.toArray⟩ : ByteArray)[0]'(by simp [ByteArray.size]; omega)).toNat : Int) = true := hc
      by_cases hr : CL.rsv s = true
      · have HV := Lib.hid (CL.vname_rsv hr)
        go_enter Tryd.func84, Tryd.ntmps84
        go_wp2_with (first
        | (go_at_call 51; refine (clusterlocksref05.Letter_c _ _).mono ?_; rintro e w' ⟨rfl, rfl⟩)
        | (go_at_call 70; refine (clusterlocksref05.Reserved_c _ _).mono ?_; rintro e w' ⟨rfl, rfl⟩))
        go_ret
        exact ⟨ret_bool HV.out.symm, rfl⟩
      · simp only [Bool.not_eq_true] at hr
        have HR := Lib.hid hr
        have HO : Hid (CL.OkTo s 0) := CL.OkTo.zero
        go_enter Tryd.func84, Tryd.ntmps84
        go_wp2_with (first
        | (go_at_call 51; refine (clusterlocksref05.Letter_c _ _).mono ?_; rintro e w' ⟨rfl, rfl⟩)
        | (go_at_call 70; refine (clusterlocksref05.Reserved_c _ _).mono ?_; rintro e w' ⟨rfl, rfl⟩))
        go_loop [3] (fun i => ∃ k : Nat, k ≤ s.length ∧ i = .int .i64 k ∧ Hid (CL.OkTo s k)) (fun i => s.length - (intOf i).toNat)
        case atStart => exact ⟨0, by omega, rfl, HO⟩
        case round =>
          obtain ⟨k, hk, rfl, HK⟩ := hrel
          by_cases hlt : k < s.length
          · by_cases hp : CL.at8 CL.prt s[k] = true
            · have c1 : CL.prt (((⟨s.toArray⟩ : ByteArray)[k]'hlt).toNat : Int) = true := hp
              have HS := Lib.hid (HK.out.step hlt (by unfold CL.okAt; split; · subst_vars; exact hc
                                                      · exact hp))
              clear hp
              go_wp2_with (first
        | (go_at_call 52; refine (clusterlocksref05.Part_c _ _).mono ?_; rintro e w' ⟨rfl, rfl⟩))
              go_round
              case rel => exact ⟨k + 1, by omega, by go_num, HS⟩
              case measure => simp [intOf]; omega
            · simp only [Bool.not_eq_true] at hp
              have c1 : CL.prt (((⟨s.toArray⟩ : ByteArray)[k]'hlt).toNat : Int) = false := hp
              have HV := Lib.hid (CL.vname_bad hlt (by unfold CL.okAt; split; · subst_vars; rw [CL.prt_ltr hc] at hp; cases hp
                                                       · exact hp))
              clear hp
              go_wp2_with (first
        | (go_at_call 52; refine (clusterlocksref05.Part_c _ _).mono ?_; rintro e w' ⟨rfl, rfl⟩))
              go_ret
              exact ⟨ret_bool HV.out.symm, rfl⟩
          · have HV := Lib.hid (CL.vname_all (by omega) h2 HR.out (fun i hi => HK.out i hi (by omega)))
            go_wp2
            go_ret
            exact ⟨ret_bool HV.out.symm, rfl⟩
    · simp only [Bool.not_eq_true] at hc
      have c0 : CL.ltr (((⟨s.toArray⟩ : ByteArray)[0]'(by simp [ByteArray.size]; omega)).toNat : Int) = false := hc
      have HV := Lib.hid (CL.vname_bad (s := s) (i := 0) (by omega) (by unfold CL.okAt; rw [if_pos rfl]; exact hc))
      go_enter Tryd.func84, Tryd.ntmps84
      go_wp2_with (first
        | (go_at_call 51; refine (clusterlocksref05.Letter_c _ _).mono ?_; rintro e w' ⟨rfl, rfl⟩)
        | (go_at_call 70; refine (clusterlocksref05.Reserved_c _ _).mono ?_; rintro e w' ⟨rfl, rfl⟩))
      go_ret
      exact ⟨ret_bool HV.out.symm, rfl⟩
  · have HV := Lib.hid (CL.vname_len (s := s) (by omega))
    have hl2 : s.length < 1 ∨ (1 ≤ s.length ∧ 12 < s.length) := by omega
    clear hl
    rcases hl2 with h1 | ⟨h1, h2⟩
    all_goals
      go_enter Tryd.func84, Tryd.ntmps84
      go_wp2
      go_ret
      exact ⟨ret_bool HV.out.symm, rfl⟩
theorem ok0 (c : UInt8) : CL.okAt 0 c = decide (97 ≤ (c.toNat : Int) ∧ (c.toNat : Int) ≤ 122) := rfl
theorem ok1 (c : UInt8) {k : Nat} (h : 0 < k) : CL.okAt k c = (decide (97 ≤ (c.toNat : Int) ∧ (c.toNat : Int) ≤ 122) || decide (48 ≤ (c.toNat : Int) ∧ (c.toNat : Int) ≤ 57) || (c.toNat : Int) == 95 || (c.toNat : Int) == 45) := by
  unfold CL.okAt; rw [if_neg (by omega)]; rfl
set_option maxHeartbeats 800000 in
theorem catalog.ValidName_c (s : List UInt8) (w : World) (hs : s.length ≤ maxLen) : Calls Tryd.prog 81 #[.string ⟨s.toArray⟩] w fun e w' => e = .returned (.bool (CL.vname s)) ∧ w = w' := by
  unfold maxLen at hs
  by_cases hl : 1 ≤ s.length ∧ s.length ≤ 12
  · obtain ⟨h1, h2⟩ := hl
    by_cases hr : CL.rsv s = true
    · have HV := Lib.hid (CL.vname_rsv hr)
      go_enter Tryd.func81, Tryd.ntmps81
      go_wp2_with (first
        | (go_at_call 91; refine (catalog.Reserved_c _ _).mono ?_; rintro e w' ⟨rfl, rfl⟩))
      go_ret
      exact ⟨ret_bool HV.out.symm, rfl⟩
    · simp only [Bool.not_eq_true] at hr
      have HR := Lib.hid hr
      have HO : Hid (CL.OkTo s 0) := CL.OkTo.zero
      go_enter Tryd.func81, Tryd.ntmps81
      go_wp2_with (first
        | (go_at_call 91; refine (catalog.Reserved_c _ _).mono ?_; rintro e w' ⟨rfl, rfl⟩))
      go_loop [21] (fun i => ∃ k : Nat, k ≤ s.length ∧ i = .int .i64 k ∧ Hid (CL.OkTo s k)) (fun i => s.length - (intOf i).toNat)
      case atStart => exact ⟨0, by omega, rfl, HO⟩
      case round =>
        obtain ⟨k, hk, rfl, HK⟩ := hrel
        by_cases hlt : k < s.length
        · have HS := Lib.hid (fun h => HK.out.step hlt h)
          have HV := Lib.hid (fun h => CL.vname_bad (i := k) hlt h)
          rcases Nat.eq_zero_or_pos k with hk0 | hk0
          · subst hk0
            have H0 := Lib.hid (show CL.okAt 0 s[0] = decide (97 ≤ (((⟨s.toArray⟩ : ByteArray)[0]'hlt).toNat : Int) ∧ (((⟨s.toArray⟩ : ByteArray)[0]'hlt).toNat : Int) ≤ 122) from ok0 s[0])
            clear hk
            go_wp2
            all_goals first
              | (go_ret; exact ⟨ret_bool (HV.out (by rw [H0.out]; grind)).symm, rfl⟩)
              | (refine ⟨⟨1, by omega, rfl, Lib.hid (HS.out (by rw [H0.out]; grind))⟩, by simp [intOf]; omega⟩)
          · have hz : ((k : Int) == 0) = false := beq_eq_false_iff_ne.2 (by omega)
            have H0 := Lib.hid (show CL.okAt k s[k] = (decide (97 ≤ (((⟨s.toArray⟩ : ByteArray)[k]'hlt).toNat : Int) ∧ (((⟨s.toArray⟩ : ByteArray)[k]'hlt).toNat : Int) ≤ 122) || decide (48 ≤ (((⟨s.toArray⟩ : ByteArray)[k]'hlt).toNat : Int) ∧ (((⟨s.toArray⟩ : ByteArray)[k]'hlt).toNat : Int) ≤ 57) || (((⟨s.toArray⟩ : ByteArray)[k]'hlt).toNat : Int) == 95 || (((⟨s.toArray⟩ : ByteArray)[k]'hlt).toNat : Int) == 45) from ok1 s[k] hk0)
            go_wp2
            all_goals first
              | (go_ret; exact ⟨ret_bool (HV.out (by rw [H0.out]; grind)).symm, rfl⟩)
              | (refine ⟨⟨k + 1, by omega, by go_num, Lib.hid (HS.out (by rw [H0.out]; grind))⟩, by simp [intOf]; omega⟩)
        · have HV := Lib.hid (CL.vname_all (by omega) h2 HR.out (fun i hi => HK.out i hi (by omega)))
          go_wp2
          go_ret
          exact ⟨ret_bool HV.out.symm, rfl⟩
  · have HV := Lib.hid (CL.vname_len (s := s) (by omega))
    have hl2 : s.length < 1 ∨ (1 ≤ s.length ∧ 12 < s.length) := by omega
    clear hl
    rcases hl2 with h1 | ⟨h1, h2⟩
    all_goals
      go_enter Tryd.func81, Tryd.ntmps81
      go_wp2
      go_ret
      exact ⟨ret_bool HV.out.symm, rfl⟩
end Go.Proofs.YtlfnpkjfnafeaaaDoor
/- The walks that count nodes and levels of an expression, by the program and by the reference. -/
namespace Go.Proofs.YtlfnpkjfnafeaaaDoor
open Go.RowKit
set_option linter.unusedVariables false
theorem box1 (w : World) (c1 : Array Value) (t1 : TypeId) : Blk (w.alloc (.cells c1 t1)) w.heap.size t1 c1 ∧ Ext w (w.alloc (.cells c1 t1)) := ⟨Blk.new _ _ _, Ext.new _ _⟩
theorem meas_le {e : CL.Ex} {lv n : Nat} (h : (CL.meas e lv n).1 ≠ 0) : (CL.meas e lv n).2 ≤ 24 ∧ (CL.meas e lv n).1 ≤ 24 ∧ n ≤ (CL.meas e lv n).2 := by
  by_cases c : CL.depth e + lv ≤ 5 ∧ n + CL.size e ≤ 24
  · rw [(CL.meas_spec e lv n).1 c]; simp only; omega
  · exact absurd ((CL.meas_spec e lv n).2 c) h
theorem measL_step {kids : List CL.Ex} {j lv n d : Nat} (hj : j < kids.length) : CL.measL (kids.drop j) lv n d = if (CL.meas kids[j] lv n).1 = 0 then (0, (CL.meas kids[j] lv n).2) else CL.measL (kids.drop (j + 1)) lv (CL.meas kids[j] lv n).2 (max d (CL.meas kids[j] lv n).1) := by
  rw [List.drop_eq_getElem_cons hj]; simp only [CL.measL]
theorem measL_end {kids : List CL.Ex} {j lv n d : Nat} (hj : kids.length ≤ j) : CL.measL (kids.drop j) lv n d = (d + 1, n) := by
  rw [List.drop_eq_nil_of_le hj]; simp only [CL.measL]
set_option maxHeartbeats 1600000 in
theorem request.measure_c (e : CL.Ex) : ∀ (w : World) (B : Nat) (cs : List Value) (lv n g : Nat) (L : Int), L = (lv : Int) → Rd w B e cs → B ≤ g → Blk w g 3 #[.int .i64 n] → n ≤ 24 → lv ≤ 5 →
    Calls Tryd.prog 54 #[.agg cs.toArray, .int .i64 L, .pointer (some ⟨g, 0, none⟩)] w fun r w' =>
      r = .returned (.int .i64 ((CL.meas e lv n).1 : Nat)) ∧ Blk w' g 3 #[.int .i64 ((CL.meas e lv n).2 : Nat)] ∧ Only g w w' := by
  induction e using CL.Ex.ind with
  | h k a kids ih =>
    intro w B cs lv n g L hL hR hBg hb hn hlv
    subst hL
    obtain ⟨A, c, rfl, hnm, hkl, hkc, hK⟩ := hR.inv
    obtain ⟨nm, m, u⟩ := a
    have IH := Lib.hid ih
    clear ih hR
    have h0 : w.cell? ⟨g, 0, none⟩ = some (.int .i64 n) := hb.cell 0
    have f0 := hb.frozen 0
    have hgl := hb.lt
    have hne : g ≠ w.heap.size := by omega
    have hne' : w.heap.size ≠ g := by omega
    unfold maxLen at hkl
    have hb1 := ((hb.set 0 (.int .i64 (n + 1 : Nat))).alloc (.cells #[.int .i64 k, .string ⟨nm.toArray⟩, .int .i64 m, .int .i64 u, .slice A kids.length c] 28))
    have ho1 := (Only.set (Only.rf (g := g) (w := w)) 0 (.int .i64 (n + 1 : Nat))).tr (Only.of_ext (Ext.new _ (.cells #[.int .i64 k, .string ⟨nm.toArray⟩, .int .i64 m, .int .i64 u, .slice A kids.length c] 28)))
    by_cases hc : lv ≤ 4 ∧ n + 1 ≤ 24
    · obtain ⟨hc1, hc2⟩ := hc
      have HM := Lib.hid (show CL.meas (.mk k ⟨nm, ⟨m, u⟩⟩ kids) lv n = CL.measL kids (lv + 1) (n + 1) 0 by simp only [CL.meas]; rw [if_neg (by omega)])
      go_enter Tryd.func54, Tryd.ntmps54
      go_wp2
      push_cast at hb1 ho1
      generalize ((w.setCell ⟨g, 0, none⟩ (.int .i64 ((n : Int) + 1))).alloc (.cells #[.int .i64 k, .string ⟨nm.toArray⟩, .int .i64 m, .int .i64 u, .slice A kids.length c] 28)) = w1 at *
      go_loopw [7, 27] (fun d i wr => ∃ (j d' n' : Nat), j ≤ kids.length ∧ i = .int .i64 j ∧ d = .int .i64 d' ∧ Blk wr g 3 #[.int .i64 n'] ∧ Only g w wr ∧ n' ≤ 24 ∧ d' ≤ 24 ∧ Hid (CL.measL kids (lv + 1) (n + 1) 0 = CL.measL (kids.drop j) (lv + 1) n' d')) (fun _ i _ => kids.length - (intOf i).toNat)
      case atStart => exact ⟨0, 0, n + 1, by omega, rfl, rfl, by simpa using hb1, ho1, hc2, by omega, Lib.hid (by simp)⟩
      case round =>
        obtain ⟨j, d, n', hj, rfl, rfl, hbr, hor, hn', hd', HL⟩ := hrel
        have hgr := hbr.lt
        have hner : g ≠ wr.heap.size := by omega
        by_cases hlt : j < kids.length
        · have hKr := hK.below (below_only (Below.refl B w) hor hBg (by omega))
          obtain ⟨b, o, k1, s1, m1, u1, A1, l1, x1, rfl, hbB, hR, c0, c1, c2, c3, c4⟩ := hKr.get hlt
          have HS := Lib.hid (measL_step (lv := lv + 1) (n := n') (d := d) hlt)
          have HE := Lib.hid (meas_le (e := kids[j]) (lv := lv + 1) (n := n'))
          have hm := List.getElem_mem hlt
          generalize kids[j] = e at *
          have hbx : b ≠ wr.heap.size := by omega
          go_wp2_with (go_at_call 54; (with_reducible refine (IH.out e hm _ B _ (lv + 1) n' g _ (by omega) (hR.kept ((Below.refl _ _).alloc (by omega) _)) hBg (hbr.alloc _) hn' (by omega)).mono ?_); rintro r w' ⟨rfl, hb', ho'⟩)
          · rename_i hq
            have hz : (CL.meas e (lv + 1) n').1 = 0 := by simpa using hq
            go_ret
            rw [HM.out, HL.out, HS.out, if_pos hz]
            exact ⟨rfl, hb', (hor.tr (Only.of_ext (Ext.new _ _))).tr ho'⟩
          · rename_i hq
            have hz : (CL.meas e (lv + 1) n').1 ≠ 0 := by simpa using hq
            obtain ⟨q1, q2, q3⟩ := HE.out hz
            refine ⟨⟨j + 1, max d (CL.meas e (lv + 1) n').1, (CL.meas e (lv + 1) n').2, by omega, by go_num, ?_, hb', (hor.tr (Only.of_ext (Ext.new _ _))).tr ho', q1, by omega, Lib.hid (by rw [HL.out, HS.out, if_neg hz])⟩, by simp [intOf]; omega⟩
            split <;> (congr 1; omega)
        · go_wp2
          go_ret
          rw [HM.out, HL.out, measL_end (by omega)]
          exact ⟨rfl, hbr, hor⟩
    · have HM := Lib.hid (show CL.meas (.mk k ⟨nm, ⟨m, u⟩⟩ kids) lv n = (0, n + 1) by simp only [CL.meas]; rw [if_pos (by omega)])
      go_enter Tryd.func54, Tryd.ntmps54
      have hc2 : 4 < lv ∨ 24 < n + 1 := by omega
      rcases hc2 with hc2 | hc2
      all_goals
        go_wp2
        all_goals
          go_ret
          rw [HM.out]
          exact ⟨rfl, by simpa using hb1, by simpa using ho1⟩
theorem request.Depth_c (e : CL.Ex) (w : World) (B : Nat) (cs : List Value) (hR : Rd w B e cs) (hB : B ≤ w.heap.size) : Calls Tryd.prog 26 #[.agg cs.toArray] w fun r w' => r = .returned (.int .i64 (CL.dep e : Nat)) ∧ Ext w w' := by
  obtain ⟨k, s, m, u, A, l, c, rfl⟩ := hR.shape
  go_enter Tryd.func26, Tryd.ntmps26
  have hx0 : Ext w ((w.alloc (.cells #[.int .i64 k, .string s, .int .i64 m, .int .i64 u, .slice A l c] 28)).alloc (.cells #[.int .i64 0] 3)) := by go_grown
  have hb0 : Blk ((w.alloc (.cells #[.int .i64 k, .string s, .int .i64 m, .int .i64 u, .slice A l c] 28)).alloc (.cells #[.int .i64 0] 3)) (w.heap.size + 1) 3 #[.int .i64 (0 : Nat)] := by
    have h := Blk.new (w.alloc (.cells #[.int .i64 k, .string s, .int .i64 m, .int .i64 u, .slice A l c] 28)) 3 #[.int .i64 0]
    rw [World.size_alloc] at h; exact h
  go_wp2_with (go_at_call 54; (with_reducible refine (request.measure_c e _ B _ 1 0 (w.heap.size + 1) 1 rfl (hR.ext hx0 hB) (by omega) hb0 (by omega) (by omega)).mono ?_); rintro r w' ⟨rfl, hb', ho'⟩)
  go_ret
  refine ⟨ret_int ?_, hx0.only ho' (by omega)⟩
  unfold CL.dep
  by_cases h : CL.small e = true
  · rw [if_pos h, CL.meas_small h]
  · rw [if_neg h, CL.meas_great (by simpa using h)]
theorem rszL_step {kids : List CL.Ex} {j dp n d : Nat} (hj : j < kids.length) : CL.rszL (kids.drop j) dp n d = if 24 < n + (CL.rsz kids[j] dp).1 then (25, 0) else CL.rszL (kids.drop (j + 1)) dp (n + (CL.rsz kids[j] dp).1) (max d (CL.rsz kids[j] dp).2) := by
  rw [List.drop_eq_getElem_cons hj]; simp only [CL.rszL]
theorem rszL_end {kids : List CL.Ex} {j dp n d : Nat} (hj : kids.length ≤ j) : CL.rszL (kids.drop j) dp n d = (n, d + 1) := by
  rw [List.drop_eq_nil_of_le hj]; simp only [CL.rszL]
theorem rsz_le (e : CL.Ex) (dp : Nat) : (CL.rsz e dp).1 ≤ 25 ∧ ((CL.rsz e dp).1 ≤ 24 → (CL.rsz e dp).2 ≤ 24) := by
  by_cases c : CL.depth e + dp ≤ 5 ∧ CL.size e ≤ 24
  · rw [(CL.rsz_spec e dp).1 c]; simp only; omega
  · have := (CL.rsz_spec e dp).2 c; omega
set_option maxHeartbeats 1600000 in
theorem clusterlocksref07.Size_c (e : CL.Ex) : ∀ (w : World) (B : Nat) (cs : List Value) (dp : Nat) (L : Int), L = (dp : Int) → Rd w B e cs → B ≤ w.heap.size → dp ≤ 5 →
    Calls Tryd.prog 83 #[.agg cs.toArray, .int .i64 L] w fun r w' =>
      r = .returned (.tuple #[.int .i64 ((CL.rsz e dp).1 : Nat), .int .i64 ((CL.rsz e dp).2 : Nat)]) ∧ Ext w w' := by
  induction e using CL.Ex.ind with
  | h k a kids ih =>
    intro w B cs lv L hL hR hB hlv
    subst hL
    obtain ⟨A, c, rfl, hnm, hkl, hkc, hK⟩ := hR.inv
    obtain ⟨nm, m, u⟩ := a
    have IH := Lib.hid ih
    clear ih hR
    unfold maxLen at hkl
    by_cases hc : lv ≤ 4 ∧ kids.length ≤ 24
    · obtain ⟨hc1, hc2⟩ := hc
      have HM := Lib.hid (show CL.rsz (.mk k ⟨nm, ⟨m, u⟩⟩ kids) lv = CL.rszL kids (lv + 1) 1 0 by simp only [CL.rsz]; rw [if_neg (by omega)])
      obtain ⟨bE, hx0⟩ := box1 w #[.int .i64 k, .string ⟨nm.toArray⟩, .int .i64 m, .int .i64 u, .slice A kids.length c] 28
      go_enter Tryd.func83, Tryd.ntmps83
      go_wp2
      generalize (w.alloc (.cells #[.int .i64 k, .string ⟨nm.toArray⟩, .int .i64 m, .int .i64 u, .slice A kids.length c] 28)) = w1 at *
      go_loopw [6, 7, 8] (fun n d i wr => ∃ (j d' n' : Nat), j ≤ kids.length ∧ i = .int .i64 j ∧ d = .int .i64 d' ∧ n = .int .i64 n' ∧ Ext w1 wr ∧ n' ≤ 24 ∧ d' ≤ 24 ∧ Hid (CL.rszL kids (lv + 1) 1 0 = CL.rszL (kids.drop j) (lv + 1) n' d')) (fun _ _ i _ => kids.length - (intOf i).toNat)
      case atStart => exact ⟨0, 0, 1, by omega, rfl, rfl, rfl, Ext.rfl', by omega, by omega, Lib.hid (by simp)⟩
      case round =>
        obtain ⟨j, d, n', hj, rfl, rfl, rfl, hx, hn', hd', HL⟩ := hrel
        have e4 : wr.cell? ⟨w.heap.size, 4, none⟩ = some (.slice A kids.length c) := (bE.ext hx).cell 4
        have hw1 := hx0.size
        have hwr := hx.size
        have hbs := (bE.ext hx).lt
        by_cases hlt : j < kids.length
        · have hKr := hK.below ((hx0.tr hx).mono hB)
          obtain ⟨b, o, k1, s1, m1, u1, A1, l1, x1, rfl, hbB, hR, c0, c1, c2, c3, c4⟩ := hKr.get hlt
          have HS := Lib.hid (rszL_step (dp := lv + 1) (n := n') (d := d) hlt)
          obtain ⟨q1, q2⟩ := rsz_le kids[j] (lv + 1)
          have HE := Lib.hid q2
          clear q2
          have hm := List.getElem_mem hlt
          generalize kids[j] = e at *
          have hbx : b ≠ wr.heap.size := by omega
          by_cases h24 : 24 < n' + (CL.rsz e (lv + 1)).1
          · go_wp2_with (go_at_call 83; (with_reducible refine (IH.out e hm _ B _ (lv + 1) _ (by omega) hR (by omega) (by omega)).mono ?_); rintro r w' ⟨rfl, hx'⟩)
            all_goals
              go_ret2
              rw [HM.out, HL.out, HS.out, if_pos h24]
              exact ⟨rfl, hx0.tr (hx.tr hx')⟩
          · go_wp2_with (go_at_call 83; (with_reducible refine (IH.out e hm _ B _ (lv + 1) _ (by omega) hR (by omega) (by omega)).mono ?_); rintro r w' ⟨rfl, hx'⟩)
            all_goals
              have hd2 := HE.out (by omega)
              refine ⟨⟨j + 1, max d (CL.rsz e (lv + 1)).2, n' + (CL.rsz e (lv + 1)).1, by omega, by go_num, by congr 1; omega, by congr 1, hx.tr hx', by omega, by omega, Lib.hid (by rw [HL.out, HS.out, if_neg h24])⟩, by simp [intOf]; omega⟩
        · go_wp2
          go_ret2
          rw [HM.out, HL.out, rszL_end (by omega)]
          exact ⟨rfl, hx0.tr hx⟩
    · have HM := Lib.hid (show CL.rsz (.mk k ⟨nm, ⟨m, u⟩⟩ kids) lv = (25, 0) by simp only [CL.rsz]; rw [if_pos (by omega)])
      have hc2 : 4 < lv ∨ 24 < kids.length := by omega
      rcases hc2 with hc2 | hc2
      all_goals
        go_enter Tryd.func83, Tryd.ntmps83
        go_wp2
        all_goals
          go_ret2
          rw [HM.out]
          exact ⟨rfl, Ext.new _ _⟩
theorem clusterlocksref07.Nodes_c (e : CL.Ex) (w : World) (B : Nat) (cs : List Value) (hR : Rd w B e cs) (hB : B ≤ w.heap.size) : Calls Tryd.prog 57 #[.agg cs.toArray] w fun r w' => r = .returned (.int .i64 (CL.nod e : Nat)) ∧ Ext w w' := by
  obtain ⟨k, s, m, u, A, l, c, rfl⟩ := hR.shape
  have hn : if CL.small e = true then CL.rsz e 1 = (CL.size e, CL.depth e) ∧ CL.size e ≤ 24 ∧ CL.nod e = CL.size e else (CL.rsz e 1).1 = 25 ∧ CL.nod e = 0 := by
    by_cases h : CL.small e = true
    · rw [if_pos h]; exact ⟨CL.rsz_small h, by simp [CL.small] at h; omega, by simp [CL.nod, h]⟩
    · rw [if_neg h]; exact ⟨CL.rsz_great (by simpa using h), by simp [CL.nod, h]⟩
  split at hn
  · obtain ⟨h1, h2, h3⟩ := hn
    go_enter Tryd.func57, Tryd.ntmps57
    go_wp2_with (go_at_call 83; (with_reducible refine (clusterlocksref07.Size_c e _ B _ 1 1 rfl (hR.ext (Ext.new _ _) hB) (by simp; omega) (by omega)).mono ?_); rintro r w' ⟨rfl, hx'⟩)
    go_ret
    exact ⟨ret_int (by rw [h3]), (Ext.new _ _).tr hx'⟩
  · obtain ⟨h1, h2⟩ := hn
    go_enter Tryd.func57, Tryd.ntmps57
    go_wp2_with (go_at_call 83; (with_reducible refine (clusterlocksref07.Size_c e _ B _ 1 1 rfl (hR.ext (Ext.new _ _) hB) (by simp; omega) (by omega)).mono ?_); rintro r w' ⟨rfl, hx'⟩)
    go_ret
    exact ⟨ret_int (by rw [h2]; rfl), (Ext.new _ _).tr hx'⟩
theorem clusterlocksref07.Usable_c (a b : Int) (w : World) : Calls Tryd.prog 85 #[.agg #[.int .i64 a, .int .i64 b]] w fun e w' => e = .returned (.bool (CL.usable ⟨a, b⟩)) ∧ Ext w w' := by
  go_enter Tryd.func85, Tryd.ntmps85
  go_wp2_with (first
        | (go_at_call 100; refine (RValid_c _ _).mono ?_; rintro e w' ⟨rfl, rfl⟩))
  all_goals (go_ret; refine ⟨ret_bool ?_, Ext.new _ _⟩; go_tidy; grind [CL.usable])
end Go.Proofs.YtlfnpkjfnafeaaaDoor
/- Atoms in memory: equality, lists of atoms, and the walks that gather them. -/
namespace Go.Proofs.YtlfnpkjfnafeaaaDoor
open Go.RowKit
set_option linter.unusedVariables false
theorem fm_len {α : Type} {c : α → List Value} {sz : Nat} (h : ∀ a, (c a).length = sz) (l : List α) : (l.flatMap c).length = l.length * sz := by
  induction l with
  | nil => simp
  | cons t l ih => rw [List.flatMap_cons, List.length_append, ih, h, List.length_cons, Nat.add_mul]; omega
theorem fm_get {α : Type} {c : α → List Value} {sz : Nat} (h : ∀ a, (c a).length = sz) {l : List α} {k : Nat} (hk : k < l.length) (j : Nat) (hj : j < sz) : (l.flatMap c)[k * sz + j]? = (c l[k])[j]? := by
  induction l generalizing k with
  | nil => simp at hk
  | cons t l ih =>
    cases k with
    | zero => rw [List.flatMap_cons, List.getElem?_append_left (by rw [h]; omega)]; simp
    | succ k =>
      rw [List.flatMap_cons, List.getElem?_append_right (by rw [h, Nat.add_mul]; omega), h]
      have := ih (k := k) (by simpa using hk)
      simp only [List.getElem_cons_succ]
      rw [← this]; congr 1; rw [Nat.add_mul]; omega
theorem am_eqD (k : Nat) (a b c d : Int) (W : World) : (Op.equalIn (k + 2) 23 (.agg #[.int .i64 a, .int .i64 b]) (.agg #[.int .i64 c, .int .i64 d])).run Tryd.prog W = .ok (decide (a = c ∧ b = d)) W := by
  have h1 : Tryd.prog.stoodInHeld 23 = false := by kernel_rfl
  rw [run_equalIn_struct (d := k + 1) _ _ _ _ (by simp [Program.fieldsOf, Tryd.underlying23]) h1]
  simp [Program.fieldsOf, Tryd.underlying23, Op.eqFields, go_sem, Tryd.underlying3]
  by_cases e1 : a = c <;> by_cases e2 : b = d <;> simp [e1, e2]
theorem at_eqIn (s t : List UInt8) (a b c d : Int) (W : World) : (Op.equalIn 10000 25 (.agg #[.string ⟨s.toArray⟩, .int .i64 a, .int .i64 b]) (.agg #[.string ⟨t.toArray⟩, .int .i64 c, .int .i64 d])).run Tryd.prog W = .ok (decide ((⟨s, ⟨a, b⟩⟩ : CL.At) = ⟨t, ⟨c, d⟩⟩)) W := by
  have h1 : Tryd.prog.stoodInHeld 25 = false := by kernel_rfl
  rw [run_equalIn_struct (d := 9999) _ _ _ _ (by simp [Program.fieldsOf, Tryd.underlying25]) h1]
  simp [Program.fieldsOf, Tryd.underlying25, Op.eqFields, go_sem, Tryd.underlying9]
  by_cases e0 : s = t <;> by_cases e1 : a = c <;> by_cases e2 : b = d <;> simp [e0, e1, e2]
/-- an atom as a value -/
def atv (a : CL.At) : Value := .agg #[.string ⟨a.n.toArray⟩, .int .i64 a.a.m, .int .i64 a.a.u]
theorem at_eql (s t : List UInt8) (a b c d : Int) (W : World) : (binOp .eql 25 (.agg #[.string ⟨s.toArray⟩, .int .i64 a, .int .i64 b]) (.agg #[.string ⟨t.toArray⟩, .int .i64 c, .int .i64 d])).run Tryd.prog W = .ok (.bool (decide ((⟨s, ⟨a, b⟩⟩ : CL.At) = ⟨t, ⟨c, d⟩⟩))) W := by
  rw [run_eql_struct, at_eqIn]; rfl
theorem at_neq (s t : List UInt8) (a b c d : Int) (W : World) : (binOp .neq 25 (.agg #[.string ⟨s.toArray⟩, .int .i64 a, .int .i64 b]) (.agg #[.string ⟨t.toArray⟩, .int .i64 c, .int .i64 d])).run Tryd.prog W = .ok (.bool (!decide ((⟨s, ⟨a, b⟩⟩ : CL.At) = ⟨t, ⟨c, d⟩⟩))) W := by
  rw [run_neq_struct, at_eqIn]; rfl
theorem at_guard : Tryd.prog.eqGuardType Tryd.prog.depth 25 = false := by kernel_rfl
theorem at_info : (Tryd.prog.info? 25).map (fun i => (i.zero, i.size, i.bytes)) = some (some (.agg #[.string ⟨#[]⟩, .int .i64 0, .int .i64 0]), 3, 32) := by kernel_rfl
/-- atoms as cells -/
def atc (a : CL.At) : List Value := [.string ⟨a.n.toArray⟩, .int .i64 a.a.m, .int .i64 a.a.u]
def ats (l : List CL.At) : List Value := l.flatMap atc
theorem ats_len (l : List CL.At) : (ats l).length = l.length * 3 := fm_len (c := atc) (fun _ => rfl) l
theorem ats_append (a b : List CL.At) : ats (a ++ b) = ats a ++ ats b := by simp [ats]
theorem ats_snoc (l : List CL.At) (a : CL.At) : ats (l ++ [a]) = ats l ++ atc a := by simp [ats]
theorem at_cells {w : World} {l : List CL.At} {p o k : Nat} (hc : ∀ j u, (ats l)[j]? = some u → w.cell? ⟨p, o + j, none⟩ = some u) (h : k < l.length) :
    w.cell? ⟨p, o + k * 3, none⟩ = some (.string ⟨l[k].n.toArray⟩) ∧ w.cell? ⟨p, o + k * 3 + 1, none⟩ = some (.int .i64 l[k].a.m) ∧ w.cell? ⟨p, o + k * 3 + 2, none⟩ = some (.int .i64 l[k].a.u) :=
  ⟨hc (k * 3 + 0) _ (fm_get (c := atc) (sz := 3) (fun _ => rfl) h 0 (by omega)), hc (k * 3 + 1) _ (fm_get (c := atc) (sz := 3) (fun _ => rfl) h 1 (by omega)), hc (k * 3 + 2) _ (fm_get (c := atc) (sz := 3) (fun _ => rfl) h 2 (by omega))⟩
theorem Sits.atoms {w : World} {l : List CL.At} {A : Option Addr} (hr : Sits w A (ats l)) {k : Nat} (h : k < l.length) : ∃ b o, A = some ⟨b, o, none⟩ ∧
    w.cell? ⟨b, o + k * 3, none⟩ = some (.string ⟨l[k].n.toArray⟩) ∧ w.cell? ⟨b, o + k * 3 + 1, none⟩ = some (.int .i64 l[k].a.m) ∧ w.cell? ⟨b, o + k * 3 + 2, none⟩ = some (.int .i64 l[k].a.u) :=
  let ⟨b, o, e, hc⟩ := hr.get (by rw [ats_len]; omega)
  ⟨b, o, e, at_cells hc h⟩
/-- a slot that holds a list of atoms of the call's own -/
def AtRow (w : World) (g base : Nat) (l : List CL.At) : Prop := ∃ v, Blk w g 60 #[v] ∧ w.ownsRow base 25 3 v l.length (ats l)
theorem AtRow.ext {w w' : World} {g base : Nat} {l : List CL.At} (h : AtRow w g base l) (hx : Ext w w') : AtRow w' g base l :=
  let ⟨v, h1, h2⟩ := h
  ⟨v, h1.ext hx, own_ext h2 hx⟩
theorem at_ne : 25 ≠ 60 := by decide
def NoteTo (l : List CL.At) (a : CL.At) (j : Nat) : Prop := CL.noteF l a = CL.noteF (l.drop j) a ∧ a ∉ l.take j
theorem NoteTo.zero (l : List CL.At) (a : CL.At) : NoteTo l a 0 := ⟨by simp, by simp⟩
theorem NoteTo.hit {l : List CL.At} {a : CL.At} {j : Nat} (h : NoteTo l a j) (hj : j < l.length) (he : a = l[j]) : CL.note l a = (0, l) := by
  have h1 := h.1
  rw [List.drop_eq_getElem_cons hj] at h1
  simp only [CL.noteF, he, if_true] at h1
  unfold CL.note
  rw [if_pos (by rw [he]; exact List.getElem_mem hj), he, h1]
theorem NoteTo.name {l : List CL.At} {a : CL.At} {j : Nat} (h : NoteTo l a j) (hj : j < l.length) (he : ¬ a = l[j]) (hn : a.n = l[j].n) : CL.note l a = (13, l) := by
  have h1 := h.1
  rw [List.drop_eq_getElem_cons hj] at h1
  simp only [CL.noteF] at h1
  rw [if_neg he, if_pos hn] at h1
  unfold CL.note
  rw [h1]
  split
  · rfl
  · rw [if_pos (by decide)]
theorem NoteTo.step {l : List CL.At} {a : CL.At} {j : Nat} (h : NoteTo l a j) (hj : j < l.length) (he : ¬ a = l[j]) (hn : ¬ a.n = l[j].n) : NoteTo l a (j + 1) := by
  have h1 := h.1
  rw [List.drop_eq_getElem_cons hj] at h1
  simp only [CL.noteF] at h1
  rw [if_neg he, if_neg hn] at h1
  refine ⟨h1, ?_⟩
  rw [List.take_succ_eq_append_getElem hj]
  simp only [List.mem_append, List.mem_singleton, not_or]
  exact ⟨h.2, he⟩
theorem NoteTo.done {l : List CL.At} {a : CL.At} {j : Nat} (h : NoteTo l a j) (hj : l.length ≤ j) : CL.note l a = if l.length = 8 then (4, l) else (0, l ++ [a]) := by
  obtain ⟨h1, h2⟩ := h
  rw [List.drop_eq_nil_of_le hj] at h1
  rw [List.take_of_length_le hj] at h2
  unfold CL.note
  rw [if_neg h2, h1]
  simp [CL.noteF]
set_option maxRecDepth 100000 in
set_option maxHeartbeats 1600000 in
theorem request.note_c (a : CL.At) (l : List CL.At) (w : World) (G g base : Nat) (hG : G ≤ g) (hgb : G ≤ base) (hbs : base ≤ w.heap.size) (hl : l.length ≤ 8) (h : AtRow w g base l) :
    Calls Tryd.prog 56 #[.pointer (some ⟨g, 0, none⟩), .agg #[.string ⟨a.n.toArray⟩, .int .i64 a.a.m, .int .i64 a.a.u]] w fun r w' => r = .returned (.int .i64 (CL.note l a).1) ∧ AtRow w' g base (CL.note l a).2 ∧ Below G w w' := by
  have HR := Lib.hid h
  obtain ⟨v, hb, hown⟩ := h
  obtain ⟨A, c, rfl, hc1, hc2⟩ := own_form hown
  obtain ⟨nm, m, u⟩ := a
  have hlt := hb.lt
  have h0 : w.cell? ⟨g, 0, none⟩ = some (.slice A l.length c) := hb.cell 0
  have hr := Sits.of_own hown
  have hq := at_eql
  have hg := at_guard
  have HN := Lib.hid (NoteTo.zero l ⟨nm, ⟨m, u⟩⟩)
  obtain ⟨bE, hx0⟩ := box1 w #[.string ⟨nm.toArray⟩, .int .i64 m, .int .i64 u] 25
  have hne : g ≠ w.heap.size := by omega
  go_enter Tryd.func56, Tryd.ntmps56
  go_wp2
  generalize (w.alloc (.cells #[.string ⟨nm.toArray⟩, .int .i64 m, .int .i64 u] 25)) = w1 at *
  go_loopw [11] (fun i wr => ∃ j : Nat, j ≤ l.length ∧ i = .int .i64 j ∧ Ext w1 wr ∧ Hid (NoteTo l ⟨nm, ⟨m, u⟩⟩ j)) (fun i _ => l.length - (intOf i).toNat)
  case atStart => exact ⟨0, by omega, rfl, Ext.rfl', HN⟩
  case round =>
    obtain ⟨j, hj, rfl, hx, HJ⟩ := hrel
    have hx2 := hx0.tr hx
    have bEr := bE.ext hx
    have e0 : wr.cell? ⟨w.heap.size, 0, none⟩ = some (.string ⟨nm.toArray⟩) := bEr.cell 0
    have e1 : wr.cell? ⟨w.heap.size, 1, none⟩ = some (.int .i64 m) := bEr.cell 1
    have e2 : wr.cell? ⟨w.heap.size, 2, none⟩ = some (.int .i64 u) := bEr.cell 2
    have hbs2 := bEr.lt
    by_cases hlt2 : j < l.length
    · obtain ⟨b, o, rfl, c0, c1, c2⟩ := (hr.ext hx2).atoms hlt2
      have H1 := Lib.hid (HJ.out.hit hlt2)
      have H2 := Lib.hid (HJ.out.name hlt2)
      have H3 := Lib.hid (HJ.out.step hlt2)
      generalize l[j] = x at *
      obtain ⟨xn, xm, xu⟩ := x
      simp only at c0 c1 c2
      have hbb : b ≠ wr.heap.size := by have := World.block_lt_of_cell? _ _ c0; simp at this; omega
      have hwn : w.heap.size ≠ wr.heap.size := by omega
      have hx3 := hx2.tr (Ext.new wr (.cells #[.string ⟨xn.toArray⟩, .int .i64 xm, .int .i64 xu] 25))
      by_cases heq : nm = xn ∧ m = xm ∧ u = xu
      · obtain ⟨rfl, rfl, rfl⟩ := heq
        go_wp2
        go_ret
        rw [H1.out (by simp)]
        exact ⟨rfl, HR.out.ext hx3, hx3.mono (by omega)⟩
      · have HQ := Lib.hid heq
        have hfe : decide ((⟨nm, ⟨m, u⟩⟩ : CL.At) = ⟨xn, ⟨xm, xu⟩⟩) = false := by simpa using heq
        have hq1 := fun W => (at_eql nm xn m u xm xu W).trans (by rw [hfe])
        clear heq hfe hq
        go_wp2
        · go_ret
          rw [H2.out (by have := HQ.out; grind) (by grind)]
          exact ⟨rfl, HR.out.ext hx3, hx3.mono (by omega)⟩
        · exact ⟨⟨j + 1, by omega, by go_num, hx.tr (Ext.new _ _), Lib.hid (H3.out (by have := HQ.out; grind) (by grind))⟩, by simp [intOf]; omega⟩
    · have HD := Lib.hid (HJ.out.done (by omega))
      have h1 : wr.cell? ⟨g, 0, none⟩ = some (.slice A l.length c) := hx2.cell h0
      by_cases h8 : l.length = 8
      · have h8' : ((l.length : Int) == 8) = true := by simp [h8]
        go_wp2
        go_ret
        rw [HD.out, if_pos h8]
        exact ⟨rfl, HR.out.ext hx2, hx2.mono (by omega)⟩
      · have h8' : ((l.length : Int) == 8) = false := beq_eq_false_iff_ne.2 (by omega)
        go_wp2
        have hbr := hb.ext hx2
        have hownr := own_ext hown hx2
        have f1 := hbr.frozen 0
        have n1 : some g ≠ (Value.slice A l.length c).ownBlock := Ne.symm (own_ne hownr hbr at_ne)
        have hne3 : g ≠ wr.heap.size := by have := hbr.lt; omega
        have hBr := hx2.size
        have x1 : (wr.alloc (.cells #[.string ⟨nm.toArray⟩, .int .i64 m, .int .i64 u] 25)).cell? ⟨g, 0, none⟩ = some (.slice A l.length c) := (hbr.alloc _).cell 0
        go_region_law
          ((refine step_append_sits _ (by rfl) _ _ _ (by rfl) base 25 3 32 _ Tryd.underlying60 at_info rfl (by omega) (.slice A l.length c) l.length (ats l) (by rfl) ((hownr.alloc _).drew) _ _ _ [.string ⟨nm.toArray⟩, .int .i64 m, .int .i64 u] (by rfl) (by rfl) (Sits.drew (Sits.new _ _ _)) (by simp [Value.oneCell']) (by simp only [maxLen]; omega) (by omega) (by simp; omega) ?_; intro v3 w3 hown3 hb3 hg3; obtain ⟨A3, c3, rfl, hc3, hc4⟩ := own_form hown3; have e3 : w3.cell? ⟨g, 0, none⟩ = some (.slice A l.length c) := hg3.cell ((hbr.alloc _).cell 0) n1; have f3 : w3.frozen? ⟨g, 0, none⟩ = false := hg3.frozenB ((hbr.alloc _)) n1 0))
        all_goals
          have hb4 := hg3.blk (hbr.alloc _) n1
          go_wp2
          go_ret
          rw [HD.out, if_neg h8]
          refine ⟨rfl, ⟨.slice A3 (l.length + 1) c3, ?_, ?_⟩, ?_⟩
          · have := hb4.set 0 (.slice A3 (l.length + 1) c3); simpa using this
          · rw [ats_snoc, List.length_append]
            exact own_only hown3 (Only.rf.set 0 _) (own_ne hown3 hb4 at_ne)
          · exact below_only ((((hx2.mono (by omega)).alloc (by omega) _).drew).trans (hb3.mono hgb)) (Only.rf.set 0 _) hG (by have := hb3.size; simp at this; omega)
/-- two resources that stand for the kinds of an atom -/
theorem request.validAtom_c (a : CL.At) (w : World) (hn : a.n.length ≤ maxLen) : Calls Tryd.prog 55 #[.agg #[.string ⟨a.n.toArray⟩, .int .i64 a.a.m, .int .i64 a.a.u]] w fun e w' => e = .returned (.bool (CL.vatom a)) ∧ Ext w w' := by
  obtain ⟨nm, m, u⟩ := a
  have hx := Ext.rfl' (a := w)
  have HU := Lib.hid (CL.usable_fits ⟨m, u⟩)
  go_enter Tryd.func55, Tryd.ntmps55
  go_wp2_with (first
    | (go_at_call 81; (with_reducible refine (catalog.ValidName_c _ _ hn).mono ?_); rintro e w' ⟨rfl, rfl⟩)
    | (go_at_call 82; refine (amount.Fits_c _ _ _ _ _ _ _).mono ?_; rintro e w' ⟨rfl, hx1⟩; have hx := Ext.tr (a := w) (by go_grown) hx1; have hz := hx.size; obtain ⟨hc1, hf1⟩ := bcell hx1; have hz1 := hx1.size; (try simp only [World.size_alloc] at hz1); (try have hl0 : w.heap.size < w'.heap.size := by omega); (try have hl1 : w.heap.size + 1 < w'.heap.size := by omega); (try have hl2 : w.heap.size + 1 + 1 < w'.heap.size := by omega); (try have hl3 : w.heap.size + 1 + 1 + 1 < w'.heap.size := by omega); clear hx1))
  all_goals (go_ret; refine ⟨ret_bool ?_, ?_⟩; · go_tidy; have HU := HU.out; unfold CL.vatom; rw [HU]; grind
             · go_grown)
end Go.Proofs.YtlfnpkjfnafeaaaDoor
/- The walks that tell whether an expression is valid: request.proper, request.ValidExpr. -/
namespace Go.Proofs.YtlfnpkjfnafeaaaDoor
open Go.RowKit
set_option maxRecDepth 100000
set_option linter.unusedVariables false
theorem note_len {l : List CL.At} {a : CL.At} (h : l.length ≤ 8) : (CL.note l a).2.length ≤ 8 := by
  unfold CL.note
  split
  · exact h
  · split
    · exact h
    · split
      · exact h
      · simp; omega
theorem prop_len (e : CL.Ex) : ∀ l : List CL.At, l.length ≤ 8 → (CL.prop e l).2.length ≤ 8 := by
  induction e using CL.Ex.ind with
  | h k a kids ih =>
    have hL : ∀ (ks : List CL.Ex), (∀ e ∈ ks, ∀ l : List CL.At, l.length ≤ 8 → (CL.prop e l).2.length ≤ 8) → ∀ l : List CL.At, l.length ≤ 8 → (CL.propL ks l).2.length ≤ 8 := by
      intro ks
      induction ks with
      | nil => intro _ l h; simpa [CL.propL] using h
      | cons e ks ihk =>
        intro hk l h
        simp only [CL.propL]
        split
        · exact ihk (fun x hx => hk x (by simp [hx])) _ (hk e (by simp) l h)
        · exact hk e (by simp) l h
    intro l h
    simp only [CL.prop]
    split
    · split
      · exact note_len h
      · exact h
    · split
      · exact h
      · exact hL kids ih l h
theorem propL_step {kids : List CL.Ex} {j : Nat} {l : List CL.At} (hj : j < kids.length) : CL.propL (kids.drop j) l = if (CL.prop kids[j] l).1 = true then CL.propL (kids.drop (j + 1)) (CL.prop kids[j] l).2 else (false, (CL.prop kids[j] l).2) := by
  rw [List.drop_eq_getElem_cons hj]; simp only [CL.propL]
theorem propL_end {kids : List CL.Ex} {j : Nat} {l : List CL.At} (hj : kids.length ≤ j) : CL.propL (kids.drop j) l = (true, l) := by
  rw [List.drop_eq_nil_of_le hj]; simp only [CL.propL]
theorem at_neq0 (s : List UInt8) (a b : Int) (W : World) : (binOp .neq 25 (.agg #[.string ⟨s.toArray⟩, .int .i64 a, .int .i64 b]) (.agg #[.string ⟨#[]⟩, .int .i64 0, .int .i64 0])).run Tryd.prog W = .ok (.bool (!decide ((⟨s, ⟨a, b⟩⟩ : CL.At) = CL.noAt))) W := at_neq s [] a b 0 0 W
theorem Blk.c5 {w : World} {g : Nat} {t : TypeId} {x y z v u : Value} (h : Blk w g t #[x, y, z, v, u]) : w.cell? ⟨g, 0, none⟩ = some x ∧ w.cell? ⟨g, 1, none⟩ = some y ∧ w.cell? ⟨g, 2, none⟩ = some z ∧ w.cell? ⟨g, 3, none⟩ = some v ∧ w.cell? ⟨g, 4, none⟩ = some u := ⟨h.cell 0, h.cell 1, h.cell 2, h.cell 3, h.cell 4⟩
set_option maxHeartbeats 1600000 in
theorem request.proper_c (e : CL.Ex) : ∀ (w : World) (B : Nat) (cs : List Value) (l : List CL.At) (G g base : Nat), Rd w B e cs → B ≤ G → G ≤ g → G ≤ base → base ≤ w.heap.size → AtRow w g base l → l.length ≤ 8 →
    Calls Tryd.prog 31 #[.agg cs.toArray, .pointer (some ⟨g, 0, none⟩)] w fun r w' => r = .returned (.bool (CL.prop e l).1) ∧ AtRow w' g base (CL.prop e l).2 ∧ Below G w w' := by
  induction e using CL.Ex.ind with
  | h k a kids ih =>
    intro w B cs l G g base hR hBG hGg hGb hbs hrow hl8
    obtain ⟨A, c, rfl, hnm, hkl, hkc, hK⟩ := hR.inv
    obtain ⟨nm, m, u⟩ := a
    have IH := Lib.hid ih
    clear ih hR
    unfold maxLen at hkl
    obtain ⟨bE, hx0⟩ := box1 w #[.int .i64 k, .string ⟨nm.toArray⟩, .int .i64 m, .int .i64 u, .slice A kids.length c] 28
    have HROW := Lib.hid (hrow.ext hx0)
    have hz0 := hx0.size
    by_cases hkids : kids = []
    · subst hkids
      simp only [List.length_nil] at bE hx0 HROW hz0
      by_cases hk0 : k = 0
      · subst hk0
        cases hva : CL.vatom ⟨nm, ⟨m, u⟩⟩
        · have HP := Lib.hid (show CL.prop (.mk 0 ⟨nm, ⟨m, u⟩⟩ []) l = (false, l) by simp [CL.prop, hva])
          go_enter Tryd.func31, Tryd.ntmps31
          go_wp2_with (go_at_call 55; (with_reducible refine (request.validAtom_c ⟨nm, ⟨m, u⟩⟩ _ hnm).mono ?_); rintro e w' ⟨rfl, hx⟩)
          go_ret
          rw [HP.out]
          exact ⟨rfl, HROW.out.ext hx, (hx0.tr hx).mono (by omega)⟩
        · have HP := Lib.hid (show CL.prop (.mk 0 ⟨nm, ⟨m, u⟩⟩ []) l = (decide ((CL.note l ⟨nm, ⟨m, u⟩⟩).1 = 0), (CL.note l ⟨nm, ⟨m, u⟩⟩).2) by simp [CL.prop, hva])
          go_enter Tryd.func31, Tryd.ntmps31
          go_wp2_with (first
            | (go_at_call 55; (with_reducible refine (request.validAtom_c ⟨nm, ⟨m, u⟩⟩ _ hnm).mono ?_); rintro e w' ⟨rfl, hx⟩; obtain ⟨e0, e1, e2, e3, e4⟩ := (bE.ext hx).c5; have hz1 := hx.size)
            | (go_at_call 56; (with_reducible refine (request.note_c ⟨nm, ⟨m, u⟩⟩ l _ G g base hGg hGb (by omega) hl8 (HROW.out.ext hx)).mono ?_); rintro e w'' ⟨rfl, hrow', hb'⟩))
          go_ret
          rw [HP.out]
          exact ⟨rfl, hrow', ((hx0.tr hx).mono (by omega)).trans hb'⟩
      · have hk0' : (k == 0) = false := by simpa using hk0
        have HP := Lib.hid (show CL.prop (.mk k ⟨nm, ⟨m, u⟩⟩ []) l = (false, l) by simp [CL.prop, hk0])
        go_enter Tryd.func31, Tryd.ntmps31
        go_wp2
        go_ret
        rw [HP.out]
        exact ⟨rfl, HROW.out, hx0.mono (by omega)⟩
    · have hkl0 : ((kids.length : Int) == 0) = false := beq_eq_false_iff_ne.2 (fun h => hkids (List.eq_nil_of_length_eq_zero (by omega)))
      by_cases hbad : k < 1 ∨ (kids.length : Int) < k ∨ (⟨nm, ⟨m, u⟩⟩ : CL.At) ≠ CL.noAt
      · have HP := Lib.hid (show CL.prop (.mk k ⟨nm, ⟨m, u⟩⟩ kids) l = (false, l) by simp only [CL.prop]; rw [if_neg hkids, if_pos hbad])
        have hb2 : k < 1 ∨ (1 ≤ k ∧ (kids.length : Int) < k) ∨ (1 ≤ k ∧ k ≤ (kids.length : Int) ∧ decide ((⟨nm, ⟨m, u⟩⟩ : CL.At) = CL.noAt) = false) := by
          by_cases h1 : k < 1
          · exact .inl h1
          · by_cases h2 : (kids.length : Int) < k
            · exact .inr (.inl ⟨by omega, h2⟩)
            · exact .inr (.inr ⟨by omega, by omega, by simpa [h1, h2] using hbad⟩)
        clear hbad
        have hq := at_neq0 nm m u
        have hg := at_guard
        rcases hb2 with h1 | ⟨h1, h2⟩ | ⟨h1, h2, h3⟩
        all_goals
          try simp only [h3] at hq
          go_enter Tryd.func31, Tryd.ntmps31
          go_wp2
          go_ret
          rw [HP.out]
          exact ⟨rfl, HROW.out, hx0.mono (by omega)⟩
      · have HP := Lib.hid (show CL.prop (.mk k ⟨nm, ⟨m, u⟩⟩ kids) l = CL.propL kids l by simp only [CL.prop]; rw [if_neg hkids, if_neg hbad])
        have h1 : 1 ≤ k := by omega
        have h2 : k ≤ (kids.length : Int) := by omega
        have h3 : decide ((⟨nm, ⟨m, u⟩⟩ : CL.At) = CL.noAt) = true := by
          simp only [not_or, ne_eq, Classical.not_not] at hbad
          simpa using hbad.2.2
        clear hbad
        have hq := at_neq0 nm m u
        simp only [h3] at hq
        have hg := at_guard
        clear h3
        go_enter Tryd.func31, Tryd.ntmps31
        go_wp2
        generalize (w.alloc (.cells #[.int .i64 k, .string ⟨nm.toArray⟩, .int .i64 m, .int .i64 u, .slice A kids.length c] 28)) = w1 at *
        go_loopw [46] (fun i wr => ∃ (j : Nat) (l' : List CL.At), j ≤ kids.length ∧ i = .int .i64 j ∧ AtRow wr g base l' ∧ l'.length ≤ 8 ∧ Below G w wr ∧ Hid (CL.propL kids l = CL.propL (kids.drop j) l')) (fun i _ => kids.length - (intOf i).toNat)
        case atStart => exact ⟨0, l, by omega, rfl, HROW.out, hl8, hx0.mono (by omega), Lib.hid (by simp)⟩
        case round =>
          obtain ⟨j, l', hj, rfl, hrow', hl', hbl, HL⟩ := hrel
          have hsz := hbl.size
          by_cases hlt : j < kids.length
          · have hKr := hK.below (hbl.mono hBG)
            obtain ⟨b, o, k1, s1, m1, u1, A1, l1, x1, rfl, hbB, hR, c0, c1, c2, c3, c4⟩ := hKr.get hlt
            have HS := Lib.hid (propL_step (l := l') hlt)
            have HN := Lib.hid (prop_len kids[j] l' hl')
            have hm := List.getElem_mem hlt
            generalize kids[j] = e at *
            have hbx : b ≠ wr.heap.size := by omega
            have hBw : B ≤ wr.heap.size := by omega
            cases hpe : (CL.prop e l').1
            · go_wp2_with (go_at_call 31; (with_reducible refine (IH.out e hm _ B _ l' G g base (hR.kept ((Below.refl _ _).alloc hBw _)) hBG hGg hGb (by simp; omega) (hrow'.ext (Ext.new _ _)) hl').mono ?_); rintro r w' ⟨rfl, hrow2, hb2⟩)
              go_ret
              rw [HP.out, HL.out, HS.out, hpe, if_neg (by simp)]
              exact ⟨rfl, hrow2, (hbl.alloc (by omega) _).trans hb2⟩
            · go_wp2_with (go_at_call 31; (with_reducible refine (IH.out e hm _ B _ l' G g base (hR.kept ((Below.refl _ _).alloc hBw _)) hBG hGg hGb (by simp; omega) (hrow'.ext (Ext.new _ _)) hl').mono ?_); rintro r w' ⟨rfl, hrow2, hb2⟩)
              exact ⟨⟨j + 1, _, by omega, by go_num, hrow2, HN.out, (hbl.alloc (by omega) _).trans hb2, Lib.hid (by rw [HL.out, HS.out, if_pos hpe])⟩, by simp [intOf]; omega⟩
          · go_wp2
            go_ret
            rw [HP.out, HL.out, propL_end (by omega)]
            exact ⟨rfl, hrow', hbl⟩
theorem request.ValidExpr_c (e : CL.Ex) (w : World) (B : Nat) (cs : List Value) (hR : Rd w B e cs) (hB : B ≤ w.heap.size) : Calls Tryd.prog 13 #[.agg cs.toArray] w fun r w' => r = .returned (.bool (CL.valid e)) ∧ Ext w w' := by
  have HV := Lib.hid (CL.valid_prop e)
  obtain ⟨k, s, m, u, A, l, c, rfl⟩ := hR.shape
  obtain ⟨bE, hx0⟩ := box1 w #[.int .i64 k, .string s, .int .i64 m, .int .i64 u, .slice A l c] 28
  have hx1 : Ext w ((w.alloc (.cells #[.int .i64 k, .string s, .int .i64 m, .int .i64 u, .slice A l c] 28)).alloc (.cells #[.slice none 0 0] 60)) := by go_grown
  have bE1 := bE.alloc (.cells #[.slice none 0 0] 60)
  have hrow : AtRow ((w.alloc (.cells #[.int .i64 k, .string s, .int .i64 m, .int .i64 u, .slice A l c] 28)).alloc (.cells #[.slice none 0 0] 60)) (w.heap.size + 1) (w.heap.size + 1) [] := by
    refine ⟨.slice none 0 0, ?_, rfl, .inl ⟨rfl, rfl⟩⟩
    have h := Blk.new (w.alloc (.cells #[.int .i64 k, .string s, .int .i64 m, .int .i64 u, .slice A l c] 28)) 60 #[.slice none 0 0]
    rw [World.size_alloc] at h; exact h
  have hz : w.heap.size + 1 + 1 ≤ ((w.alloc (.cells #[.int .i64 k, .string s, .int .i64 m, .int .i64 u, .slice A l c] 28)).alloc (.cells #[.slice none 0 0] 60)).heap.size := by simp
  cases hs : CL.small e
  · have hd : CL.dep e = 0 := by simp [CL.dep, hs]
    have HE := Lib.hid (show CL.valid e = false by rw [HV.out, hs]; rfl)
    go_enter Tryd.func13, Tryd.ntmps13
    go_wp2_with (go_at_call 26; (with_reducible refine (request.Depth_c e _ B _ (hR.ext hx1 hB) (by omega)).mono ?_); rintro r w' ⟨rfl, hx⟩)
    go_ret
    exact ⟨ret_bool HE.out.symm, hx1.tr hx⟩
  · have hd : ((CL.dep e : Int) == 0) = false := by
      have h1 := CL.depth_pos e
      have h2 : CL.dep e = CL.depth e := by simp [CL.dep, hs]
      exact beq_eq_false_iff_ne.2 (by omega)
    have hd2 : ((CL.dep e : Int) != 0) = true := by simp at hd; simp [hd]
    have HE := Lib.hid (show CL.valid e = (CL.prop e []).1 by rw [HV.out, hs]; rfl)
    go_enter Tryd.func13, Tryd.ntmps13
    go_wp2_with (first
      | (go_at_call 26; (with_reducible refine (request.Depth_c e _ B _ (hR.ext hx1 hB) (by omega)).mono ?_); rintro r w' ⟨rfl, hx⟩; obtain ⟨e0, e1, e2, e3, e4⟩ := (bE1.ext hx).c5; have hz2 := hx.size)
      | (go_at_call 31; (with_reducible refine (request.proper_c e _ B _ [] w.heap.size (w.heap.size + 1) (w.heap.size + 1) ((hR.ext hx1 hB).ext hx (by omega)) hB (by omega) (by omega) (by omega) (hrow.ext hx) (by decide)).mono ?_); rintro r w' ⟨rfl, hrow2, hb2⟩))
    go_ret
    exact ⟨ret_bool HE.out.symm, (hx1.tr hx).trans hb2⟩
end Go.Proofs.YtlfnpkjfnafeaaaDoor
/- The walks of package amount and of its reference, second part: lists of amounts. -/
namespace Go.Proofs.YtlfnpkjfnafeaaaDoor
open Go.RowKit
/-- an amount as cells -/
def amc (a : CL.Am) : List Value := [.int .i64 a.m, .int .i64 a.u]
def ams (l : List CL.Am) : List Value := l.flatMap amc
theorem ams_len (l : List CL.Am) : (ams l).length = l.length * 2 := by
  unfold ams
  induction l with
  | nil => rfl
  | cons t l ih => simp [amc, ih]; omega
theorem ams_append (a b : List CL.Am) : ams (a ++ b) = ams a ++ ams b := by simp [ams]
theorem ams_one (l : List CL.Am) : ∀ u ∈ ams l, u.oneCell' = true := by
  intro u hu
  unfold ams at hu
  rw [List.mem_flatMap] at hu
  obtain ⟨a, _, hu⟩ := hu
  simp [amc] at hu
  rcases hu with rfl | rfl <;> rfl
theorem ams_get {l : List CL.Am} {k : Nat} (h : k < l.length) (j : Nat) (hj : j < 2) : (ams l)[k * 2 + j]? = (amc l[k])[j]? := by
  unfold ams
  induction l generalizing k with
  | nil => simp at h
  | cons t l ih =>
    cases k with
    | zero => rw [List.flatMap_cons, List.getElem?_append_left (by simp [amc]; omega)]; simp
    | succ k =>
      rw [List.flatMap_cons, List.getElem?_append_right (by simp [amc]; omega)]
      have := ih (k := k) (by simpa using h)
      simp only [List.getElem_cons_succ, amc, List.length_cons, List.length_nil] at this ⊢
      rw [← this]; congr 1; omega
theorem am_cells {w : World} {l : List CL.Am} {p o k : Nat} (hc : ∀ j u, (ams l)[j]? = some u → w.cell? ⟨p, o + j, none⟩ = some u) (h : k < l.length) :
    w.cell? ⟨p, o + k * 2, none⟩ = some (.int .i64 l[k].m) ∧ w.cell? ⟨p, o + k * 2 + 1, none⟩ = some (.int .i64 l[k].u) :=
  ⟨hc (k * 2 + 0) _ (ams_get h 0 (by omega)), hc (k * 2 + 1) _ (ams_get h 1 (by omega))⟩
theorem take_s {α : Type} {l : List α} {k : Nat} (h : k < l.length) : l.take (k + 1) = l.take k ++ [l[k]] := List.take_succ_eq_append_getElem h
theorem cmpt_perm {k u : Int} {l : List CL.Am} {j : Nat} (hj : j < l.length) (h : CL.perm k u l[j] = false) : CL.compat k u l = false :=
  decide_eq_false fun hc => by have := hc.2.1 l[j] (List.getElem_mem _); rw [h] at this; cases this
theorem cmpt_take {k u : Int} {l : List CL.Am} {j : Nat} (_ : j < l.length) (h : ¬ CL.Cmpt k u (l.take (j + 1))) : CL.compat k u l = false :=
  decide_eq_false fun hc => h (hc.sub (List.take_sublist _ _))
theorem cmpt_all {k u : Int} {l : List CL.Am} {j : Nat} (hj : l.length ≤ j) (h : CL.Cmpt k u (l.take j)) : CL.compat k u l = true :=
  decide_eq_true (by rwa [List.take_of_length_le hj] at h)
theorem cmpt_bad {k u : Int} {l : List CL.Am} (h : CL.shaped k u = false) : CL.compat k u l = false :=
  decide_eq_false fun hc => by rw [hc.1] at h; cases h
theorem cmpt_nil {k u : Int} (h : CL.shaped k u = true) : CL.Cmpt k u [] := ⟨h, by simp, by simp [CL.sm]; have := CL.shaped_iff.1 h; omega, List.Pairwise.nil⟩
theorem sm_take {l : List CL.Am} {j : Nat} (hj : j < l.length) : CL.sm (l.take (j + 1)) = CL.sm (l.take j) + l[j].u := by
  rw [take_s hj, CL.sm_append]; simp [CL.sm]
theorem cmpt_sum {k u : Int} {l : List CL.Am} (h : CL.Cmpt k u l) : 0 ≤ CL.sm l ∧ CL.sm l ≤ u := ⟨CL.sm_nonneg h.2.1, h.2.2.1⟩
theorem u_le {k u : Int} (h : CL.shaped k u = true) : u ≤ 8 := by have := CL.shaped_iff.1 h; omega
/-- the test of one amount against those before it -/
def PrTo (l : List CL.Am) (a : CL.Am) (q : Nat) : Prop := ∀ i, (h : i < l.length) → i < q → CL.pr l[i] a
theorem PrTo.zero {l : List CL.Am} {a : CL.Am} : PrTo l a 0 := fun i _ h => by omega
theorem PrTo.step {l : List CL.Am} {a : CL.Am} {q : Nat} (h : PrTo l a q) (hq : q < l.length) (hp : CL.pr l[q] a) : PrTo l a (q + 1) := by
  intro i hi h1
  by_cases e : i = q
  · subst e; exact hp
  · exact h i hi (by omega)
theorem PrTo.all {l : List CL.Am} {a : CL.Am} {q : Nat} (h : PrTo l a q) : ∀ b ∈ l.take q, CL.pr b a := by
  intro b hb
  obtain ⟨i, hi, rfl⟩ := List.mem_iff_getElem.1 hb
  rw [List.length_take] at hi
  rw [List.getElem_take]
  exact h i (by omega) (by omega)
theorem cmpt_pr {k u : Int} {l : List CL.Am} {j q : Nat} (hj : j < l.length) (hq : q < j) (h : ¬ CL.pr l[q] l[j]) : CL.compat k u l = false :=
  cmpt_take hj fun hc => by
    rw [take_s hj] at hc
    refine h ((CL.Cmpt.snoc.1 hc).2.2.2 _ ?_)
    rw [List.mem_take_iff_getElem]
    exact ⟨q, by omega, rfl⟩
end Go.Proofs.YtlfnpkjfnafeaaaDoor
/- The walks of package amount and of its reference, third part: Compatible. -/
namespace Go.Proofs.YtlfnpkjfnafeaaaDoor
open Go.RowKit
/-- which modes have been seen -/
def sn (l : List CL.Am) (m : Int) : Bool := l.any fun a => a.m == m && m != 0
def seenA (l : List CL.Am) : Array Value := #[.bool (sn l 0), .bool (sn l 1), .bool (sn l 2), .bool (sn l 3), .bool (sn l 4), .bool (sn l 5)]
theorem sn_snoc (l : List CL.Am) (a : CL.Am) (m : Int) : sn (l ++ [a]) m = (sn l m || (a.m == m && m != 0)) := by simp [sn]
theorem seen_zero {l : List CL.Am} {a : CL.Am} (h : a.m = 0) : seenA (l ++ [a]) = seenA l := by simp [seenA, sn_snoc, h]
theorem seen_set {l : List CL.Am} {a : CL.Am} (h : CL.vld a.m = true) : (seenA l).setIfInBounds a.m.toNat (.bool true) = seenA (l ++ [a]) := by
  rcases CL.vld_cases h with e | e | e | e | e <;> simp [seenA, sn_snoc, e]
/-- no seen mode below q is against m -/
def SnTo (l : List CL.Am) (m : Int) (q : Nat) : Prop := ∀ i : Nat, i < q → sn l (i : Int) = true → CL.cmp (i : Int) m = true
theorem SnTo.zero {l : List CL.Am} {m : Int} : SnTo l m 0 := fun i h => by omega
theorem SnTo.step {l : List CL.Am} {m : Int} {q : Nat} (h : SnTo l m q) (hc : sn l (q : Int) = true → CL.cmp (q : Int) m = true) : SnTo l m (q + 1) := by
  intro i hi
  by_cases e : i = q
  · subst e; exact hc
  · exact h i (by omega)
theorem SnTo.all {k u : Int} {l : List CL.Am} {a : CL.Am} (hl : ∀ b ∈ l, CL.perm k u b = true) (h : SnTo l a.m 6) : ∀ b ∈ l, CL.pr b a := by
  intro b hb
  rcases CL.perm_mode (hl b hb) with h0 | ⟨hv, _, _⟩
  · exact .inl h0
  · have hv' := CL.vld_iff.1 hv
    refine .inr (.inr ?_)
    have := h b.m.toNat (by omega) (by
      rw [show ((b.m.toNat : Nat) : Int) = b.m by omega]
      simp only [sn, List.any_eq_true]
      exact ⟨b, hb, by simp; omega⟩)
    rwa [show ((b.m.toNat : Nat) : Int) = b.m by omega] at this
theorem sn_bad {l : List CL.Am} {a : CL.Am} {q : Nat} (h1 : sn l (q : Int) = true) (h2 : CL.cmp (q : Int) a.m = false) (h3 : a.m ≠ 0) : ¬ ∀ b ∈ l, CL.pr b a := by
  intro h
  simp only [sn, List.any_eq_true] at h1
  obtain ⟨b, hb, hm⟩ := h1
  simp at hm
  rcases h b hb with h | h | h
  · omega
  · exact h3 h
  · rw [hm.1, h2] at h; cases h
end Go.Proofs.YtlfnpkjfnafeaaaDoor
/- The walks of package amount and of its reference, fourth part: Room, Format. -/
namespace Go.Proofs.YtlfnpkjfnafeaaaDoor
open Go.RowKit
theorem am_info : (Tryd.prog.info? 23).map (fun i => (i.zero, i.size, i.bytes)) = some (some (.agg #[.int .i64 0, .int .i64 0]), 2, 16) := by kernel_rfl
theorem Sits.of_blk {w : World} {g : Nat} {t : TypeId} {cs : Array Value} (h : Blk w g t cs) : Sits w (some ⟨g, 0, none⟩) cs.toList := fun _ =>
  ⟨g, 0, rfl, fun j u hu => by rw [Nat.zero_add, h.cell]; simpa using hu⟩
theorem bcellB {B : Nat} {W w1 : World} (hb : Below B W w1) : ∀ b o, b < B → w1.cell? ⟨b, o, none⟩ = W.cell? ⟨b, o, none⟩ := fun b o h => hb.cell (p := ⟨b, o, none⟩) h
theorem own_empty (W : World) (base : Nat) (E : TypeId) (hb : base ≤ W.heap.size) : (W.alloc (.cells #[] E)).ownsRow base E 2 (.slice (some ⟨W.heap.size, 0, none⟩) 0 0) 0 [] :=
  World.ownsRow_lit W #[] 0 hb (by simp [maxLen]) (by simp)
theorem own_empty2 (W : World) (o : Obj) (base : Nat) (E : TypeId) (hb : base ≤ W.heap.size) : ((W.alloc o).alloc (.cells #[] E)).ownsRow base E 2 (.slice (some ⟨W.heap.size + 1, 0, none⟩) 0 0) 0 [] := by
  have h := own_empty (W.alloc o) base E (by simp; omega)
  rwa [World.size_alloc] at h
end Go.Proofs.YtlfnpkjfnafeaaaDoor
/- Strings: sums, and a string of one byte. -/
namespace Go.Proofs.YtlfnpkjfnafeaaaDoor
open Go.RowKit
theorem bytes_append (a b : List UInt8) : (⟨a.toArray⟩ : ByteArray) ++ ⟨b.toArray⟩ = ⟨(a ++ b).toArray⟩ := by
  apply ByteArray.ext
  simp
theorem conv_one {P : Program} (src dst e : TypeId) (hs : P.underlying src = some (.slice e)) (he : P.underlying e = some (.int .u8)) (hd : P.underlying dst = some .string) (W : World) (v : Int) :
    (convert src dst (.slice (some ⟨W.heap.size, 0, none⟩) 1 1)).run P (W.alloc (.cells #[.int .u8 v] e)) = .ok (.string ⟨#[UInt8.ofNat v.toNat]⟩) (W.alloc (.cells #[.int .u8 v] e)) := by
  rw [run_convert_bytes_string _ _ _ e _ _ _ hs he hd, run_bytesToString _ _ _ _ [v]]
  · rfl
  · have hc : (W.alloc (.cells #[.int .u8 v] e)).cell? ⟨W.heap.size, 0, none⟩ = some (.int .u8 v) := by rw [cell_of_row _ _ _ _ _ _ (heap_alloc_new W _)]; rfl
    simp [loadCells, go_sem, hc]
end Go.Proofs.YtlfnpkjfnafeaaaDoor
/- The walks of package amount and of its reference, fifth part: texts of amounts. -/
namespace Go.Proofs.YtlfnpkjfnafeaaaDoor
open Go.RowKit
theorem dig_cases {k : Int} (h0 : 0 ≤ k) (h9 : k ≤ 9) : k = 0 ∨ k = 1 ∨ k = 2 ∨ k = 3 ∨ k = 4 ∨ k = 5 ∨ k = 6 ∨ k = 7 ∨ k = 8 ∨ k = 9 := by omega
theorem small_c (k : Int) (h0 : 0 ≤ k) (h9 : k ≤ 9) (w : World) : Calls Tryd.prog 101 #[.int .i64 k] w fun e w' => e = .returned (.string ⟨(CL.dg1 k).toArray⟩) ∧ w = w' := by
  rcases dig_cases h0 h9 with rfl | rfl | rfl | rfl | rfl | rfl | rfl | rfl | rfl | rfl <;> clear h0 h9
  all_goals
    go_enter Tryd.func101, Tryd.ntmps101
    go_wp2
    go_ret
    exact ⟨rfl, rfl⟩
theorem fmtInt_c (k : Int) (h0 : 0 ≤ k) (h9 : k ≤ 9) (w : World) : Calls Tryd.prog 95 #[.int .i64 k, .int .i64 10] w fun e w' => e = .returned (.string ⟨(CL.dg1 k).toArray⟩) ∧ w = w' := by
  have h1 : k < 100 := by omega
  go_enter Tryd.func95, Tryd.ntmps95
  go_wp2_with (go_at_call 101; refine (small_c _ h0 h9 _).mono ?_; rintro e w' ⟨rfl, rfl⟩)
  go_ret
  exact ⟨rfl, rfl⟩
theorem iItoa_c (k : Int) (h0 : 0 ≤ k) (h9 : k ≤ 9) (w : World) : Calls Tryd.prog 76 #[.int .i64 k] w fun e w' => e = .returned (.string ⟨(CL.dg1 k).toArray⟩) ∧ w = w' := by
  go_enter Tryd.func76, Tryd.ntmps76
  go_wp2_with (go_at_call 95; refine (fmtInt_c _ h0 h9 _).mono ?_; rintro e w' ⟨rfl, rfl⟩)
  go_ret
  exact ⟨rfl, rfl⟩
theorem Itoa_c (k : Int) (h0 : 0 ≤ k) (h9 : k ≤ 9) (w : World) : Calls Tryd.prog 44 #[.int .i64 k] w fun e w' => e = .returned (.string ⟨(CL.dg1 k).toArray⟩) ∧ w = w' := by
  go_enter Tryd.func44, Tryd.ntmps44
  go_wp2_with (go_at_call 76; refine (iItoa_c _ h0 h9 _).mono ?_; rintro e w' ⟨rfl, rfl⟩)
  go_ret
  exact ⟨rfl, rfl⟩
theorem Decimal_d (k : Int) (h0 : 0 ≤ k) (h9 : k ≤ 9) (w : World) : Calls Tryd.prog 49 #[.int .i64 k] w fun e w' => e = .returned (.string ⟨(CL.dg1 k).toArray⟩) ∧ Ext w w' := by
  have hcv := conv_one (P := Tryd.prog) 80 9 5 Tryd.underlying80 Tryd.underlying5 Tryd.underlying9 w
  rcases dig_cases h0 h9 with rfl | rfl | rfl | rfl | rfl | rfl | rfl | rfl | rfl | rfl <;> clear h0 h9
  all_goals
    go_enter Tryd.func49, Tryd.ntmps49
    go_wp2
    go_ret
    exact ⟨rfl, Ext.new _ _⟩
theorem fmtA_z {a b : Int} (h1 : CL.zer ⟨a, b⟩ = true) : CL.fmtA ⟨a, b⟩ = [45] := by unfold CL.fmtA; rw [h1]; rfl
theorem fmtA_m {a : Int} (h1 : CL.zer ⟨a, 0⟩ = false) : CL.fmtA ⟨a, 0⟩ = CL.nm a := by unfold CL.fmtA; rw [h1]; rfl
theorem fmtA_u {b : Int} (h1 : CL.zer ⟨0, b⟩ = false) (h2 : b ≠ 0) (h4 : 1 ≤ b) (h5 : b ≤ 8) : CL.fmtA ⟨0, b⟩ = 42 :: CL.dg1 b := by
  unfold CL.fmtA; rw [h1]; simp [h2, h4, h5]
theorem fmtA_n {a b : Int} (h1 : CL.zer ⟨a, b⟩ = false) (h2 : b ≠ 0) (h4 : ¬ (a = 0 ∧ 1 ≤ b ∧ b ≤ 8)) : CL.fmtA ⟨a, b⟩ = [] := by
  unfold CL.fmtA; rw [h1]; simp only [h2, h4, if_false, Bool.false_eq_true]
theorem dg1_len (k : Int) : (CL.dg1 k).length = 1 := rfl
theorem ret_star {l m : List UInt8} (h : m = 42 :: l) : Ending.returned (.string (⟨#[42]⟩ ++ ⟨l.toArray⟩)) = .returned (.string ⟨m.toArray⟩) := by
  rw [h, show (⟨#[42]⟩ : ByteArray) ++ ⟨l.toArray⟩ = _ from bytes_append [42] l]; rfl
set_option maxHeartbeats 800000 in
theorem amount.Format_c (a b : Int) (w : World) : Calls Tryd.prog 74 #[.agg #[.int .i64 a, .int .i64 b]] w fun e w' => e = .returned (.string ⟨(CL.fmtA ⟨a, b⟩).toArray⟩) ∧ Ext w w' := by
  by_cases z : CL.zer ⟨a, b⟩ = true
  · have HA := Lib.hid (fmtA_z z)
    go_enter Tryd.func74, Tryd.ntmps74
    go_wp2_with (first
        | (go_at_call 92; refine (amount.Zero_c _ _ _).mono ?_; rintro e w' ⟨rfl, hx1⟩; have hx := Ext.tr (a := w) (by go_grown) hx1; have hz := hx.size; obtain ⟨hc1, hf1⟩ := bcell hx1; have hz1 := hx1.size; (try simp only [World.size_alloc] at hz1); (try have hl0 : w.heap.size < w'.heap.size := by omega); (try have hl1 : w.heap.size + 1 < w'.heap.size := by omega); (try have hl2 : w.heap.size + 1 + 1 < w'.heap.size := by omega); (try have hl3 : w.heap.size + 1 + 1 + 1 < w'.heap.size := by omega); clear hx1))
    go_ret
    exact ⟨ret_str HA.out.symm, by go_grown⟩
  · simp only [Bool.not_eq_true] at z
    by_cases hb : b = 0
    · subst hb
      have HA := Lib.hid (fmtA_m z)
      go_enter Tryd.func74, Tryd.ntmps74
      go_wp2_with (first
        | (go_at_call 92; refine (amount.Zero_c _ _ _).mono ?_; rintro e w' ⟨rfl, hx1⟩; have hx := Ext.tr (a := w) (by go_grown) hx1; have hz := hx.size; obtain ⟨hc1, hf1⟩ := bcell hx1; have hz1 := hx1.size; (try simp only [World.size_alloc] at hz1); (try have hl0 : w.heap.size < w'.heap.size := by omega); (try have hl1 : w.heap.size + 1 < w'.heap.size := by omega); (try have hl2 : w.heap.size + 1 + 1 < w'.heap.size := by omega); (try have hl3 : w.heap.size + 1 + 1 + 1 < w'.heap.size := by omega); clear hx1)
        | (go_at_call 93; refine (Go.Proofs.YtlfnpkjfnafeaaaDoor.Format_c _ _).mono ?_; rintro e w' ⟨rfl, rfl⟩))
      go_ret
      exact ⟨ret_str HA.out.symm, by go_grown⟩
    · have hb0 : (b == 0) = false := by simpa using hb
      by_cases hg : a = 0 ∧ 1 ≤ b ∧ b ≤ 8
      · obtain ⟨rfl, h1, h8⟩ := hg
        have HA := Lib.hid (fmtA_u z hb h1 h8)
        have hl := dg1_len b
        clear hb
        go_enter Tryd.func74, Tryd.ntmps74
        go_wp2_with (first
        | (go_at_call 92; refine (amount.Zero_c _ _ _).mono ?_; rintro e w' ⟨rfl, hx1⟩; have hx := Ext.tr (a := w) (by go_grown) hx1; have hz := hx.size; obtain ⟨hc1, hf1⟩ := bcell hx1; have hz1 := hx1.size; (try simp only [World.size_alloc] at hz1); (try have hl0 : w.heap.size < w'.heap.size := by omega); (try have hl1 : w.heap.size + 1 < w'.heap.size := by omega); (try have hl2 : w.heap.size + 1 + 1 < w'.heap.size := by omega); (try have hl3 : w.heap.size + 1 + 1 + 1 < w'.heap.size := by omega); clear hx1)
        | (go_at_call 44; refine (Itoa_c _ (by omega) (by omega) _).mono ?_; rintro e w' ⟨rfl, rfl⟩))
        go_ret
        exact ⟨ret_star HA.out, by go_grown⟩
      · have HA := Lib.hid (fmtA_n z hb hg)
        clear hb
        by_cases ha : a = 0
        · subst ha
          by_cases h1 : 1 ≤ b
          · have h8 : ¬ b ≤ 8 := fun h => hg ⟨rfl, h1, h⟩
            clear hg
            go_enter Tryd.func74, Tryd.ntmps74
            go_wp2_with (first
        | (go_at_call 92; refine (amount.Zero_c _ _ _).mono ?_; rintro e w' ⟨rfl, hx1⟩; have hx := Ext.tr (a := w) (by go_grown) hx1; have hz := hx.size; obtain ⟨hc1, hf1⟩ := bcell hx1; have hz1 := hx1.size; (try simp only [World.size_alloc] at hz1); (try have hl0 : w.heap.size < w'.heap.size := by omega); (try have hl1 : w.heap.size + 1 < w'.heap.size := by omega); (try have hl2 : w.heap.size + 1 + 1 < w'.heap.size := by omega); (try have hl3 : w.heap.size + 1 + 1 + 1 < w'.heap.size := by omega); clear hx1))
            go_ret
            exact ⟨ret_str HA.out.symm, by go_grown⟩
          · clear hg
            go_enter Tryd.func74, Tryd.ntmps74
            go_wp2_with (first
        | (go_at_call 92; refine (amount.Zero_c _ _ _).mono ?_; rintro e w' ⟨rfl, hx1⟩; have hx := Ext.tr (a := w) (by go_grown) hx1; have hz := hx.size; obtain ⟨hc1, hf1⟩ := bcell hx1; have hz1 := hx1.size; (try simp only [World.size_alloc] at hz1); (try have hl0 : w.heap.size < w'.heap.size := by omega); (try have hl1 : w.heap.size + 1 < w'.heap.size := by omega); (try have hl2 : w.heap.size + 1 + 1 < w'.heap.size := by omega); (try have hl3 : w.heap.size + 1 + 1 + 1 < w'.heap.size := by omega); clear hx1))
            go_ret
            exact ⟨ret_str HA.out.symm, by go_grown⟩
        · have ha0 : (a == 0) = false := by simpa using ha
          clear hg ha
          go_enter Tryd.func74, Tryd.ntmps74
          go_wp2_with (first
        | (go_at_call 92; refine (amount.Zero_c _ _ _).mono ?_; rintro e w' ⟨rfl, hx1⟩; have hx := Ext.tr (a := w) (by go_grown) hx1; have hz := hx.size; obtain ⟨hc1, hf1⟩ := bcell hx1; have hz1 := hx1.size; (try simp only [World.size_alloc] at hz1); (try have hl0 : w.heap.size < w'.heap.size := by omega); (try have hl1 : w.heap.size + 1 < w'.heap.size := by omega); (try have hl2 : w.heap.size + 1 + 1 < w'.heap.size := by omega); (try have hl3 : w.heap.size + 1 + 1 + 1 < w'.heap.size := by omega); clear hx1))
          go_ret
          exact ⟨ret_str HA.out.symm, by go_grown⟩
set_option maxHeartbeats 800000 in
theorem clusterlocksref04.Format_c (a b : Int) (w : World) : Calls Tryd.prog 79 #[.agg #[.int .i64 a, .int .i64 b]] w fun e w' => e = .returned (.string ⟨(CL.fmtA ⟨a, b⟩).toArray⟩) ∧ Ext w w' := by
  by_cases z : CL.zer ⟨a, b⟩ = true
  · have HA := Lib.hid (fmtA_z z)
    go_enter Tryd.func79, Tryd.ntmps79
    go_wp2_with (first
        | (go_at_call 97; refine (clusterlocksref04.Zero_c _ _ _).mono ?_; rintro e w' ⟨rfl, hx1⟩; have hx := Ext.tr (a := w) (by go_grown) hx1; have hz := hx.size; obtain ⟨hc1, hf1⟩ := bcell hx1; have hz1 := hx1.size; (try simp only [World.size_alloc] at hz1); (try have hl0 : w.heap.size < w'.heap.size := by omega); (try have hl1 : w.heap.size + 1 < w'.heap.size := by omega); (try have hl2 : w.heap.size + 1 + 1 < w'.heap.size := by omega); (try have hl3 : w.heap.size + 1 + 1 + 1 < w'.heap.size := by omega); clear hx1))
    go_ret
    exact ⟨ret_str HA.out.symm, by go_grown⟩
  · simp only [Bool.not_eq_true] at z
    by_cases hb : b = 0
    · subst hb
      have HA := Lib.hid (fmtA_m z)
      go_enter Tryd.func79, Tryd.ntmps79
      go_wp2_with (first
        | (go_at_call 97; refine (clusterlocksref04.Zero_c _ _ _).mono ?_; rintro e w' ⟨rfl, hx1⟩; have hx := Ext.tr (a := w) (by go_grown) hx1; have hz := hx.size; obtain ⟨hc1, hf1⟩ := bcell hx1; have hz1 := hx1.size; (try simp only [World.size_alloc] at hz1); (try have hl0 : w.heap.size < w'.heap.size := by omega); (try have hl1 : w.heap.size + 1 < w'.heap.size := by omega); (try have hl2 : w.heap.size + 1 + 1 < w'.heap.size := by omega); (try have hl3 : w.heap.size + 1 + 1 + 1 < w'.heap.size := by omega); clear hx1)
        | (go_at_call 80; refine (Go.Proofs.YtlfnpkjfnafeaaaDoor.RFormat_c _ _).mono ?_; rintro e w' ⟨rfl, rfl⟩))
      go_ret
      exact ⟨ret_str HA.out.symm, by go_grown⟩
    · have hb0 : (b == 0) = false := by simpa using hb
      by_cases hg : a = 0 ∧ 1 ≤ b ∧ b ≤ 8
      · obtain ⟨rfl, h1, h8⟩ := hg
        have HA := Lib.hid (fmtA_u z hb h1 h8)
        have hl := dg1_len b
        clear hb
        go_enter Tryd.func79, Tryd.ntmps79
        go_wp2_with (first
        | (go_at_call 97; refine (clusterlocksref04.Zero_c _ _ _).mono ?_; rintro e w' ⟨rfl, hx1⟩; have hx := Ext.tr (a := w) (by go_grown) hx1; have hz := hx.size; obtain ⟨hc1, hf1⟩ := bcell hx1; have hz1 := hx1.size; (try simp only [World.size_alloc] at hz1); (try have hl0 : w.heap.size < w'.heap.size := by omega); (try have hl1 : w.heap.size + 1 < w'.heap.size := by omega); (try have hl2 : w.heap.size + 1 + 1 < w'.heap.size := by omega); (try have hl3 : w.heap.size + 1 + 1 + 1 < w'.heap.size := by omega); clear hx1)
        | (go_at_call 49; refine (Decimal_d _ (by omega) (by omega) _).mono ?_; rintro e w' ⟨rfl, hx1⟩; have hx := Ext.tr (a := w) (by go_grown) hx1; have hz := hx.size; obtain ⟨hc1, hf1⟩ := bcell hx1; have hz1 := hx1.size; (try simp only [World.size_alloc] at hz1); (try have hl0 : w.heap.size < w'.heap.size := by omega); (try have hl1 : w.heap.size + 1 < w'.heap.size := by omega); (try have hl2 : w.heap.size + 1 + 1 < w'.heap.size := by omega); (try have hl3 : w.heap.size + 1 + 1 + 1 < w'.heap.size := by omega); clear hx1))
        go_ret
        exact ⟨ret_star HA.out, by go_grown⟩
      · have HA := Lib.hid (fmtA_n z hb hg)
        clear hb
        by_cases ha : a = 0
        · subst ha
          by_cases h1 : 1 ≤ b
          · have h8 : ¬ b ≤ 8 := fun h => hg ⟨rfl, h1, h⟩
            clear hg
            go_enter Tryd.func79, Tryd.ntmps79
            go_wp2_with (first
        | (go_at_call 97; refine (clusterlocksref04.Zero_c _ _ _).mono ?_; rintro e w' ⟨rfl, hx1⟩; have hx := Ext.tr (a := w) (by go_grown) hx1; have hz := hx.size; obtain ⟨hc1, hf1⟩ := bcell hx1; have hz1 := hx1.size; (try simp only [World.size_alloc] at hz1); (try have hl0 : w.heap.size < w'.heap.size := by omega); (try have hl1 : w.heap.size + 1 < w'.heap.size := by omega); (try have hl2 : w.heap.size + 1 + 1 < w'.heap.size := by omega); (try have hl3 : w.heap.size + 1 + 1 + 1 < w'.heap.size := by omega); clear hx1))
            go_ret
            exact ⟨ret_str HA.out.symm, by go_grown⟩
          · clear hg
            go_enter Tryd.func79, Tryd.ntmps79
            go_wp2_with (first
        | (go_at_call 97; refine (clusterlocksref04.Zero_c _ _ _).mono ?_; rintro e w' ⟨rfl, hx1⟩; have hx := Ext.tr (a := w) (by go_grown) hx1; have hz := hx.size; obtain ⟨hc1, hf1⟩ := bcell hx1; have hz1 := hx1.size; (try simp only [World.size_alloc] at hz1); (try have hl0 : w.heap.size < w'.heap.size := by omega); (try have hl1 : w.heap.size + 1 < w'.heap.size := by omega); (try have hl2 : w.heap.size + 1 + 1 < w'.heap.size := by omega); (try have hl3 : w.heap.size + 1 + 1 + 1 < w'.heap.size := by omega); clear hx1))
            go_ret
            exact ⟨ret_str HA.out.symm, by go_grown⟩
        · have ha0 : (a == 0) = false := by simpa using ha
          clear hg ha
          go_enter Tryd.func79, Tryd.ntmps79
          go_wp2_with (first
        | (go_at_call 97; refine (clusterlocksref04.Zero_c _ _ _).mono ?_; rintro e w' ⟨rfl, hx1⟩; have hx := Ext.tr (a := w) (by go_grown) hx1; have hz := hx.size; obtain ⟨hc1, hf1⟩ := bcell hx1; have hz1 := hx1.size; (try simp only [World.size_alloc] at hz1); (try have hl0 : w.heap.size < w'.heap.size := by omega); (try have hl1 : w.heap.size + 1 < w'.heap.size := by omega); (try have hl2 : w.heap.size + 1 + 1 < w'.heap.size := by omega); (try have hl3 : w.heap.size + 1 + 1 + 1 < w'.heap.size := by omega); clear hx1))
          go_ret
          exact ⟨ret_str HA.out.symm, by go_grown⟩
end Go.Proofs.YtlfnpkjfnafeaaaDoor
