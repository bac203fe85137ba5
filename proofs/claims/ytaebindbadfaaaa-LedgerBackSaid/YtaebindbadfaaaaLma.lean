
/- Ledger: the walks of the reference's Same and SameAtoms. -/
import Derived.Test.YtaebindbadfaaaaLf
namespace Go.Proofs.Ytaebindbadfaaaa
open Go.RowKit
set_option linter.unusedVariables false
set_option linter.unusedSimpArgs false
theorem env_eqIn (x y : CL.En) (W : World) : (Op.equalIn 10000 33 (.agg #[.string ⟨x.n.toArray⟩, .int .i64 x.b.m, .int .i64 x.b.u, .int .i64 x.a.m, .int .i64 x.a.u]) (.agg #[.string ⟨y.n.toArray⟩, .int .i64 y.b.m, .int .i64 y.b.u, .int .i64 y.a.m, .int .i64 y.a.u])).run Try.prog W = .ok (decide (x = y)) W := by
  have h1 : Try.prog.stoodInHeld 33 = false := by kernel_rfl
  obtain ⟨s, ⟨a, b⟩, ⟨c, d⟩⟩ := x
  obtain ⟨t, ⟨a', b'⟩, ⟨c', d'⟩⟩ := y
  rw [run_equalIn_struct (d := 9999) _ _ _ _ (by simp [Program.fieldsOf, Try.underlying33]) h1]
  simp [Program.fieldsOf, Try.underlying33, Op.eqFields, go_sem, Try.underlying9]
  by_cases e0 : s = t <;> by_cases e1 : a = a' <;> by_cases e2 : b = b' <;> by_cases e3 : c = c' <;> by_cases e4 : d = d' <;> simp [e0, e1, e2, e3, e4]
theorem env_neq (x y : CL.En) (W : World) : (binOp .neq 33 (.agg #[.string ⟨x.n.toArray⟩, .int .i64 x.b.m, .int .i64 x.b.u, .int .i64 x.a.m, .int .i64 x.a.u]) (.agg #[.string ⟨y.n.toArray⟩, .int .i64 y.b.m, .int .i64 y.b.u, .int .i64 y.a.m, .int .i64 y.a.u])).run Try.prog W = .ok (.bool (!decide (x = y))) W := by
  rw [run_neq_struct, env_eqIn]; rfl
theorem env_guard : Try.prog.eqGuardType Try.prog.depth 33 = false := by kernel_rfl
theorem svv_eqIn (x y : CL.Sv) (W : World) : (Op.equalIn 10000 69 (.agg #[.int .i64 x.l, .int .i64 x.t]) (.agg #[.int .i64 y.l, .int .i64 y.t])).run Try.prog W = .ok (decide (x = y)) W := by
  have h1 : Try.prog.stoodInHeld 69 = false := by kernel_rfl
  obtain ⟨a, b⟩ := x
  obtain ⟨c, d⟩ := y
  rw [run_equalIn_struct (d := 9999) _ _ _ _ (by simp [Program.fieldsOf, Try.underlying69]) h1]
  simp [Program.fieldsOf, Try.underlying69, Op.eqFields, go_sem, Try.underlying3]
  by_cases e1 : a = c <;> by_cases e2 : b = d <;> simp [e1, e2]
theorem svv_neq (x y : CL.Sv) (W : World) : (binOp .neq 69 (.agg #[.int .i64 x.l, .int .i64 x.t]) (.agg #[.int .i64 y.l, .int .i64 y.t])).run Try.prog W = .ok (.bool (!decide (x = y))) W := by
  rw [run_neq_struct, svv_eqIn]; rfl
theorem svv_guard : Try.prog.eqGuardType Try.prog.depth 69 = false := by kernel_rfl
set_option maxHeartbeats 1600000 in
theorem SameAtoms13_c (a b : List CL.At) (A B : Option Addr) (c d : Nat) (w : World) (ha : a.length ≤ 2048) (hb : b.length ≤ 2048) (hA : Sits w A (ats a)) (hB : Sits w B (ats b)) :
    Calls Try.prog 52 #[.slice A a.length c, .slice B b.length d] w fun e w' => e = .returned (.bool (decide (a = b))) ∧ Ext w w' := by
  by_cases hl : a.length = b.length
  · have h1 : ((a.length : Int) != (b.length : Int)) = false := by simp [hl]
    go_enter Try.func52, Try.ntmps52
    go_wp2
    go_loopw [5] (fun i wr => ∃ k : Nat, k ≤ a.length ∧ i = .int .i64 k ∧ a.take k = b.take k ∧ Ext w wr) (fun i _ => a.length - (intOf i).toNat)
    case atStart => exact ⟨0, by omega, rfl, rfl, Ext.rfl'⟩
    case round =>
      obtain ⟨k, hk, rfl, he, hx⟩ := hrel
      obtain ⟨wo, rfl⟩ : ∃ wo : World, wo = wr := ⟨_, rfl⟩
      by_cases hlt : k < a.length
      · have hlt2 : k < b.length := by omega
        obtain ⟨p, o, rfl, a0, a1, a2⟩ := (hA.ext hx).atoms hlt
        obtain ⟨p', o', rfl, b0, b1, b2⟩ := (hB.ext hx).atoms hlt2
        have HE := Lib.hid he
        clear he hA hB
        generalize hta : a[k] = x at *
        generalize htb : b[k] = y at *
        have HTA := Lib.hid hta
        have HTB := Lib.hid htb
        have HL := Lib.hid hl
        clear hta htb hl
        have hq := at_neq x.n y.n x.a.m x.a.u y.a.m y.a.u
        have hgd := at_guard
        by_cases hxy : x = y
        · have hd : decide ((⟨x.n, ⟨x.a.m, x.a.u⟩⟩ : CL.At) = ⟨y.n, ⟨y.a.m, y.a.u⟩⟩) = true := decide_eq_true (show x = y from hxy)
          have HXY := Lib.hid hxy
          clear hxy
          simp only [hd] at hq
          clear hd
          go_wp2_with fail
          go_quiet (fail)
          go_wp2
          go_roundw
          case rel =>
            refine ⟨k + 1, by omega, by go_num, ?_, hx.drewN _⟩
            rw [List.take_succ_eq_append_getElem hlt, List.take_succ_eq_append_getElem hlt2, HE.out, HTA.out, HTB.out, HXY.out]
          case measure => simp [intOf]; omega
        · have hd : decide ((⟨x.n, ⟨x.a.m, x.a.u⟩⟩ : CL.At) = ⟨y.n, ⟨y.a.m, y.a.u⟩⟩) = false := decide_eq_false (show ¬ x = y from hxy)
          have HN := Lib.hid (show decide (a = b) = false by
            simp only [decide_eq_false_iff_not]
            rintro rfl
            exact hxy (HTA.out.symm.trans HTB.out))
          clear hxy
          simp only [hd] at hq
          clear hd
          go_wp2_with fail
          go_quiet (fail)
          go_wp2
          go_ret
          exact ⟨ret_bool HN.out.symm, hx.drewN _⟩
      · have HN := Lib.hid (show decide (a = b) = true by
          simp only [decide_eq_true_eq]
          rw [List.take_of_length_le (by omega), List.take_of_length_le (by omega)] at he
          exact he)
        go_wp2
        go_ret
        exact ⟨ret_bool HN.out.symm, hx⟩
  · have h1 : ((a.length : Int) != (b.length : Int)) = true := by simp; omega
    have hne := Lib.hid (show decide (a = b) = false by simp; intro e; exact hl (by rw [e]))
    clear hl
    go_enter Try.func52, Try.ntmps52
    go_wp2
    go_ret
    exact ⟨ret_bool hne.out.symm, Ext.rfl'⟩
theorem SameAtoms_c (a b : List CL.At) (A B : Option Addr) (c d : Nat) (w : World) (ha : a.length ≤ 2048) (hb : b.length ≤ 2048) (hA : Sits w A (ats a)) (hB : Sits w B (ats b)) :
    Calls Try.prog 25 #[.slice A a.length c, .slice B b.length d] w fun e w' => e = .returned (.bool (decide (a = b))) ∧ Ext w w' := by
  go_enter Try.func25, Try.ntmps25
  go_wp2_with (go_at_call 52; (with_reducible refine (SameAtoms13_c a b A B c d _ ha hb hA hB).mono ?_); rintro e w' ⟨rfl, hx⟩)
  go_ret
  exact ⟨rfl, hx⟩
set_option maxHeartbeats 3200000 in
set_option maxRecDepth 100000 in
theorem Same14_c (a b : CL.Lg) (va vb : Value) (w : World) (ha : a.es.length ≤ 2048 ∧ a.ss.length ≤ 2048) (hb : b.es.length ≤ 2048 ∧ b.ss.length ≤ 2048) (hva : LgV w va a) (hvb : LgV w vb b) :
    Calls Try.prog 22 #[va, vb] w fun e w' => e = .returned (.bool (decide (a = b))) ∧ Ext w w' := by
  obtain ⟨A, c, A', c', rfl, h1, h2, _⟩ := hva
  obtain ⟨B, d, B', d', rfl, k1, k2, _⟩ := hvb
  obtain ⟨es, ss⟩ := a
  obtain ⟨et, st⟩ := b
  obtain ⟨ha1, ha2⟩ := ha
  obtain ⟨hb1, hb2⟩ := hb
  simp only at h1 h2 k1 k2 ha1 ha2 hb1 hb2
  have HQ := Lib.hid (show decide ((⟨es, ss⟩ : CL.Lg) = ⟨et, st⟩) = (decide (es = et) && decide (ss = st)) by
    by_cases e1 : es = et <;> by_cases e2 : ss = st <;> simp [e1, e2])
  rw [HQ.out]
  by_cases hl : es.length = et.length
  · by_cases hl2 : ss.length = st.length
    · have h1' : ((es.length : Int) != (et.length : Int)) = false := by simp [hl]
      have h2' : ((ss.length : Int) != (st.length : Int)) = false := by simp [hl2]
      have HL1 := Lib.hid hl
      have HL2 := Lib.hid hl2
      clear hl hl2
      go_enter Try.func22, Try.ntmps22
      go_wp2_with fail
      obtain ⟨b1, b2, hx0⟩ := two_rows w #[.slice A es.length c, .slice A' ss.length c'] 31 #[.slice B et.length d, .slice B' st.length d'] 31
      generalize ((w.alloc (.cells #[.slice A es.length c, .slice A' ss.length c'] 31)).alloc (.cells #[.slice B et.length d, .slice B' st.length d'] 31)) = W at *
      replace h1 := h1.ext hx0
      replace h2 := h2.ext hx0
      replace k1 := k1.ext hx0
      replace k2 := k2.ext hx0
      obtain ⟨x0, x1⟩ := b1.c2
      obtain ⟨y0, y1⟩ := b2.c2
      go_wp2_with fail
      go_loopw [5] (fun i wr => ∃ k : Nat, k ≤ es.length ∧ i = .int .i64 k ∧ Hid (es.take k = et.take k) ∧ Ext W wr) (fun i _ => es.length - (intOf i).toNat)
      case atStart => exact ⟨0, by omega, rfl, Lib.hid rfl, Ext.rfl'⟩
      case round =>
        obtain ⟨k, hk, rfl, HE, hx⟩ := hrel
        obtain ⟨x0, x1⟩ := (b1.ext hx).c2
        obtain ⟨y0, y1⟩ := (b2.ext hx).c2
        by_cases hlt : k < es.length
        · have hlt2 : k < et.length := by have := HL1.out; omega
          obtain ⟨p, o, rfl, a0, a1, a2, a3, a4⟩ := (h1.ext hx).ens hlt
          obtain ⟨p', o', rfl, b0, b1, b2, b3, b4⟩ := (k1.ext hx).ens hlt2
          generalize hta : es[k] = x at *
          generalize htb : et[k] = y at *
          have HTA := Lib.hid hta
          have HTB := Lib.hid htb
          clear hta htb
          have hq := env_neq x y
          have hgd := env_guard
          by_cases hxy : x = y
          · have hd : decide (x = y) = true := by simpa using hxy
            have HXY := Lib.hid hxy
            clear hxy
            go_wp2_with fail
            go_quiet (fail)
            go_wp2
            go_roundw
            case rel =>
              refine ⟨k + 1, by omega, by go_num, ?_, hx.drewN _⟩
              refine Lib.hid ?_
              rw [List.take_succ_eq_append_getElem hlt, List.take_succ_eq_append_getElem hlt2, HE.out, HTA.out, HTB.out, HXY.out]
            case measure => simp [intOf]; omega
          · have hd : decide (x = y) = false := by simpa using hxy
            have HN := Lib.hid (show (decide (es = et) && decide (ss = st)) = false by
              simp only [Bool.and_eq_false_iff, decide_eq_false_iff_not]
              exact .inl (fun e => hxy (by rw [← HTA.out, ← HTB.out]; simp [e])))
            clear hxy
            go_wp2_with fail
            go_quiet (fail)
            go_wp2
            go_ret
            exact ⟨ret_bool HN.out.symm, hx0.tr (hx.drewN _)⟩
        · have HN := Lib.hid (show es = et by
            have he := HE.out
            rw [List.take_of_length_le (by omega), List.take_of_length_le (by have := HL1.out; omega)] at he
            exact he)
          have HN1 := HN
          clear HN
          have hy := hx
          go_wp2_with fail
          go_loopw [6] (fun i wr => ∃ k : Nat, k ≤ ss.length ∧ i = .int .i64 k ∧ Hid (ss.take k = st.take k) ∧ Ext W wr) (fun i _ => ss.length - (intOf i).toNat)
          case atStart => exact ⟨0, by omega, rfl, Lib.hid rfl, hy⟩
          case round =>
            obtain ⟨k, hk, rfl, HE, hx⟩ := hrel
            obtain ⟨x0, x1⟩ := (b1.ext hx).c2
            obtain ⟨y0, y1⟩ := (b2.ext hx).c2
            by_cases hlt : k < ss.length
            · have hlt2 : k < st.length := by have := HL2.out; omega
              obtain ⟨p, o, rfl, a0, a1⟩ := (h2.ext hx).svl hlt
              obtain ⟨p', o', rfl, b0, b1⟩ := (k2.ext hx).svl hlt2
              generalize hta : ss[k] = x at *
              generalize htb : st[k] = y at *
              have HTA := Lib.hid hta
              have HTB := Lib.hid htb
              clear hta htb
              have hq := svv_neq x y
              have hgd := svv_guard
              by_cases hxy : x = y
              · have hd : decide (x = y) = true := by simpa using hxy
                have HXY := Lib.hid hxy
                clear hxy
                go_wp2_with fail
                go_quiet (fail)
                go_wp2
                go_roundw
                case rel =>
                  refine ⟨k + 1, by omega, by go_num, ?_, hx.drewN _⟩
                  refine Lib.hid ?_
                  rw [List.take_succ_eq_append_getElem hlt, List.take_succ_eq_append_getElem hlt2, HE.out, HTA.out, HTB.out, HXY.out]
                case measure => simp [intOf]; omega
              · have hd : decide (x = y) = false := by simpa using hxy
                have HN := Lib.hid (show (decide (es = et) && decide (ss = st)) = false by
                  simp only [Bool.and_eq_false_iff, decide_eq_false_iff_not]
                  exact .inr (fun e => hxy (by rw [← HTA.out, ← HTB.out]; simp [e])))
                clear hxy
                go_wp2_with fail
                go_quiet (fail)
                go_wp2
                go_ret
                exact ⟨ret_bool HN.out.symm, hx0.tr (hx.drewN _)⟩
            · have HN := Lib.hid (show ss = st by
                have he := HE.out
                rw [List.take_of_length_le (by omega), List.take_of_length_le (by have := HL2.out; omega)] at he
                exact he)
              go_wp2
              go_ret
              exact ⟨ret_bool (by rw [HN1.out, HN.out]; simp), hx0.tr hx⟩
    · have HN := Lib.hid (show (decide (es = et) && decide (ss = st)) = false by
        simp only [Bool.and_eq_false_iff, decide_eq_false_iff_not]
        exact .inr (fun e => hl2 (by rw [e])))
      have h1' : ((es.length : Int) != (et.length : Int)) = false := by simp [hl]
      have h2' : ((ss.length : Int) != (st.length : Int)) = true := by simp; omega
      clear hl hl2
      go_enter Try.func22, Try.ntmps22
      go_wp2
      go_ret
      exact ⟨ret_bool HN.out.symm, by go_grown⟩
  · have HN := Lib.hid (show (decide (es = et) && decide (ss = st)) = false by
      simp only [Bool.and_eq_false_iff, decide_eq_false_iff_not]
      exact .inl (fun e => hl (by rw [e])))
    have h1' : ((es.length : Int) != (et.length : Int)) = true := by simp; omega
    clear hl
    go_enter Try.func22, Try.ntmps22
    go_wp2
    go_ret
    exact ⟨ret_bool HN.out.symm, by go_grown⟩
end Go.Proofs.Ytaebindbadfaaaa
