
/- Catalogs: the walks of the reference's Valid and Find, of sort.Search with the closure of place, of place. -/
import Derived.Test.YtmboojbhnmdnkaaCt
namespace Go.Proofs.Ytmboojbhnmdnkaa
open Go.RowKit
set_option linter.unusedVariables false
set_option maxHeartbeats 1600000 in
theorem clusterlocksref05.Valid_c (l : List CL.Re) (A : Option Addr) (c : Nat) (w : World) (hl : l.length ≤ maxLen) (hn : ∀ r ∈ l, r.n.length ≤ maxLen) (hr : Sits w A (recs l)) : Calls Try.prog 54 #[.slice A l.length c] w fun e w' => e = .returned (.bool (CL.vcat l)) ∧ Ext w w' := by
  unfold maxLen at hl
  by_cases h8 : l.length ≤ 8
  · have HV := Lib.hid (CL.VTo.zero l)
    go_enter Try.func54, Try.ntmps54
    go_wp2
    go_loopw [3] (fun i wr => ∃ j : Nat, j ≤ l.length ∧ i = .int .i64 j ∧ Ext w wr ∧ Hid (CL.VTo l j)) (fun i _ => l.length - (intOf i).toNat)
    case atStart => exact ⟨0, by omega, rfl, Ext.rfl', HV⟩
    case round =>
      obtain ⟨j, hj, rfl, hy, HJ⟩ := hrel
      by_cases hlt : j < l.length
      · obtain ⟨b, o, rfl, c0, c1, c2, c3⟩ := (hr.ext hy).recs hlt
        have hnj := hn _ (List.getElem_mem hlt)
        have HB := Lib.hid (fun h => CL.vcat_bad hlt h)
        have HS := Lib.hid (fun h1 h2 => HJ.out.step hlt h1 h2)
        have HO := Lib.hid (fun h0 h => CL.vcat_ord hlt h0 h)
        cases hv : CL.vres l[j]
        · have HF := Lib.hid (HB.out hv)
          have q0 := ExtOf.cell c0
          have q1 := ExtOf.cell c1
          have q2 := ExtOf.cell c2
          have q3 := ExtOf.cell c3
          clear c0 c1 c2 c3
          go_wp2_with fail
          refine wp_region_ext_lit (by kernel_rfl) (by kernel_rfl) ?_
          repeat (go_big_quiet_step ((go_at_call 69; exact xqX (clusterlocksref05.ValidResource_c l[j] _ hnj))))
          refine wpQuiet_nil ?_
          intro wq hw'
          obtain ⟨⟨wq', hxq⟩, hw''⟩ := hw'
          subst hw''
          go_wp2
          go_ret
          exact ⟨ret_bool HF.out.symm, hy.tr hxq⟩
        · rcases Nat.eq_zero_or_pos j with hj0 | hj0
          · subst hj0
            have HS2 := Lib.hid (HS.out hv (fun h => by omega))
            generalize hlj : l[0] = r0 at *
            have HLJ := Lib.hid hlj
            clear hlj
            simp only [Nat.zero_mul, Nat.add_zero] at c0 c1 c2 c3
            have q0 := ExtOf.cell c0
            have q1 := ExtOf.cell c1
            have q2 := ExtOf.cell c2
            have q3 := ExtOf.cell c3
            clear c0 c1 c2 c3
            go_wp2_with fail
            refine wp_region_ext_lit (by kernel_rfl) (by kernel_rfl) ?_
            repeat (go_big_quiet_step ((go_at_call 69; exact xqX (clusterlocksref05.ValidResource_c r0 _ hnj))))
            refine wpQuiet_nil ?_
            intro wq hw'
            obtain ⟨⟨wq', hxq⟩, hw''⟩ := hw'
            subst hw''
            go_wp2
            exact ⟨⟨1, by omega, rfl, hy.tr hxq, HS2⟩, by simp [intOf]; omega⟩
          · obtain ⟨b', o', e', d0, d1, d2, d3⟩ := (hr.ext hy).recs (show j - 1 < l.length by omega)
            injection e' with e'
            injection e' with e1' e2'
            subst e1' e2'
            have g1 : IntKind.i64.wrap ((j : Int) - 1) = (j : Int) - 1 := IntWalk.i64_in _ (by omega)
            have g2 : (1 : Int) ≤ (j : Int) := by omega
            have g3 : ((j : Int) - 1).toNat = j - 1 := by omega
            have g4 : (j : Int) - 1 < (l.length : Int) := by omega
            have g5 : 0 ≤ (j : Int) - 1 := by omega
            have HS2 := Lib.hid (fun (h : Go.Op.bytesLess (l[j - 1]'(by omega)).n l[j].n = true) => HS.out hv (fun _ => h))
            have HO2 := Lib.hid (HO.out hj0)
            generalize (l[j - 1]'(by omega)).n = m1 at *
            generalize l[j] = r0 at *
            have q0 := ExtOf.cell c0
            have q1 := ExtOf.cell c1
            have q2 := ExtOf.cell c2
            have q3 := ExtOf.cell c3
            have q4 := ExtOf.cell d0
            clear c0 c1 c2 c3 d0 d1 d2 d3
            cases hbl : Go.Op.bytesLess m1 r0.n
            · have HF := Lib.hid (HO2.out hbl)
              go_wp2_with fail
              refine wp_region_ext_lit (by kernel_rfl) (by kernel_rfl) ?_
              repeat (go_big_quiet_step ((go_at_call 69; exact xqX (clusterlocksref05.ValidResource_c r0 _ hnj))))
              refine wpQuiet_nil ?_
              intro wq hw'
              obtain ⟨⟨wq', hxq⟩, hw''⟩ := hw'
              subst hw''
              go_wp2
              go_ret
              exact ⟨ret_bool HF.out.symm, hy.tr hxq⟩
            · have HF := Lib.hid (HS2.out hbl)
              go_wp2_with fail
              refine wp_region_ext_lit (by kernel_rfl) (by kernel_rfl) ?_
              repeat (go_big_quiet_step ((go_at_call 69; exact xqX (clusterlocksref05.ValidResource_c r0 _ hnj))))
              refine wpQuiet_nil ?_
              intro wq hw'
              obtain ⟨⟨wq', hxq⟩, hw''⟩ := hw'
              subst hw''
              go_wp2
              exact ⟨⟨j + 1, by omega, by go_num, hy.tr hxq, HF⟩, by simp [intOf]; omega⟩
      · have HF := Lib.hid (CL.vcat_all h8 (by omega) HJ.out)
        go_wp2
        go_ret
        exact ⟨ret_bool HF.out.symm, hy⟩
  · have HF := Lib.hid (CL.vcat_long (l := l) (by omega))
    have h9 : 8 < l.length := by omega
    clear h8
    go_enter Try.func54, Try.ntmps54
    go_wp2
    go_ret
    exact ⟨ret_bool HF.out.symm, Ext.rfl'⟩
end Go.Proofs.Ytmboojbhnmdnkaa
