
/- Ledger: the walks of validSaves and Valid. -/
import Derived.Test.YtaebindbadfaaaaLb
namespace Go.Proofs.Ytaebindbadfaaaa
open Go.RowKit
set_option linter.unusedVariables false
set_option linter.unusedSimpArgs false
theorem Blk.c5 {w : World} {g : Nat} {t : TypeId} {x y z v u : Value} (h : Blk w g t #[x, y, z, v, u]) : w.cell? ⟨g, 0, none⟩ = some x ∧ w.cell? ⟨g, 1, none⟩ = some y ∧ w.cell? ⟨g, 2, none⟩ = some z ∧ w.cell? ⟨g, 3, none⟩ = some v ∧ w.cell? ⟨g, 4, none⟩ = some u := ⟨h.cell 0, h.cell 1, h.cell 2, h.cell 3, h.cell 4⟩
theorem svl_take {w : World} {l : List CL.Sv} {b o : Nat} (h : Sits w (some ⟨b, o, none⟩) (svl l)) (j : Nat) : Sits w (some ⟨b, o, none⟩) (svl (l.take j)) := by
  rw [← List.take_append_drop j l, svl_append] at h; exact h.left
theorem ens_take {w : World} {l : List CL.En} {b o : Nat} (h : Sits w (some ⟨b, o, none⟩) (ens l)) (j : Nat) : Sits w (some ⟨b, o, none⟩) (ens (l.take j)) := by
  rw [← List.take_append_drop j l, ens_append] at h; exact h.left
theorem sv_info : ∃ i, Try.prog.info? 69 = some i ∧ i.size = 2 := ⟨_, rfl, rfl⟩
theorem slice_sv (b o len cap k : Nat) (hk : k ≤ cap) (W : World) : (Instr.slice 29 (.slice (some ⟨b, o, none⟩) len cap) none (some (.int .i64 (k : Int))) none).run Try.prog W = .ok (.slice (some ⟨b, o, none⟩) k cap) W := by
  obtain ⟨i, hi, _⟩ := sv_info
  exact run_slice_high (P := Try.prog) 29 69 i Try.underlying29 hi b o len cap k hk W
set_option maxHeartbeats 3200000 in
theorem ledger.validSaves_c (l : List CL.Sv) (n : Nat) (A : Option Addr) (c : Nat) (w : World) (hl : l.length ≤ maxLen) (hc : l.length ≤ c) (hr : Sits w A (svl l)) :
    Calls Try.prog 55 #[.slice A l.length c, .int .i64 (n : Int)] w fun r w' => r = .returned (.bool (CL.svs l n)) ∧ Ext w w' := by
  by_cases h4 : l.length ≤ 4
  · have HV := Lib.hid (CL.SvTo.zero l n)
    go_enter Try.func55, Try.ntmps55
    go_wp2
    go_loopw [5, 13] (fun a i wr => ∃ (j : Nat) (p : Int), j ≤ l.length ∧ i = .int .i64 j ∧ a = .int .i64 p ∧ Ext w wr ∧ Hid (CL.SvTo l n j) ∧ Hid (CL.prv l j = p)) (fun _ i _ => l.length - (intOf i).toNat)
    case atStart => exact ⟨0, 0, by omega, rfl, rfl, Ext.rfl', HV, Lib.hid rfl⟩
    case round =>
      obtain ⟨j, p, hj, rfl, rfl, hy, HJ, HP⟩ := hrel
      by_cases hlt : j < l.length
      · obtain ⟨b, o, rfl, c0, c1⟩ := (hr.ext hy).svl hlt
        have HB := Lib.hid (fun h => CL.svs_bad (n := n) hlt h)
        have HI := Lib.hid (CL.svok_iff HJ.out hlt)
        have HS := Lib.hid (fun h => HJ.out.step hlt h)
        have HN := Lib.hid (CL.prv_step hlt)
        have bx := Blk.new wr 69 #[.int .i64 l[j].l, .int .i64 l[j].t]
        have hxx := Ext.new wr (.cells #[.int .i64 l[j].l, .int .i64 l[j].t] 69)
        have hsl := slice_sv b o l.length c j (by omega)
        have HPL := Lib.hid (fun (W : World) (h : Ext w W) => ledger.place_c (l.take j) l[j].l (some ⟨b, o, none⟩) c W (by rw [List.length_take]; omega) (svl_take (hr.ext h) j))
        rw [List.length_take, Nat.min_eq_left hj] at HPL
        generalize hrj : l[j] = r0 at *
        have HRJ := Lib.hid hrj
        clear hrj
        generalize hpl : CL.plc (l.take j) r0.l = q at *
        have HPQ := Lib.hid hpl
        clear hpl
        by_cases k1 : r0.l < 1
        · have HF := Lib.hid (HB.out (fun h => by have := (HI.out.1 h).1; omega))
          go_wp2_with fail
          generalize (wr.alloc (.cells #[.int .i64 r0.l, .int .i64 r0.t] 69)) = W at *
          obtain ⟨e0, e1⟩ := bx.c2
          have q0 := ExtOf.cell e0
          have q1 := ExtOf.cell e1
          have hxW := hy.tr hxx
          refine wp_region_ext_lit (by kernel_rfl) (by kernel_rfl) ?_
          repeat (go_big_quiet_step ((go_at_call 46; exact xqX (HPL.out _ (hxW.tr (ExtOf.ext _))))))
          refine wpQuiet_nil ?_
          intro wq hw'
          obtain ⟨⟨wq', hxq⟩, hw''⟩ := hw'
          subst hw''
          go_wp2
          go_ret
          exact ⟨ret_bool HF.out.symm, hxW.tr hxq⟩
        · have d1 : (decide (r0.l < 1)) = false := decide_eq_false k1
          by_cases k2 : 99 < r0.l
          · have HF := Lib.hid (HB.out (fun h => by have := (HI.out.1 h).1; omega))
            go_wp2_with fail
            generalize (wr.alloc (.cells #[.int .i64 r0.l, .int .i64 r0.t] 69)) = W at *
            obtain ⟨e0, e1⟩ := bx.c2
            have q0 := ExtOf.cell e0
            have q1 := ExtOf.cell e1
            have hxW := hy.tr hxx
            refine wp_region_ext_lit (by kernel_rfl) (by kernel_rfl) ?_
            repeat (go_big_quiet_step ((go_at_call 46; exact xqX (HPL.out _ (hxW.tr (ExtOf.ext _))))))
            refine wpQuiet_nil ?_
            intro wq hw'
            obtain ⟨⟨wq', hxq⟩, hw''⟩ := hw'
            subst hw''
            go_wp2
            go_ret
            exact ⟨ret_bool HF.out.symm, hxW.tr hxq⟩
          · have d2 : (decide (99 < r0.l)) = false := decide_eq_false k2
            by_cases k3 : 0 ≤ q
            · have HF := Lib.hid (HB.out (fun h => (HI.out.1 h).2.1 k3))
              go_wp2_with fail
              generalize (wr.alloc (.cells #[.int .i64 r0.l, .int .i64 r0.t] 69)) = W at *
              obtain ⟨e0, e1⟩ := bx.c2
              have q0 := ExtOf.cell e0
              have q1 := ExtOf.cell e1
              have hxW := hy.tr hxx
              refine wp_region_ext_lit (by kernel_rfl) (by kernel_rfl) ?_
              repeat (go_big_quiet_step ((go_at_call 46; exact xqX (HPL.out _ (hxW.tr (ExtOf.ext _))))))
              refine wpQuiet_nil ?_
              intro wq hw'
              obtain ⟨⟨wq', hxq⟩, hw''⟩ := hw'
              subst hw''
              go_wp2
              go_ret
              exact ⟨ret_bool HF.out.symm, hxW.tr hxq⟩
            · have d3 : (decide (0 ≤ q)) = false := decide_eq_false k3
              have HF2 := Lib.hid (fun (h : ¬ (p ≤ r0.t ∧ r0.t ≤ n)) => HB.out (fun h' => h (by have h2 := (HI.out.1 h').2.2; rw [HP.out] at h2; exact h2)))
              have HS2 := Lib.hid (fun (h : p ≤ r0.t ∧ r0.t ≤ n) => HS.out (HI.out.2 ⟨by omega, k3, by rw [HP.out]; exact h⟩))
              go_wp2_with fail
              generalize (wr.alloc (.cells #[.int .i64 r0.l, .int .i64 r0.t] 69)) = W at *
              obtain ⟨e0, e1⟩ := bx.c2
              have q0 := ExtOf.cell e0
              have q1 := ExtOf.cell e1
              have hxW := hy.tr hxx
              refine wp_region_ext_lit (by kernel_rfl) (by kernel_rfl) ?_
              repeat (go_big_quiet_step ((go_at_call 46; exact xqX (HPL.out _ (hxW.tr (ExtOf.ext _))))))
              refine wpQuiet_nil ?_
              intro wq hw'
              obtain ⟨⟨wq', hxq⟩, hw''⟩ := hw'
              subst hw''
              have f0 := hxq.cell e0
              have f1 := hxq.cell e1
              by_cases k4 : r0.t < p
              · have HF := Lib.hid (HF2.out (by omega))
                go_wp2
                go_ret
                exact ⟨ret_bool HF.out.symm, hxW.tr hxq⟩
              · by_cases k5 : (n : Int) < r0.t
                · have HF := Lib.hid (HF2.out (by omega))
                  go_wp2
                  go_ret
                  exact ⟨ret_bool HF.out.symm, hxW.tr hxq⟩
                · have HG := Lib.hid (HS2.out (by omega))
                  go_wp2
                  exact ⟨⟨j + 1, r0.t, by omega, by go_num, rfl, hxW.tr hxq, HG, HN⟩, by simp [intOf]; omega⟩
      · have HF := Lib.hid (CL.svs_all h4 (by omega) HJ.out)
        go_wp2
        go_ret
        exact ⟨ret_bool HF.out.symm, hy⟩
  · have HF := Lib.hid (CL.svs_long (n := n) (by omega : 4 < l.length))
    go_enter Try.func55, Try.ntmps55
    unfold maxLen at hl
    go_wp2
    go_ret
    exact ⟨ret_bool HF.out.symm, Ext.rfl'⟩
end Go.Proofs.Ytaebindbadfaaaa
