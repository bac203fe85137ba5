
/- The statements about the lexer (chapter 6), third part: the walks of the laws LexerPlaces and LexerPads. -/
import Derived.Test.YtklpfhkcbhkofaaLaw06b
import Derived.Test.YtklpfhkcbhkofaaLx3
import Derived.Test.YtklpfhkcbhkofaaRc
namespace Go.Proofs.Ytklpfhkcbhkofaa
open Go.RowKit
theorem slice_name {P : Program} (t : TypeId) (ht : P.underlying t = some .string) (s tx : List UInt8) (p : Nat) (hp : p + tx.length ≤ s.length) (he : (s.drop p).take tx.length = tx) (W : World) :
    (Instr.slice t (.string ⟨s.toArray⟩) (some (.int .i64 (p : Int))) (some (.int .i64 ((p : Int) + (tx.length : Int)))) none).run P W = .ok (.string ⟨tx.toArray⟩) W := by
  have hz : ((⟨s.toArray⟩ : ByteArray).size : Int) = (s.length : Int) := by simp [ByteArray.size]
  rw [run_slice_string_if (P := P) (h := ht), if_pos (by rw [hz]; omega), if_pos (by omega), bytes_extract]
  rw [show ((p : Int) + (tx.length : Int)).toNat - (p : Int).toNat = tx.length by omega, show (p : Int).toNat = p by omega, he]
set_option maxRecDepth 100000 in
set_option maxHeartbeats 8000000 in
theorem LexerPlaces_w (s : List UInt8) (w : World) (hs : s.length ≤ maxLen) : Calls Try.prog 7 #[.string ⟨s.toArray⟩] w fun e w' => e = .returned (.bool true) ∧ Ext w w' := by
  have hx := Ext.rfl' (a := w)
  have hn := tok_count s
  by_cases he : (CL.tokens s).2.2 = 0
  · have HP := Lib.hid (CL.tokens_Pl he)
    have hs1 : s.length ≤ 1024 := (CL.tokens_ind (fun _ _ => True) trivial (fun _ _ _ _ _ => trivial) (fun _ _ _ _ _ _ _ _ _ _ => trivial) he).2.2
    go_enter Try.func7, Try.ntmps7
    go_wp2_with fail
    refine (Tokens_c s _ hs).mono ?_
    rintro e w1 ⟨v, rfl, hown, hx1⟩
    rw [he]
    obtain ⟨A, c, rfl, hlc, _⟩ := own_form hown
    have hS := Sits.of_own hown
    replace hx := hx.tr hx1
    clear hown hx1 he
    generalize (CL.tokens s).1 = l at *
    generalize (CL.tokens s).2.1 = at1 at *
    obtain ⟨hl0, hlast⟩ := CL.Pl.last HP.out
    have HLast := Lib.hid hlast
    clear hlast
    have hb0 : ((l.length : Int) == 0) = false := beq_eq_false_iff_ne.2 (by omega)
    go_wp2
    go_loopw [9] (fun i wr => ∃ k : Nat, k < l.length ∧ i = .int .i64 k ∧ Ext w1 wr) (fun i _ => l.length - (intOf i).toNat)
    case atStart => exact ⟨0, hl0, rfl, Ext.rfl'⟩
    case round =>
      obtain ⟨k, hk, rfl, hy⟩ := hrel
      obtain ⟨wo, rfl⟩ : ∃ wo : World, wo = wr := ⟨_, rfl⟩
      obtain ⟨b, o, rfl, hc⟩ := (hS.ext hy).get (by rw [tks_len]; omega)
      by_cases hlt : k + 1 < l.length
      · obtain ⟨hok, hps⟩ := CL.Pl.at_ HP.out hlt
        obtain ⟨a0, a1, _, a3⟩ := tok_cells hc (show k < l.length by omega)
        obtain ⟨_, _, _, b3⟩ := tok_cells hc hlt
        obtain ⟨hk5, hp0, hpl, hname⟩ := hok
        generalize l[k].kind = kd at *
        generalize l[k].text = tx at *
        generalize l[k].pos = ps at *
        generalize l[k + 1].pos = py at *
        obtain ⟨p, rfl⟩ := Int.eq_ofNat_of_zero_le hp0
        have b3' : wo.cell? ⟨b, o + (k + 1) * 4 + 3, none⟩ = some (.int .i64 py) := b3
        have d5 : (kd == 5) = false := by simpa using hk5
        have g1 : ((k : Int) + 1).toNat = k + 1 := by omega
        have g2 : (k : Int) + 1 < (l.length : Int) := by omega
        have g3 : IntKind.i64.wrap ((k : Int) + 1) = (k : Int) + 1 := IntWalk.i64_in _ (by omega)
        have g4 : 0 ≤ (k : Int) + 1 := by omega
        clear hk5 hc
        by_cases hkd : kd = 1
        · obtain ⟨n1, n2, n3, n4⟩ := hname hkd
          have d1 : (kd == 1) = true := by simpa using hkd
          have hsl := slice_name (P := Try.prog) 9 Try.underlying9 s tx p (by simpa using n3) (by simpa using n4)
          simp only [Int.toNat_natCast] at n3 hpl
          have g5 : IntKind.i64.wrap ((s.length : Int) - (p : Int)) = (s.length : Int) - (p : Int) := IntWalk.i64_in _ (by omega)
          have g6 : IntKind.i64.wrap ((p : Int) + (tx.length : Int)) = (p : Int) + (tx.length : Int) := IntWalk.i64_in _ (by omega)
          have m1 : decide ((tx.length : Int) < 1) = false := by simp; omega
          have m2 : decide ((tx.length : Int) > 12) = false := by simp; omega
          have m3 : decide ((tx.length : Int) > (s.length : Int) - (p : Int)) = false := by simp; omega
          have m4 : decide (py ≤ (p : Int)) = false := by simp; omega
          have m5 : decide ((p : Int) < 0) = false := by simp
          clear hname hkd n4
          as_aux_lemma =>
            go_wp2
            refine wp_region_quiet_lit (by kernel_rfl) (Rc.lexB_of (by as_aux_lemma => kernel_rfl)) ?_
            dsimp only [List.append]
            iterate 10 (go_big_quiet_step (fail))
            as_aux_lemma =>
              iterate 10 (go_big_quiet_step (fail))
              as_aux_lemma =>
                iterate 10 (go_big_quiet_step (fail))
                as_aux_lemma =>
                  iterate 10 (go_big_quiet_step (fail))
                  as_aux_lemma =>
                    iterate 10 (go_big_quiet_step (fail))
                    as_aux_lemma =>
                      iterate 10 (go_big_quiet_step (fail))
                      as_aux_lemma =>
                        iterate 10 (go_big_quiet_step (fail))
                        as_aux_lemma =>
                          iterate 10 (go_big_quiet_step (fail))
                          as_aux_lemma =>
                            iterate 10 (go_big_quiet_step (fail))
                            as_aux_lemma =>
                              repeat (go_big_quiet_step (fail))
                              refine wpQuiet_nil ?_
                              intro _ hw'
                              obtain ⟨nq, hw''⟩ := hw'
                              subst hw''
                              go_wp2
                              go_roundw
                              case rel => exact ⟨k + 1, hlt, by go_num, hy.drewN _⟩
                              case measure => simp [intOf]; omega
        · have d1 : (kd == 1) = false := by simpa using hkd
          have m4 : decide (py ≤ (p : Int)) = false := by simp; omega
          have m5 : decide ((p : Int) < 0) = false := by simp
          clear hname hkd
          as_aux_lemma =>
            go_wp2
            refine wp_region_quiet_lit (by kernel_rfl) (Rc.lexB_of (by as_aux_lemma => kernel_rfl)) ?_
            dsimp only [List.append]
            iterate 10 (go_big_quiet_step (fail))
            as_aux_lemma =>
              iterate 10 (go_big_quiet_step (fail))
              as_aux_lemma =>
                iterate 10 (go_big_quiet_step (fail))
                as_aux_lemma =>
                  iterate 10 (go_big_quiet_step (fail))
                  as_aux_lemma =>
                    iterate 10 (go_big_quiet_step (fail))
                    as_aux_lemma =>
                      iterate 10 (go_big_quiet_step (fail))
                      as_aux_lemma =>
                        iterate 10 (go_big_quiet_step (fail))
                        as_aux_lemma =>
                          iterate 10 (go_big_quiet_step (fail))
                          as_aux_lemma =>
                            iterate 10 (go_big_quiet_step (fail))
                            as_aux_lemma =>
                              repeat (go_big_quiet_step (fail))
                              refine wpQuiet_nil ?_
                              intro _ hw'
                              obtain ⟨nq, hw''⟩ := hw'
                              subst hw''
                              go_wp2
                              go_roundw
                              case rel => exact ⟨k + 1, hlt, by go_num, hy.drewN _⟩
                              case measure => simp [intOf]; omega
      · have hl1 : l.length = k + 1 := by omega
        have HL1 := Lib.hid (show l[k] = ⟨5, [], 0, s.length⟩ by
          have := HLast.out
          simp only [show l.length - 1 = k by omega] at this
          exact this)
        have g1 : decide ((k : Int) + 1 < (l.length : Int)) = false := by simp; omega
        have g3 : IntKind.i64.wrap ((k : Int) + 1) = (k : Int) + 1 := IntWalk.i64_in _ (by omega)
        have hS' := hS.ext hy
        clear hc HP HLast hS
        go_wp2_with fail
        refine (awake6_c _).mono ?_
        rintro e w2 ⟨rfl, hx2⟩
        replace hx := (hx.tr hy).tr hx2
        obtain ⟨b', o', e', hc⟩ := (hS'.ext hx2).get (by rw [tks_len]; omega)
        injection e' with e'
        injection e' with e1 e2
        subst e1 e2
        obtain ⟨a0, a1, a2, a3⟩ := tok_cells hc hk
        rw [HL1.out] at a0 a1 a2 a3
        have g5 : IntKind.i64.wrap ((l.length : Int) - 1) = (k : Int) := by rw [hl1]; rw [show (((k + 1 : Nat) : Int) - 1) = (k : Int) by omega]; exact IntWalk.i64_in _ (by omega)
        have hq : ∀ W, (binOp .eql 32 (.agg #[.int .i64 5, .string ⟨#[]⟩, .int .i64 0, .int .i64 s.length]) (.agg #[.int .i64 5, .string ⟨#[]⟩, .int .i64 0, .int .i64 s.length])).run Try.prog W = .ok (.bool true) W := fun W => by
          have := tok_eql ⟨5, [], 0, s.length⟩ ⟨5, [], 0, s.length⟩ W
          simpa using this
        have hgd := tok_guard
        clear hc hS' hx2 HL1
        go_wp2
        go_ret
        exact ⟨rfl, hx⟩
  · have hne : ((CL.tokens s).2.2 != 0) = true := by simpa using he
    have hl := CL.tokens_err he
    go_enter Try.func7, Try.ntmps7
    go_wp2_with fail
    refine (Tokens_c s _ hs).mono ?_
    rintro e w1 ⟨v, rfl, hown, hx1⟩
    obtain ⟨A, c, rfl, _, _⟩ := own_form hown
    replace hx := hx.tr hx1
    clear hown hx1
    rw [hl]
    go_wp2_with fail
    refine (RTokens_c s _ hs).mono ?_
    rintro e w2 ⟨v2, rfl, hown2, hx2⟩
    replace hx := hx.tr hx2
    clear hown2 hx2
    generalize (CL.tokens s).2.2 = er at *
    go_wp2_with (go_at_call 11; refine (awake6_c _).mono ?_; rintro e w3 ⟨rfl, hx1⟩; replace hx := hx.tr hx1; clear hx1)
    go_ret
    exact ⟨rfl, hx⟩
end Go.Proofs.Ytklpfhkcbhkofaa
