
/- The statements about the lexer (chapter 6): the walk of the law LexerJoins. -/
import Derived.Test.YtklpfhkcbhkofaaLaw06d
import Derived.Test.YtklpfhkcbhkofaaJn
namespace Go.Proofs.Ytklpfhkcbhkofaa
open Go.RowKit
set_option linter.unusedVariables false
set_option linter.unusedSimpArgs false
theorem joined_bytes (T x : List UInt8) : Value.string ⟨(T ++ x ++ [32]).toArray⟩ = .string ((⟨T.toArray⟩ : ByteArray) ++ ⟨x.toArray⟩ ++ ⟨#[32]⟩) := by
  congr 1
set_option maxHeartbeats 1600000 in
theorem text_c (s : List UInt8) (l : List CL.Tk) (A : Option Addr) (c k a b : Nat) (x p : List UInt8) (w : World) (hs : s.length ≤ 1024) (hk : k + 1 < l.length) (hll : l.length ≤ 1025) (ha : l[k].pos = a) (hb : l[k + 1].pos = b) (hab : a ≤ b) (hbs : b ≤ s.length)
    (hp : CL.piece s a b = x ++ p) (hx : 0 < x.length) (hxs : ∀ c ∈ x, CL.at8 CL.spc c = false) (hps : p.all (CL.at8 CL.spc) = true) (hS : Sits w A (tks l)) :
    Calls Try.prog 15 #[.string ⟨s.toArray⟩, .slice A l.length c, .int .i64 k] w fun e w' => e = .returned (.string ⟨x.toArray⟩) ∧ w = w' := by
  obtain ⟨h1, h2, h3, h4⟩ := CL.piece_get hbs hp
  obtain ⟨bb, o, rfl, hc⟩ := hS.get (by rw [tks_len]; omega)
  obtain ⟨_, _, _, a3⟩ := tok_cells hc (show k < l.length by omega)
  obtain ⟨_, _, _, b3⟩ := tok_cells hc hk
  rw [ha] at a3
  rw [hb] at b3
  have b3' : w.cell? ⟨bb, o + (k + 1) * 4 + 3, none⟩ = some (.int .i64 b) := b3
  have g1 : ((k : Int) + 1).toNat = k + 1 := by omega
  have g2 : (k : Int) + 1 < (l.length : Int) := by omega
  have g3 : IntKind.i64.wrap ((k : Int) + 1) = (k : Int) + 1 := IntWalk.i64_in _ (by omega)
  have g4 : 0 ≤ (k : Int) + 1 := by omega
  have H3 := Lib.hid h3
  have H4 := Lib.hid h4
  have HXS := Lib.hid hxs
  have HPS := Lib.hid hps
  have H2 := Lib.hid h2
  clear h2 h3 h4 hxs hps hc hS hp ha hb
  go_enter Try.func15, Try.ntmps15
  go_wp2
  go_loop [7] (fun e => ∃ m E : Nat, m ≤ p.length ∧ E = a + x.length + m ∧ e = .int .i64 (E : Int)) (fun e => (intOf e).toNat)
  case atStart => exact ⟨p.length, b, by omega, by omega, rfl⟩
  case round =>
    obtain ⟨m, E, hm, hE, rfl⟩ := hrel
    obtain ⟨q, hq⟩ : ∃ q, q + 1 = E := ⟨E - 1, by omega⟩
    have hql : q < s.length := by omega
    have g5 : IntKind.i64.wrap ((E : Int) - 1) = (q : Int) := by rw [show (E : Int) - 1 = (q : Int) by omega]; exact IntWalk.i64_in _ (by omega)
    have g6 : decide ((E : Int) > (a : Int)) = true := by simp; omega
    have g7 : a < E := by omega
    by_cases hm0 : m = 0
    · have hsp : CL.spc (s[q].toNat : Int) = false := by
        obtain ⟨_, e⟩ := H4.out (x.length - 1) (by omega)
        have e2 : s[q] = x[x.length - 1]'(by omega) := by rw [← e]; congr 1; omega
        rw [e2]
        exact HXS.out _ (List.getElem_mem _)
      have hsp2 : CL.spc (((⟨s.toArray⟩ : ByteArray)[q]'hql).toNat : Int) = false := hsp
      have hE1 : a ≤ E := by omega
      have hE2 : E ≤ s.length := by omega
      have HEX := Lib.hid (show (⟨s.toArray⟩ : ByteArray).extract a E = ⟨x.toArray⟩ by
        rw [bytes_extract, show E - a = x.length by omega, H2.out])
      clear hm0 hE hq
      go_wp2_with (go_at_call 14; refine (RSpace_c _ _).mono ?_; rintro e w' ⟨rfl, rfl⟩)
      go_ret
      exact ⟨by rw [HEX.out]; rfl, rfl⟩
    · have hsp : CL.spc (s[q].toNat : Int) = true := by
        obtain ⟨_, e⟩ := H3.out (m - 1) (by omega)
        have e2 : s[q] = p[m - 1]'(by omega) := by rw [← e]; congr 1; omega
        rw [e2]
        exact List.all_eq_true.1 HPS.out _ (List.getElem_mem _)
      have hsp2 : CL.spc (((⟨s.toArray⟩ : ByteArray)[q]'hql).toNat : Int) = true := hsp
      have HE := Lib.hid hE
      have HM := Lib.hid hm0
      have HQ := Lib.hid hq
      clear hE hq hm0
      go_wp2_with (go_at_call 14; refine (RSpace_c _ _).mono ?_; rintro e w' ⟨rfl, rfl⟩)
      have hE := HE.out
      have hq := HQ.out
      have hm0 := HM.out
      exact ⟨⟨m - 1, q, by omega, by omega, rfl⟩, by simp [intOf]; omega⟩
set_option maxHeartbeats 12800000 in
theorem LexerJoins_w (s : List UInt8) (w : World) (hs : s.length ≤ maxLen) : Calls Try.prog 5 #[.string ⟨s.toArray⟩] w fun e w' => e = .returned (.bool true) ∧ Ext w w' := by
  have hx := Ext.rfl' (a := w)
  have hn := tok_count s
  by_cases he : (CL.tokens s).2.2 = 0
  · obtain ⟨l, hl⟩ : ∃ l, (CL.tokens s).1 = l := ⟨_, rfl⟩
    have HP := Lib.hid (show CL.Pl s 0 l by rw [← hl]; exact CL.tokens_Pl he)
    have hs1 : s.length ≤ 1024 := (CL.tokens_ind (fun _ _ => True) trivial (fun _ _ _ _ _ => trivial) (fun _ _ _ _ _ _ _ _ _ _ => trivial) he).2.2
    obtain ⟨X, hX⟩ := CL.apart_fun (show CL.Apart s l by rw [← hl]; exact CL.tokens_apart he)
    rw [hl] at hn
    have HJ := Lib.hid (CL.joined_toks HP.out hX)
    have HX := Lib.hid hX
    clear hX
    go_enter Try.func5, Try.ntmps5
    go_wp2_with fail
    refine (Tokens_c s _ hs).mono ?_
    rintro e w1 ⟨v, rfl, hown, hx1⟩
    rw [he]
    rw [hl] at hown
    obtain ⟨A, c, rfl, _, _⟩ := own_form hown
    have hS := Sits.of_own hown
    replace hx := hx.tr hx1
    clear hown hx1
    go_wp2_with fail
    refine (RTokens_c s _ hs).mono ?_
    rintro e w2 ⟨v2, rfl, hown2, hx2⟩
    rw [he]
    rw [hl] at hown2
    obtain ⟨A2, c2, rfl, _, _⟩ := own_form hown2
    have hS2 := Sits.of_own hown2
    replace hS := hS.ext hx2
    replace hx := hx.tr hx2
    clear hown2 hx2 he hl
    generalize (CL.tokens s).2.1 = at1 at *
    have hl0 : 0 < l.length := (CL.Pl.last HP.out).1
    have hd : decide (l = l) = true := by simp
    go_wp2_with (first
      | (go_at_call 11; refine (awake6_c _).mono ?_; rintro e w3 ⟨rfl, hx1⟩; replace hx := hx.tr hx1; replace hS := hS.ext hx1; replace hS2 := hS2.ext hx1; clear hx1)
      | (go_at_call 12; refine (Same_c l l _ _ _ _ _ (by omega) (by omega) hS hS2).mono ?_; rintro e w4 ⟨rfl, hx1⟩; replace hx := hx.tr hx1; replace hS := hS.ext hx1; clear hx1))
    clear hS2 hd
    have HLast := Lib.hid (CL.Pl.last HP.out)
    go_loop [9, 10] (fun t i => ∃ k : Nat, k < l.length ∧ i = .int .i64 k ∧ t = .string ⟨(CL.joined X k).toArray⟩) (fun _ i => l.length - (intOf i).toNat)
    case atStart => exact ⟨0, hl0, rfl, rfl⟩
    case round =>
      obtain ⟨k, hk, rfl, rfl⟩ := hrel
      have hXl : ∀ i, i + 1 < l.length → (X i).length ≤ 1024 := fun i hi => by
        obtain ⟨p, e, _, _⟩ := HX.out i hi
        have := congrArg List.length e
        unfold CL.piece at this
        simp at this; omega
      have hJl : (CL.joined X k).length ≤ k * 1025 := CL.joined_len (fun i hi => hXl i (by omega))
      have hJ2 : (CL.joined X k).length ≤ 1050625 := Nat.le_trans hJl (Nat.le_trans (Nat.mul_le_mul_right 1025 (show k ≤ 1025 by omega)) (by decide))
      by_cases hlt : k + 1 < l.length
      · obtain ⟨p, e1, e2, e3⟩ := HX.out k hlt
        obtain ⟨hok, hps⟩ := CL.Pl.at_ HP.out hlt
        have hbs : 0 ≤ l[k + 1].pos ∧ l[k + 1].pos ≤ s.length := by
          by_cases h2 : k + 1 + 1 < l.length
          · obtain ⟨h3, _⟩ := CL.Pl.at_ HP.out h2
            have := h3.2.1
            have := h3.2.2.1
            omega
          · obtain ⟨_, hla⟩ := HLast.out
            have e : l[k + 1] = ⟨5, [], 0, s.length⟩ := by rw [← hla]; congr 1; omega
            rw [e]; simp
        have hp0 := hok.2.1
        have hXk := hXl k hlt
        obtain ⟨a, ha⟩ := Int.eq_ofNat_of_zero_le hp0
        obtain ⟨b, hb⟩ := Int.eq_ofNat_of_zero_le hbs.1
        rw [ha, hb] at e1
        simp only [Int.toNat_natCast] at e1
        have HT := Lib.hid (fun W hS' => text_c s l A c k a b (X k) p W hs1 hlt (by omega) ha hb (by omega) (by omega) e1 (CL.lx_pos e2) (CL.lx_all e2) e3 hS')
        have HC := Lib.hid (show CL.joined X (k + 1) = CL.joined X k ++ X k ++ [32] by simp [CL.joined])
        have g1 : (k : Int) + 1 < (l.length : Int) := by omega
        have g3 : IntKind.i64.wrap ((k : Int) + 1) = (k : Int) + 1 := IntWalk.i64_in _ (by omega)
        generalize CL.joined X k = T at *
        generalize X k = x at *
        clear e1 e2 e3 hok hps hbs hp0 ha hb hXl hJl
        go_wp2_with (go_at_call 15; refine (HT.out _ hS).mono ?_; rintro e w5 ⟨rfl, rfl⟩)
        exact ⟨⟨k + 1, by omega, by go_num, by rw [HC.out, joined_bytes]⟩, by simp [intOf]; omega⟩
      · have hkl : k = l.length - 1 := by omega
        have g1 : decide ((k : Int) + 1 < (l.length : Int)) = false := by simp; omega
        have g3 : IntKind.i64.wrap ((k : Int) + 1) = (k : Int) + 1 := IntWalk.i64_in _ (by omega)
        rw [← hkl] at HJ
        clear hXl hJl HX HLast HP
        generalize CL.joined X k = T at *
        by_cases hlong : 1024 < T.length
        · have g4 : decide ((T.length : Int) > 1024) = true := by simp; omega
          clear HJ hkl
          go_wp2
          go_ret
          exact ⟨rfl, hx⟩
        · have g4 : decide ((T.length : Int) > 1024) = false := by simp; omega
          obtain ⟨j1, j2⟩ := HJ.out (by omega)
          have HER := Lib.hid (CL.er_at j2)
          clear j2 HJ hkl
          go_wp2_with fail
          refine (Tokens_c T _ (by unfold maxLen; omega)).mono ?_
          rintro e w6 ⟨v, rfl, hown, hx6⟩
          rw [j1]
          obtain ⟨A6, c6, rfl, _, _⟩ := own_form hown
          have hS6 := Sits.of_own hown
          have hS7 := hS.ext hx6
          replace hx := hx.tr hx6
          clear hown hx6 hS j1
          generalize (CL.tokens T).1 = m at *
          have hml := HER.out.1
          have hml' : ((m.length : Int) != (l.length : Int)) = false := by simp [hml]
          go_wp2
          go_loopw [14] (fun i wr => ∃ j : Nat, j ≤ l.length ∧ i = .int .i64 j ∧ Ext w6 wr) (fun i _ => l.length - (intOf i).toNat)
          case atStart => exact ⟨0, by omega, rfl, Ext.rfl'⟩
          case round =>
            obtain ⟨j, hj, rfl, hy⟩ := hrel
            obtain ⟨wo, rfl⟩ : ∃ wo : World, wo = wr := ⟨_, rfl⟩
            by_cases hlt : j < l.length
            · have hlt2 : j < m.length := by omega
              obtain ⟨p, o, rfl, hc⟩ := (hS7.ext hy).get (by rw [tks_len]; omega)
              obtain ⟨p', o', rfl, hc'⟩ := (hS6.ext hy).get (by rw [tks_len]; omega)
              obtain ⟨a0, a1, a2, a3⟩ := tok_cells hc hlt
              obtain ⟨b0, b1, b2, b3⟩ := tok_cells hc' hlt2
              obtain ⟨r1, r2, r3⟩ := HER.out.2 j hlt2 hlt
              rw [r1] at b0
              rw [r2] at b1
              rw [r3] at b2
              clear hc hc' r1 r2 r3 a3 b3
              generalize l[j].kind = kd at *
              generalize l[j].text = tx at *
              generalize l[j].num = nm at *
              have hji : (j : Int) < (l.length : Int) := by omega
              have hji2 : (j : Int) < (m.length : Int) := by omega
              go_wp2_with fail
              go_quiet (fail)
              go_wp2
              go_roundw
              case rel => exact ⟨j + 1, by omega, by go_num, hy.drewN _⟩
              case measure => simp [intOf]; omega
            · go_wp2
              go_ret
              exact ⟨rfl, hx.tr hy⟩
  · exact LexerJoins_e s w hs he
end Go.Proofs.Ytklpfhkcbhkofaa
