
/- The statements about the lexer (chapter 6): the walk of the law LexerPads. -/
import Derived.Test.YtklpfhkcbhkofaaLaw06b
import Derived.Test.YtklpfhkcbhkofaaLx5
namespace Go.Proofs.Ytklpfhkcbhkofaa
open Go.RowKit
def Pad (s : List UInt8) (k : Nat) (X : List UInt8) : Prop := ∃ P, X = P ++ s ∧ P.length = k ∧ ∀ c ∈ P, CL.at8 CL.spc c = true
theorem Pad.step {s X : List UInt8} {k : Nat} {c : UInt8} (h : Pad s k X) (hc : CL.at8 CL.spc c = true) : Pad s (k + 1) (c :: X) := by
  obtain ⟨P, rfl, hl, ha⟩ := h
  exact ⟨c :: P, rfl, by simp [hl], fun d hd => by
    rcases List.mem_cons.1 hd with rfl | hd
    · exact hc
    · exact ha d hd⟩
theorem Pad.len {s X : List UInt8} {k : Nat} (h : Pad s k X) : X.length = k + s.length := by
  obtain ⟨P, rfl, hl, _⟩ := h; simp [hl]
theorem Pad.tokens {s X : List UInt8} {k : Nat} (h : Pad s k X) (hl : k + s.length ≤ 1024) :
    CL.tokens X = ((CL.tokens s).1.map (CL.sh k), (if (CL.tokens s).2.2 = 0 then (CL.tokens s).2.1 else (CL.tokens s).2.1 + k), (CL.tokens s).2.2) := by
  obtain ⟨P, rfl, rfl, ha⟩ := h
  exact CL.tokens_pad ha hl
set_option maxRecDepth 100000 in
set_option maxHeartbeats 3200000 in
theorem LexerPads_w (s : List UInt8) (n : Int) (w : World) (hs : s.length ≤ maxLen) : Calls Try.prog 6 #[.string ⟨s.toArray⟩, .int .i64 n] w fun e w' => e = .returned (.bool true) ∧ Ext w w' := by
  have hx := Ext.rfl' (a := w)
  have hs' := hs
  unfold maxLen at hs'
  by_cases hr : 0 ≤ n ∧ n ≤ 50 ∧ s.length ≤ 974
  · obtain ⟨h1, h2, h3⟩ := hr
    obtain ⟨nn, rfl⟩ := Int.eq_ofNat_of_zero_le h1
    have hcv := conv_one (P := Try.prog) 33 9 5 Try.underlying33 Try.underlying5 Try.underlying9
    have hcv2 : ∀ (W : World) (o : Obj) (v : Int), (convert 33 9 (.slice (some ⟨W.heap.size + 1, 0, none⟩) 1 1)).run Try.prog ((W.alloc o).alloc (.cells #[.int .u8 v] 5)) = .ok (.string ⟨#[UInt8.ofNat v.toNat]⟩) ((W.alloc o).alloc (.cells #[.int .u8 v] 5)) := by
      intro W o v
      have := hcv (W.alloc o) v
      rwa [World.size_alloc] at this
    clear hcv
    go_enter Try.func6, Try.ntmps6
    go_wp2
    go_loopw [5, 6] (fun v i wr => ∃ (k : Nat) (X : List UInt8), k ≤ nn ∧ i = .int .i64 k ∧ v = .string ⟨X.toArray⟩ ∧ Hid (Pad s k X) ∧ Ext w wr) (fun _ i _ => nn - (intOf i).toNat)
    case atStart => exact ⟨0, s, by omega, rfl, rfl, ⟨[], rfl, rfl, by simp⟩, hx⟩
    case round =>
      clear hx
      obtain ⟨k, X, hk, rfl, rfl, HX, hx⟩ := hrel
      obtain ⟨wo, rfl⟩ : ∃ wo : World, wo = wr := ⟨_, rfl⟩
      have hxl : X.length ≤ 1024 := by rw [HX.out.len]; omega
      by_cases hlt : k < nn
      · have hm : (k : Int) % 4 = 0 ∨ (k : Int) % 4 = 1 ∨ (k : Int) % 4 = 2 ∨ (k : Int) % 4 = 3 := by omega
        rcases hm with hm | hm | hm | hm
        · go_wp2
          refine ⟨⟨k + 1, 9 :: X, by omega, by go_num, by rw [show (⟨#[9]⟩ : ByteArray) ++ ⟨X.toArray⟩ = _ from bytes_append [9] X]; rfl, HX.out.step (by decide), (hx.tr (Ext.new _ _)).tr (Ext.new _ _)⟩, by simp [intOf]; omega⟩
        · go_wp2
          refine ⟨⟨k + 1, 10 :: X, by omega, by go_num, by rw [show (⟨#[10]⟩ : ByteArray) ++ ⟨X.toArray⟩ = _ from bytes_append [10] X]; rfl, HX.out.step (by decide), (hx.tr (Ext.new _ _)).tr (Ext.new _ _)⟩, by simp [intOf]; omega⟩
        · go_wp2
          refine ⟨⟨k + 1, 13 :: X, by omega, by go_num, by rw [show (⟨#[13]⟩ : ByteArray) ++ ⟨X.toArray⟩ = _ from bytes_append [13] X]; rfl, HX.out.step (by decide), (hx.tr (Ext.new _ _)).tr (Ext.new _ _)⟩, by simp [intOf]; omega⟩
        · go_wp2
          refine ⟨⟨k + 1, 32 :: X, by omega, by go_num, by rw [show (⟨#[32]⟩ : ByteArray) ++ ⟨X.toArray⟩ = _ from bytes_append [32] X]; rfl, HX.out.step (by decide), (hx.tr (Ext.new _ _)).tr (Ext.new _ _)⟩, by simp [intOf]; omega⟩
      · obtain rfl : k = nn := by omega
        have HT := Lib.hid (HX.out.tokens (by omega))
        have hn := tok_count s
        clear hcv2
        go_wp2_with fail
        refine (Tokens_c s _ hs).mono ?_
        rintro e w1 ⟨v, rfl, hown, hx1⟩
        obtain ⟨A, c, rfl, _, _⟩ := own_form hown
        have hS := Sits.of_own hown
        replace hx := hx.tr hx1
        clear hown hx1
        go_wp2_with fail
        refine (Tokens_c X _ (by unfold maxLen; omega)).mono ?_
        rintro e w2 ⟨v2, rfl, hown2, hx2⟩
        rw [HT.out] at hown2 ⊢
        obtain ⟨A2, c2, rfl, _, _⟩ := own_form hown2
        have hS2 := Sits.of_own hown2
        replace hS := hS.ext hx2
        replace hx := hx.tr hx2
        clear hown2 hx2
        have HE := Lib.hid (CL.tokens_err (s := s))
        obtain ⟨⟨hat1, hat2⟩, hpos⟩ := CL.tokens_pos s
        have HPos := Lib.hid hpos
        clear hpos
        rw [List.length_map]
        generalize (CL.tokens s).1 = l at *
        generalize (CL.tokens s).2.1 = at1 at *
        generalize (CL.tokens s).2.2 = er at *
        by_cases her : er = 0
        · subst her
          simp only [if_true]
          clear HE
          go_wp2_with fail
          refine (awake6_c _).mono ?_
          rintro e w3 ⟨rfl, hx3⟩
          replace hS := hS.ext hx3
          replace hS2 := hS2.ext hx3
          replace hx := hx.tr hx3
          clear hx3
          go_wp2
          go_loopw [13] (fun i wr => ∃ m : Nat, m ≤ l.length ∧ i = .int .i64 m ∧ Ext w3 wr) (fun i _ => l.length - (intOf i).toNat)
          case atStart => exact ⟨0, by omega, rfl, Ext.rfl'⟩
          case round =>
            obtain ⟨m, hm, rfl, hy⟩ := hrel
            obtain ⟨wo, rfl⟩ : ∃ wo : World, wo = wr := ⟨_, rfl⟩
            by_cases hlt : m < l.length
            · obtain ⟨b, o, rfl, hc⟩ := (hS.ext hy).get (by rw [tks_len]; omega)
              obtain ⟨b2, o2, rfl, hc2⟩ := (hS2.ext hy).get (by rw [tks_len, List.length_map]; omega)
              obtain ⟨a0, a1, a2, a3⟩ := tok_cells hc hlt
              obtain ⟨b0, b1, b2', b3⟩ := tok_cells hc2 (show m < (l.map (CL.sh k)).length by simpa using hlt)
              have hp := HPos.out l[m] (List.getElem_mem _)
              rw [List.getElem_map] at b0 b1 b2' b3
              generalize l[m] = x at *
              obtain ⟨hp1, hp2⟩ := hp
              have l1 := World.block_lt_of_cell? wo _ a0
              have l2 := World.block_lt_of_cell? wo _ b0
              simp only at l1 l2
              have hq := tok_neq (CL.sh k x) (CL.sh k x)
              simp only [CL.sh, decide_true, Bool.not_true] at hq
              have hgd := tok_guard
              have n1 : b ≠ wo.heap.size := by omega
              have n2 : b2 ≠ wo.heap.size := by omega
              simp only [CL.sh] at b0 b1 b2' b3
              clear hc hc2
              go_wp2
              go_quiet (fail)
              go_wp2
              refine ⟨⟨m + 1, by omega, by go_num, ?_⟩, by simp [intOf]; omega⟩
              exact below_drewN (Below.alloc hy hy.size _) _
            · go_wp2
              go_ret
              exact ⟨rfl, hx.tr hy⟩
        · have hl : l = [] := HE.out her
          subst hl
          have hne : (er != 0) = true := by simpa using her
          have hnn : (er == 0) = false := by simpa using her
          rw [if_neg her]
          clear HE her
          go_wp2_with fail
          refine (awake6_c _).mono ?_
          rintro e w3 ⟨rfl, hx3⟩
          replace hS := hS.ext hx3
          replace hS2 := hS2.ext hx3
          replace hx := hx.tr hx3
          clear hx3
          go_wp2
          go_rounds 1
          go_ret
          exact ⟨rfl, hx⟩
  · go_enter Try.func6, Try.ntmps6
    go_wp2_with (go_at_call 11; refine (awake6_c _).mono ?_; rintro e w' ⟨rfl, hx1⟩; replace hx := hx.tr hx1; clear hx1)
    all_goals (go_ret; exact ⟨rfl, hx⟩)
end Go.Proofs.Ytklpfhkcbhkofaa
