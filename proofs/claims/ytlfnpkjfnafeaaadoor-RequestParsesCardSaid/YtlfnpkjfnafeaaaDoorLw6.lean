
/- The walks of the lexer, sixth part: all tokens, by the reference. -/
import Derived.Test.YtlfnpkjfnafeaaaDoorZ7
namespace Go.Proofs.YtlfnpkjfnafeaaaDoor
open Go.RowKit
theorem sub_toNat (i k : Nat) (h : i ≤ k) : ((k : Int) - (i : Int)) = ((k - i : Nat) : Int) := by omega
theorem tok_own {w : World} {B : Nat} {v : Value} {acc : List CL.Tk} {tok : CL.Tk} {cs : List Value} (h : w.ownsRow B 52 4 v (acc.length + 1) (tks acc ++ cs)) (e : cs = tkc tok) : w.ownsRow B 52 4 v (acc ++ [tok]).length (tks (acc ++ [tok])) := by
  subst e; rw [tks_snoc, List.length_append]; exact h
theorem val_span {s : List UInt8} {i k m : Nat} (hk : k ≤ s.length) (HA : ∀ m, i ≤ m → m < k → (h' : m < s.length) → CL.at8 CL.dig s[m] = true) (hm : m ≤ k - i) :
    0 ≤ CL.val ((s.drop i).take m) ∧ CL.val ((s.drop i).take m) < 10 ^ m := by
  have h := val_bd (l := (s.drop i).take (k - i)) (fun j hj => by
    simp at hj
    have : ((s.drop i).take (k - i))[j]'(by simp; omega) = s[i + j]'(by omega) := by simp
    rw [this]; exact HA _ (by omega) (by omega) _) m (by simp; omega)
  rw [List.take_take, show min m (k - i) = m by omega] at h
  exact h
theorem pun_val {x v : Int} (h : (x == v) = true) (hv : v < 48) : x < 48 := by simp at h; omega
theorem pun_val2 {x : Int} (h : (x == 58) = true) : 57 < x ∧ x < 65 := by simp at h; omega
theorem val_next {s : List UInt8} {i k : Nat} (hik : i ≤ k) (hk : k < s.length) : CL.val ((s.drop i).take (k - i + 1)) = 10 * CL.val ((s.drop i).take (k - i)) + ((s[k].toNat : Int) - 48) := by
  rw [val_step (by simp; omega)]
  simp [show i + (k - i) = k by omega]
set_option maxRecDepth 100000 in
set_option maxHeartbeats 40000000 in
theorem RTokens_c (s : List UInt8) (w : World) (hs : s.length ≤ maxLen) : Calls Tryd.prog 25 #[.string ⟨s.toArray⟩] w (TokPost s w) := by
  unfold maxLen at hs
  by_cases hlong : 1024 < s.length
  · have HT := Lib.hid (show CL.tokens s = ([], 0, 3) by simp [CL.tokens, hlong])
    go_enter Tryd.func25, Tryd.ntmps25
    go_wp2
    go_ret3
    exact tokPost_err HT.out (Below.refl _ _)
  · have HT := Lib.hid (show CL.tokens s = CL.tokF s 0 [] by simp [CL.tokens, hlong])
    have hs1 : s.length ≤ 1024 := by omega
    go_enter Tryd.func25, Tryd.ntmps25
    go_wp2
    go_loopw [5, 6] (fun v p wr => ∃ (i : Nat) (acc : List CL.Tk), i ≤ s.length ∧ acc.length ≤ i ∧ p = .int .i64 i ∧ wr.ownsRow w.heap.size 52 4 v acc.length (tks acc) ∧ Below w.heap.size w wr ∧ Hid (CL.tokens s = CL.tokF s i acc))
      (fun _ p _ => s.length - (intOf p).toNat)
    case atStart => exact ⟨0, [], by omega, by simp, rfl, World.ownsRow_nil _ _ _ _, Below.refl _ _, HT⟩
    case round =>
      clear HT
      obtain ⟨i, acc, hi, ha, rfl, hown, hx, HI⟩ := hrel
      obtain ⟨wo, rfl⟩ : ∃ wo : World, wo = wr := ⟨_, rfl⟩
      have hxs := hx.size
      by_cases hlt : i < s.length
      · by_cases hsp : CL.at8 CL.spc s[i] = true
        · as_aux_lemma =>
          have c0 : CL.spc (((⟨s.toArray⟩ : ByteArray)[i]'hlt).toNat : Int) = true := hsp
          have HI2 := Lib.hid (HI.out.trans (CL.tokF_space hlt hsp))
          clear HI hsp
          go_wp2_with (go_at_call 50; refine (RSpace_c _ _).mono ?_; rintro e w' ⟨rfl, rfl⟩)
          go_roundw
          case rel => exact ⟨i + 1, acc, by omega, by omega, by go_num, hown, hx, HI2⟩
          case measure => simp [intOf]; omega
        · simp only [Bool.not_eq_true] at hsp
          have c0 : CL.spc (((⟨s.toArray⟩ : ByteArray)[i]'hlt).toNat : Int) = false := hsp
          have HGood := Lib.hid (fun ho => HI.out.trans (CL.tokF_tok hlt hsp ho))
          have HBad := Lib.hid (fun ho => HI.out.trans (CL.tokF_err hlt hsp ho))
          clear HI
          by_cases hc1 : CL.at8 CL.ltr s[i] = true
          · as_aux_lemma =>
            have c1 : CL.ltr (((⟨s.toArray⟩ : ByteArray)[i]'hlt).toNat : Int) = true := hc1
            have HO := Lib.hid (CL.one_word (i := i) hlt hc1)
            have HP := Lib.hid (show 0 < CL.spanN CL.prt (s.drop i) by rw [List.drop_eq_getElem_cons hlt]; exact CL.spanN_pos (CL.prt_ltr hc1))
            clear hsp hc1
            go_wp2_with (first
              | (go_at_call 50; refine (RSpace_c _ _).mono ?_; rintro e w' ⟨rfl, rfl⟩)
              | (go_at_call 51; refine (RLetter_c _ _).mono ?_; rintro e w' ⟨rfl, rfl⟩))
            go_loop [6] (fun p => ∃ k : Nat, i ≤ k ∧ k ≤ s.length ∧ p = .int .i64 k ∧ Hid (∀ m, i ≤ m → m < k → (h' : m < s.length) → CL.at8 CL.prt s[m] = true)) (fun p => s.length - (intOf p).toNat)
            case atStart => exact ⟨i, by omega, by omega, rfl, fun m h1 h2 => by omega⟩
            case round =>
              obtain ⟨k, hik, hk, rfl, HA⟩ := hrel
              by_cases hlt2 : k < s.length
              · by_cases hc2 : CL.at8 CL.prt s[k] = true
                · have c2 : CL.prt (((⟨s.toArray⟩ : ByteArray)[k]'hlt2).toNat : Int) = true := hc2
                  have HA2 := Lib.hid (all_step HA.out hlt2 hc2)
                  clear hc2
                  go_wp2_with (go_at_call 52; refine (RPart_c _ _).mono ?_; rintro e w' ⟨rfl, rfl⟩)
                  go_round
                  case rel => exact ⟨k + 1, by omega, by omega, by go_num, HA2⟩
                  case measure => simp [intOf]; omega
                · simp only [Bool.not_eq_true] at hc2
                  have c2 : CL.prt (((⟨s.toArray⟩ : ByteArray)[k]'hlt2).toNat : Int) = false := hc2
                  have HK := Lib.hid (CL.spanN_of hik hk (fun m h1 h => HA.out m h1 h (by omega)) (fun _ => hc2))
                  clear hc2
                  have hik' : i < k := by have := HP.out; rw [HK.out] at this; omega
                  clear HP
                  by_cases h12 : 12 < k - i
                  · have HT2 := Lib.hid (HBad.out (by rw [HO.out, if_pos (by rw [HK.out]; exact h12)]; decide))
                    rw [HO.out, if_pos (by rw [HK.out]; exact h12)] at HT2
                    have h12' : (12 : Int) < (k : Int) - (i : Int) := by omega
                    clear HGood HBad HO HK HA
                    go_wp2_with (go_at_call 52; refine (RPart_c _ _).mono ?_; rintro e w' ⟨rfl, rfl⟩)
                    go_ret3
                    exact tokPost_err HT2.out hx
                  · have h12' : (k : Int) - (i : Int) ≤ 12 := by omega
                    have HT2 := Lib.hid (HGood.out (by rw [HO.out, if_neg (by rw [HK.out]; exact h12)]))
                    rw [HO.out, if_neg (by rw [HK.out]; exact h12)] at HT2
                    simp only [HK.out, show i + (k - i) = k by omega] at HT2
                    clear HGood HBad HO HK HA
                    go_wp2_with (first
                      | (go_at_call 52; refine (RPart_c _ _).mono ?_; rintro e w' ⟨rfl, rfl⟩)
                      | (at_builtin; refine wpList_append_sits _ rfl (.tmp 46) (.tmp 53) _ rfl w.heap.size 52 4 40 _ Tryd.underlying48 tok_info rfl (by omega) _ _ _ rfl (hown.alloc _) _ _ _ [.int .i64 1, .string ((⟨s.toArray⟩ : ByteArray).extract i k), .int .i64 0, .int .i64 i] rfl rfl (Sits.new _ _ _) (by simp [Value.oneCell']) (by simp only [maxLen]; omega) (by omega) (by simp; omega) ?_; intro v' w' hown' hb' _hg))
                    have hx2 := ((hx.alloc hxs (.cells #[.int .i64 1, .string ((⟨s.toArray⟩ : ByteArray).extract i k), .int .i64 0, .int .i64 i] 52)).trans hb')
                    clear hb'
                    go_roundw
                    case rel => exact ⟨k, acc ++ [⟨1, (s.drop i).take (k - i), 0, i⟩], by omega, by simp; omega, rfl, tok_own hown' (by simp [tkc, bytes_extract]), hx2, HT2⟩
                    case measure => simp [intOf]; omega
              · have HK := Lib.hid (CL.spanN_of (p := CL.prt) hik hk (fun m h1 h => HA.out m h1 h (by omega)) (fun h => absurd h hlt2))
                have hik' : i < k := by have := HP.out; rw [HK.out] at this; omega
                clear HP
                by_cases h12 : 12 < k - i
                · have HT2 := Lib.hid (HBad.out (by rw [HO.out, if_pos (by rw [HK.out]; exact h12)]; decide))
                  rw [HO.out, if_pos (by rw [HK.out]; exact h12)] at HT2
                  have h12' : (12 : Int) < (k : Int) - (i : Int) := by omega
                  clear HGood HBad HO HK HA
                  go_wp2_with (go_at_call 52; refine (RPart_c _ _).mono ?_; rintro e w' ⟨rfl, rfl⟩)
                  go_ret3
                  exact tokPost_err HT2.out hx
                · have h12' : (k : Int) - (i : Int) ≤ 12 := by omega
                  have HT2 := Lib.hid (HGood.out (by rw [HO.out, if_neg (by rw [HK.out]; exact h12)]))
                  rw [HO.out, if_neg (by rw [HK.out]; exact h12)] at HT2
                  simp only [HK.out, show i + (k - i) = k by omega] at HT2
                  clear HGood HBad HO HK HA
                  go_wp2_with (first
                    | (go_at_call 52; refine (RPart_c _ _).mono ?_; rintro e w' ⟨rfl, rfl⟩)
                    | (at_builtin; refine wpList_append_sits _ rfl (.tmp 46) (.tmp 53) _ rfl w.heap.size 52 4 40 _ Tryd.underlying48 tok_info rfl (by omega) _ _ _ rfl (hown.alloc _) _ _ _ [.int .i64 1, .string ((⟨s.toArray⟩ : ByteArray).extract i k), .int .i64 0, .int .i64 i] rfl rfl (Sits.new _ _ _) (by simp [Value.oneCell']) (by simp only [maxLen]; omega) (by omega) (by simp; omega) ?_; intro v' w' hown' hb' _hg))
                  have hx2 := ((hx.alloc hxs (.cells #[.int .i64 1, .string ((⟨s.toArray⟩ : ByteArray).extract i k), .int .i64 0, .int .i64 i] 52)).trans hb')
                  clear hb'
                  go_roundw
                  case rel => exact ⟨k, acc ++ [⟨1, (s.drop i).take (k - i), 0, i⟩], by omega, by simp; omega, rfl, tok_own hown' (by simp [tkc, bytes_extract]), hx2, HT2⟩
                  case measure => simp [intOf]; omega
          · simp only [Bool.not_eq_true] at hc1
            have c1 : CL.ltr (((⟨s.toArray⟩ : ByteArray)[i]'hlt).toNat : Int) = false := hc1
            by_cases hc2 : CL.at8 CL.cap s[i] = true
            · as_aux_lemma =>
              have c2 : 65 ≤ (((⟨s.toArray⟩ : ByteArray)[i]'hlt).toNat : Int) ∧ (((⟨s.toArray⟩ : ByteArray)[i]'hlt).toNat : Int) ≤ 90 := of_decide_eq_true hc2
              obtain ⟨c21, c22⟩ := c2
              have HO := Lib.hid (CL.one_mode (i := i) hlt hc1 hc2)
              have HP := Lib.hid (show 0 < CL.spanN CL.cap (s.drop i) by rw [List.drop_eq_getElem_cons hlt]; exact CL.spanN_pos hc2)
              clear hsp hc1 hc2
              go_wp2_with (first
                | (go_at_call 50; refine (RSpace_c _ _).mono ?_; rintro e w' ⟨rfl, rfl⟩)
                | (go_at_call 51; refine (RLetter_c _ _).mono ?_; rintro e w' ⟨rfl, rfl⟩))
              go_loop [6] (fun p => ∃ k : Nat, i ≤ k ∧ k ≤ s.length ∧ p = .int .i64 k ∧ Hid (∀ m, i ≤ m → m < k → (h' : m < s.length) → CL.at8 CL.cap s[m] = true)) (fun p => s.length - (intOf p).toNat)
              case atStart => exact ⟨i, by omega, by omega, rfl, fun m h1 h2 => by omega⟩
              case round =>
                obtain ⟨k, hik, hk, rfl, HA⟩ := hrel
                by_cases hlt2 : k < s.length
                · by_cases hc3 : CL.at8 CL.cap s[k] = true
                  · have c3 : 65 ≤ (((⟨s.toArray⟩ : ByteArray)[k]'hlt2).toNat : Int) ∧ (((⟨s.toArray⟩ : ByteArray)[k]'hlt2).toNat : Int) ≤ 90 := of_decide_eq_true hc3
                    obtain ⟨c31, c32⟩ := c3
                    have HA2 := Lib.hid (all_step HA.out hlt2 hc3)
                    clear hc3
                    go_wp2
                    go_round
                    case rel => exact ⟨k + 1, by omega, by omega, by go_num, HA2⟩
                    case measure => simp [intOf]; omega
                  · simp only [Bool.not_eq_true] at hc3
                    have c3 : (((⟨s.toArray⟩ : ByteArray)[k]'hlt2).toNat : Int) < 65 ∨ (65 ≤ (((⟨s.toArray⟩ : ByteArray)[k]'hlt2).toNat : Int) ∧ 90 < (((⟨s.toArray⟩ : ByteArray)[k]'hlt2).toNat : Int)) := by
                      have := of_decide_eq_false hc3
                      show (s[k].toNat : Int) < 65 ∨ (65 ≤ (s[k].toNat : Int) ∧ 90 < (s[k].toNat : Int))
                      omega
                    have HK := Lib.hid (CL.spanN_of hik hk (fun m h1 h => HA.out m h1 h (by omega)) (fun _ => hc3))
                    clear hc3
                    rcases c3 with c3 | ⟨c3, c4⟩
                    · as_aux_lemma =>
                      have hik' : i < k := by have := HP.out; rw [HK.out] at this; omega
                      clear HP
                      have HW := Lib.hid (show (⟨s.toArray⟩ : ByteArray).extract i k = ⟨((s.drop i).take (k - i)).toArray⟩ by rw [bytes_extract])
                      rw [HK.out] at HO
                      by_cases hp : CL.prs ((s.drop i).take (k - i)) = 0
                      · have HT2 := Lib.hid (HBad.out (by rw [HO.out, if_pos hp]; decide))
                        rw [HO.out, if_pos hp] at HT2
                        have hq : (CL.prs ((s.drop i).take (k - i)) != 0) = false := by simp [hp]
                        clear HGood HBad HO HK HA hp
                        generalize (s.drop i).take (k - i) = wd at *
                        have hw := HW.out
                        go_wp2_with (go_at_call 53; refine (RParse_c wd _).mono ?_; rintro e w' ⟨rfl, rfl⟩)
                        go_ret3
                        exact tokPost_err HT2.out hx
                      · have HT2 := Lib.hid (HGood.out (by rw [HO.out, if_neg hp]))
                        rw [HO.out, if_neg hp] at HT2
                        simp only [show i + (k - i) = k by omega] at HT2
                        have hq : (CL.prs ((s.drop i).take (k - i)) != 0) = true := by simpa using hp
                        clear HGood HBad HO HK HA hp
                        generalize (s.drop i).take (k - i) = wd at *
                        have hw := HW.out
                        go_wp2_with (first
                          | (go_at_call 53; refine (RParse_c wd _).mono ?_; rintro e w' ⟨rfl, rfl⟩)
                          | (at_builtin; refine wpList_append_sits _ rfl (.tmp 90) (.tmp 98) _ rfl w.heap.size 52 4 40 _ Tryd.underlying48 tok_info rfl (by omega) _ _ _ rfl (hown.alloc _) _ _ _ [.int .i64 2, .string ⟨wd.toArray⟩, .int .i64 (CL.prs wd), .int .i64 i] rfl rfl (Sits.new _ _ _) (by simp [Value.oneCell']) (by simp only [maxLen]; omega) (by omega) (by simp; omega) ?_; intro v' w' hown' hb' _hg))
                        have hx2 := ((hx.alloc hxs (.cells #[.int .i64 2, .string ⟨wd.toArray⟩, .int .i64 (CL.prs wd), .int .i64 i] 52)).trans hb')
                        clear hb'
                        go_roundw
                        case rel => exact ⟨k, acc ++ [⟨2, wd, CL.prs wd, i⟩], by omega, by simp; omega, rfl, tok_own hown' (by simp [tkc]), hx2, HT2⟩
                        case measure => simp [intOf]; omega
                    · as_aux_lemma =>
                      have hik' : i < k := by have := HP.out; rw [HK.out] at this; omega
                      clear HP
                      have HW := Lib.hid (show (⟨s.toArray⟩ : ByteArray).extract i k = ⟨((s.drop i).take (k - i)).toArray⟩ by rw [bytes_extract])
                      rw [HK.out] at HO
                      by_cases hp : CL.prs ((s.drop i).take (k - i)) = 0
                      · have HT2 := Lib.hid (HBad.out (by rw [HO.out, if_pos hp]; decide))
                        rw [HO.out, if_pos hp] at HT2
                        have hq : (CL.prs ((s.drop i).take (k - i)) != 0) = false := by simp [hp]
                        clear HGood HBad HO HK HA hp
                        generalize (s.drop i).take (k - i) = wd at *
                        have hw := HW.out
                        go_wp2_with (go_at_call 53; refine (RParse_c wd _).mono ?_; rintro e w' ⟨rfl, rfl⟩)
                        go_ret3
                        exact tokPost_err HT2.out hx
                      · have HT2 := Lib.hid (HGood.out (by rw [HO.out, if_neg hp]))
                        rw [HO.out, if_neg hp] at HT2
                        simp only [show i + (k - i) = k by omega] at HT2
                        have hq : (CL.prs ((s.drop i).take (k - i)) != 0) = true := by simpa using hp
                        clear HGood HBad HO HK HA hp
                        generalize (s.drop i).take (k - i) = wd at *
                        have hw := HW.out
                        go_wp2_with (first
                          | (go_at_call 53; refine (RParse_c wd _).mono ?_; rintro e w' ⟨rfl, rfl⟩)
                          | (at_builtin; refine wpList_append_sits _ rfl (.tmp 90) (.tmp 98) _ rfl w.heap.size 52 4 40 _ Tryd.underlying48 tok_info rfl (by omega) _ _ _ rfl (hown.alloc _) _ _ _ [.int .i64 2, .string ⟨wd.toArray⟩, .int .i64 (CL.prs wd), .int .i64 i] rfl rfl (Sits.new _ _ _) (by simp [Value.oneCell']) (by simp only [maxLen]; omega) (by omega) (by simp; omega) ?_; intro v' w' hown' hb' _hg))
                        have hx2 := ((hx.alloc hxs (.cells #[.int .i64 2, .string ⟨wd.toArray⟩, .int .i64 (CL.prs wd), .int .i64 i] 52)).trans hb')
                        clear hb'
                        go_roundw
                        case rel => exact ⟨k, acc ++ [⟨2, wd, CL.prs wd, i⟩], by omega, by simp; omega, rfl, tok_own hown' (by simp [tkc]), hx2, HT2⟩
                        case measure => simp [intOf]; omega
                · have HK := Lib.hid (CL.spanN_of (p := CL.cap) hik hk (fun m h1 h => HA.out m h1 h (by omega)) (fun h => absurd h hlt2))
                  have hik' : i < k := by have := HP.out; rw [HK.out] at this; omega
                  clear HP
                  have HW := Lib.hid (show (⟨s.toArray⟩ : ByteArray).extract i k = ⟨((s.drop i).take (k - i)).toArray⟩ by rw [bytes_extract])
                  rw [HK.out] at HO
                  by_cases hp : CL.prs ((s.drop i).take (k - i)) = 0
                  · have HT2 := Lib.hid (HBad.out (by rw [HO.out, if_pos hp]; decide))
                    rw [HO.out, if_pos hp] at HT2
                    have hq : (CL.prs ((s.drop i).take (k - i)) != 0) = false := by simp [hp]
                    clear HGood HBad HO HK HA hp
                    generalize (s.drop i).take (k - i) = wd at *
                    have hw := HW.out
                    go_wp2_with (go_at_call 53; refine (RParse_c wd _).mono ?_; rintro e w' ⟨rfl, rfl⟩)
                    go_ret3
                    exact tokPost_err HT2.out hx
                  · have HT2 := Lib.hid (HGood.out (by rw [HO.out, if_neg hp]))
                    rw [HO.out, if_neg hp] at HT2
                    simp only [show i + (k - i) = k by omega] at HT2
                    have hq : (CL.prs ((s.drop i).take (k - i)) != 0) = true := by simpa using hp
                    clear HGood HBad HO HK HA hp
                    generalize (s.drop i).take (k - i) = wd at *
                    have hw := HW.out
                    go_wp2_with (first
                      | (go_at_call 53; refine (RParse_c wd _).mono ?_; rintro e w' ⟨rfl, rfl⟩)
                      | (at_builtin; refine wpList_append_sits _ rfl (.tmp 90) (.tmp 98) _ rfl w.heap.size 52 4 40 _ Tryd.underlying48 tok_info rfl (by omega) _ _ _ rfl (hown.alloc _) _ _ _ [.int .i64 2, .string ⟨wd.toArray⟩, .int .i64 (CL.prs wd), .int .i64 i] rfl rfl (Sits.new _ _ _) (by simp [Value.oneCell']) (by simp only [maxLen]; omega) (by omega) (by simp; omega) ?_; intro v' w' hown' hb' _hg))
                    have hx2 := ((hx.alloc hxs (.cells #[.int .i64 2, .string ⟨wd.toArray⟩, .int .i64 (CL.prs wd), .int .i64 i] 52)).trans hb')
                    clear hb'
                    go_roundw
                    case rel => exact ⟨k, acc ++ [⟨2, wd, CL.prs wd, i⟩], by omega, by simp; omega, rfl, tok_own hown' (by simp [tkc]), hx2, HT2⟩
                    case measure => simp [intOf]; omega
            · simp only [Bool.not_eq_true] at hc2
              have c2 : (((⟨s.toArray⟩ : ByteArray)[i]'hlt).toNat : Int) < 65 ∨ (65 ≤ (((⟨s.toArray⟩ : ByteArray)[i]'hlt).toNat : Int) ∧ 90 < (((⟨s.toArray⟩ : ByteArray)[i]'hlt).toNat : Int)) := by
                have := of_decide_eq_false hc2
                show (s[i].toNat : Int) < 65 ∨ (65 ≤ (s[i].toNat : Int) ∧ 90 < (s[i].toNat : Int))
                omega
              by_cases hc3 : CL.at8 CL.dig s[i] = true
              · as_aux_lemma =>
                have c3 : 48 ≤ (((⟨s.toArray⟩ : ByteArray)[i]'hlt).toNat : Int) ∧ (((⟨s.toArray⟩ : ByteArray)[i]'hlt).toNat : Int) ≤ 57 := of_decide_eq_true hc3
                obtain ⟨c31, c32⟩ := c3
                have c2 : (((⟨s.toArray⟩ : ByteArray)[i]'hlt).toNat : Int) < 65 := by omega
                have HO := Lib.hid (CL.one_num (i := i) hlt hc1 hc2 hc3)
                have HP := Lib.hid (show 0 < CL.spanN CL.dig (s.drop i) by rw [List.drop_eq_getElem_cons hlt]; exact CL.spanN_pos hc3)
                clear hsp hc1 hc2 hc3
                go_wp2_with (first
                  | (go_at_call 50; refine (RSpace_c _ _).mono ?_; rintro e w' ⟨rfl, rfl⟩)
                  | (go_at_call 51; refine (RLetter_c _ _).mono ?_; rintro e w' ⟨rfl, rfl⟩))
                go_loop [6, 11] (fun p n => ∃ k : Nat, i ≤ k ∧ k ≤ s.length ∧ p = .int .i64 k ∧ n = .int .i64 (CL.val ((s.drop i).take (min 4 (k - i)))) ∧ Hid (∀ m, i ≤ m → m < k → (h' : m < s.length) → CL.at8 CL.dig s[m] = true)) (fun p _ => s.length - (intOf p).toNat)
                case atStart => exact ⟨i, by omega, by omega, rfl, by simp [CL.val], fun m h1 h2 => by omega⟩
                case round =>
                  obtain ⟨k, hik, hk, rfl, rfl, HA⟩ := hrel
                  by_cases hlt2 : k < s.length
                  · by_cases hc3 : CL.at8 CL.dig s[k] = true
                    · have c3 : 48 ≤ (((⟨s.toArray⟩ : ByteArray)[k]'hlt2).toNat : Int) ∧ (((⟨s.toArray⟩ : ByteArray)[k]'hlt2).toNat : Int) ≤ 57 := of_decide_eq_true hc3
                      obtain ⟨c31, c32⟩ := c3
                      have HA2 := Lib.hid (all_step HA.out hlt2 hc3)
                      clear hc3
                      by_cases h4 : k - i < 4
                      · have g1 : (k : Int) - (i : Int) < 4 := by omega
                        have hv := val_span hk HA.out (Nat.le_refl (k - i))
                        have HV := Lib.hid (val_next hik hlt2)
                        obtain ⟨hv1, hv2⟩ := hv
                        have hv3 : CL.val ((s.drop i).take (k - i)) < 1000 := by
                          have : (10 : Int) ^ (k - i) ≤ 10 ^ 3 := by
                            rcases (show k - i = 0 ∨ k - i = 1 ∨ k - i = 2 ∨ k - i = 3 by omega) with h | h | h | h <;> rw [h] <;> decide
                          omega
                        clear hv2
                        have hm1 : min 4 (k - i) = k - i := by omega
                        have HM2 := Lib.hid (show min 4 (k + 1 - i) = k - i + 1 by omega)
                        rw [hm1]
                        clear hm1
                        generalize CL.val ((s.drop i).take (k - i)) = vv at *
                        have hcb : (((⟨s.toArray⟩ : ByteArray)[k]'hlt2).toNat : Int) = (s[k].toNat : Int) := rfl
                        clear hcb
                        go_wp2
                        go_round
                        case rel => exact ⟨k + 1, by omega, by omega, by go_num, by rw [HM2.out, HV.out]; rfl, HA2⟩
                        case measure => simp [intOf]; omega
                      · have g1 : (4 : Int) ≤ (k : Int) - (i : Int) := by omega
                        have HM2 := Lib.hid (show min 4 (k + 1 - i) = min 4 (k - i) by omega)
                        generalize min 4 (k - i) = mm at *
                        go_wp2
                        go_round
                        case rel => exact ⟨k + 1, by omega, by omega, by go_num, by rw [HM2.out], HA2⟩
                        case measure => simp [intOf]; omega
                    · simp only [Bool.not_eq_true] at hc3
                      have c3 : (((⟨s.toArray⟩ : ByteArray)[k]'hlt2).toNat : Int) < 48 ∨ (48 ≤ (((⟨s.toArray⟩ : ByteArray)[k]'hlt2).toNat : Int) ∧ 57 < (((⟨s.toArray⟩ : ByteArray)[k]'hlt2).toNat : Int)) := by
                        have := of_decide_eq_false hc3
                        show (s[k].toNat : Int) < 48 ∨ (48 ≤ (s[k].toNat : Int) ∧ 57 < (s[k].toNat : Int))
                        omega
                      have HK := Lib.hid (CL.spanN_of hik hk (fun m h1 h => HA.out m h1 h (by omega)) (fun _ => hc3))
                      clear hc3
                      rcases c3 with c3 | ⟨c3, c4⟩
                      · as_aux_lemma =>
                        have hik' : i < k := by have := HP.out; rw [HK.out] at this; omega
                        clear HP
                        rw [HK.out] at HO
                        have hz : ((((⟨s.toArray⟩ : ByteArray)[i]'hlt).toNat : Int) == 48) = decide (s[i] = 48) := by
                          rw [Bool.eq_iff_iff]; simp only [beq_iff_eq, decide_eq_true_eq]
                          exact ⟨fun h => UInt8.toNat_inj.1 (by have : s[i].toNat = 48 := by exact_mod_cast h
                                                                simpa using this), fun h => by show ((s[i]).toNat : Int) = 48; rw [h]; rfl⟩
                        by_cases hlen : 4 < k - i ∨ (1 < k - i ∧ s[i] = 48)
                        · have HT2 := Lib.hid (HBad.out (by rw [HO.out, if_pos hlen]; decide))
                          rw [HO.out, if_pos hlen] at HT2
                          clear HGood HBad HO HK HA
                          by_cases h4 : 4 < k - i
                          · have g1 : (4 : Int) < (k : Int) - (i : Int) := by omega
                            clear hz hlen
                            go_wp2
                            go_ret3
                            exact tokPost_err HT2.out hx
                          · have g1 : (k : Int) - (i : Int) ≤ 4 := by omega
                            have h1 : 1 < k - i := by rcases hlen with h | h; exact absurd h h4; exact h.1
                            have g2 : (1 : Int) < (k : Int) - (i : Int) := by omega
                            have hz1 : ((((⟨s.toArray⟩ : ByteArray)[i]'hlt).toNat : Int) == 48) = true := by
                              rw [hz]; rcases hlen with h | h; exact absurd h h4; simp [h.2]
                            clear hz hlen
                            go_wp2
                            go_ret3
                            exact tokPost_err HT2.out hx
                        · have HT2 := Lib.hid (HGood.out (by rw [HO.out, if_neg hlen]))
                          rw [HO.out, if_neg hlen] at HT2
                          simp only [show i + (k - i) = k by omega] at HT2
                          have g1 : (k : Int) - (i : Int) ≤ 4 := by omega
                          have hg1 : (k : Int) - (i : Int) ≤ 1 ∨ ((1 : Int) < (k : Int) - (i : Int) ∧ ((((⟨s.toArray⟩ : ByteArray)[i]'hlt).toNat : Int) == 48) = false) := by
                            rcases Nat.lt_or_ge 1 (k - i) with h | h
                            · exact .inr ⟨by omega, by rw [hz]; simp; intro h'; exact hlen (.inr ⟨h, h'⟩)⟩
                            · exact .inl (by omega)
                          have hmin : min 4 (k - i) = k - i := by omega
                          rw [hmin]
                          clear HGood HBad HO HK HA hz hlen hmin
                          generalize CL.val ((s.drop i).take (k - i)) = vv at *
                          rcases hg1 with hg1 | ⟨hg0, hg1⟩
                          all_goals
                            go_wp2_with (at_builtin; refine wpList_append_sits _ rfl (.tmp 151) (.tmp 155) _ rfl w.heap.size 52 4 40 _ Tryd.underlying48 tok_info rfl (by omega) _ _ _ rfl (hown.alloc _) _ _ _ [.int .i64 3, .string ⟨#[]⟩, .int .i64 vv, .int .i64 i] rfl rfl (Sits.new _ _ _) (by simp [Value.oneCell']) (by simp only [maxLen]; omega) (by omega) (by simp; omega) ?_; intro v' w' hown' hb' _hg)
                            have hx2 := ((hx.alloc hxs (.cells #[.int .i64 3, .string ⟨#[]⟩, .int .i64 vv, .int .i64 i] 52)).trans hb')
                            clear hb'
                            go_roundw
                            case rel => exact ⟨k, acc ++ [⟨3, [], vv, i⟩], by omega, by simp; omega, rfl, tok_own hown' (by simp [tkc]), hx2, HT2⟩
                            case measure => simp [intOf]; omega
                      · as_aux_lemma =>
                        have hik' : i < k := by have := HP.out; rw [HK.out] at this; omega
                        clear HP
                        rw [HK.out] at HO
                        have hz : ((((⟨s.toArray⟩ : ByteArray)[i]'hlt).toNat : Int) == 48) = decide (s[i] = 48) := by
                          rw [Bool.eq_iff_iff]; simp only [beq_iff_eq, decide_eq_true_eq]
                          exact ⟨fun h => UInt8.toNat_inj.1 (by have : s[i].toNat = 48 := by exact_mod_cast h
                                                                simpa using this), fun h => by show ((s[i]).toNat : Int) = 48; rw [h]; rfl⟩
                        by_cases hlen : 4 < k - i ∨ (1 < k - i ∧ s[i] = 48)
                        · have HT2 := Lib.hid (HBad.out (by rw [HO.out, if_pos hlen]; decide))
                          rw [HO.out, if_pos hlen] at HT2
                          clear HGood HBad HO HK HA
                          by_cases h4 : 4 < k - i
                          · have g1 : (4 : Int) < (k : Int) - (i : Int) := by omega
                            clear hz hlen
                            go_wp2
                            go_ret3
                            exact tokPost_err HT2.out hx
                          · have g1 : (k : Int) - (i : Int) ≤ 4 := by omega
                            have h1 : 1 < k - i := by rcases hlen with h | h; exact absurd h h4; exact h.1
                            have g2 : (1 : Int) < (k : Int) - (i : Int) := by omega
                            have hz1 : ((((⟨s.toArray⟩ : ByteArray)[i]'hlt).toNat : Int) == 48) = true := by
                              rw [hz]; rcases hlen with h | h; exact absurd h h4; simp [h.2]
                            clear hz hlen
                            go_wp2
                            go_ret3
                            exact tokPost_err HT2.out hx
                        · have HT2 := Lib.hid (HGood.out (by rw [HO.out, if_neg hlen]))
                          rw [HO.out, if_neg hlen] at HT2
                          simp only [show i + (k - i) = k by omega] at HT2
                          have g1 : (k : Int) - (i : Int) ≤ 4 := by omega
                          have hg1 : (k : Int) - (i : Int) ≤ 1 ∨ ((1 : Int) < (k : Int) - (i : Int) ∧ ((((⟨s.toArray⟩ : ByteArray)[i]'hlt).toNat : Int) == 48) = false) := by
                            rcases Nat.lt_or_ge 1 (k - i) with h | h
                            · exact .inr ⟨by omega, by rw [hz]; simp; intro h'; exact hlen (.inr ⟨h, h'⟩)⟩
                            · exact .inl (by omega)
                          have hmin : min 4 (k - i) = k - i := by omega
                          rw [hmin]
                          clear HGood HBad HO HK HA hz hlen hmin
                          generalize CL.val ((s.drop i).take (k - i)) = vv at *
                          rcases hg1 with hg1 | ⟨hg0, hg1⟩
                          all_goals
                            go_wp2_with (at_builtin; refine wpList_append_sits _ rfl (.tmp 151) (.tmp 155) _ rfl w.heap.size 52 4 40 _ Tryd.underlying48 tok_info rfl (by omega) _ _ _ rfl (hown.alloc _) _ _ _ [.int .i64 3, .string ⟨#[]⟩, .int .i64 vv, .int .i64 i] rfl rfl (Sits.new _ _ _) (by simp [Value.oneCell']) (by simp only [maxLen]; omega) (by omega) (by simp; omega) ?_; intro v' w' hown' hb' _hg)
                            have hx2 := ((hx.alloc hxs (.cells #[.int .i64 3, .string ⟨#[]⟩, .int .i64 vv, .int .i64 i] 52)).trans hb')
                            clear hb'
                            go_roundw
                            case rel => exact ⟨k, acc ++ [⟨3, [], vv, i⟩], by omega, by simp; omega, rfl, tok_own hown' (by simp [tkc]), hx2, HT2⟩
                            case measure => simp [intOf]; omega
                  · have HK := Lib.hid (CL.spanN_of (p := CL.dig) hik hk (fun m h1 h => HA.out m h1 h (by omega)) (fun h => absurd h hlt2))
                    as_aux_lemma =>
                      have hik' : i < k := by have := HP.out; rw [HK.out] at this; omega
                      clear HP
                      rw [HK.out] at HO
                      have hz : ((((⟨s.toArray⟩ : ByteArray)[i]'hlt).toNat : Int) == 48) = decide (s[i] = 48) := by
                        rw [Bool.eq_iff_iff]; simp only [beq_iff_eq, decide_eq_true_eq]
                        exact ⟨fun h => UInt8.toNat_inj.1 (by have : s[i].toNat = 48 := by exact_mod_cast h
                                                              simpa using this), fun h => by show ((s[i]).toNat : Int) = 48; rw [h]; rfl⟩
                      by_cases hlen : 4 < k - i ∨ (1 < k - i ∧ s[i] = 48)
                      · have HT2 := Lib.hid (HBad.out (by rw [HO.out, if_pos hlen]; decide))
                        rw [HO.out, if_pos hlen] at HT2
                        clear HGood HBad HO HK HA
                        by_cases h4 : 4 < k - i
                        · have g1 : (4 : Int) < (k : Int) - (i : Int) := by omega
                          clear hz hlen
                          go_wp2
                          go_ret3
                          exact tokPost_err HT2.out hx
                        · have g1 : (k : Int) - (i : Int) ≤ 4 := by omega
                          have h1 : 1 < k - i := by rcases hlen with h | h; exact absurd h h4; exact h.1
                          have g2 : (1 : Int) < (k : Int) - (i : Int) := by omega
                          have hz1 : ((((⟨s.toArray⟩ : ByteArray)[i]'hlt).toNat : Int) == 48) = true := by
                            rw [hz]; rcases hlen with h | h; exact absurd h h4; simp [h.2]
                          clear hz hlen
                          go_wp2
                          go_ret3
                          exact tokPost_err HT2.out hx
                      · have HT2 := Lib.hid (HGood.out (by rw [HO.out, if_neg hlen]))
                        rw [HO.out, if_neg hlen] at HT2
                        simp only [show i + (k - i) = k by omega] at HT2
                        have g1 : (k : Int) - (i : Int) ≤ 4 := by omega
                        have hg1 : (k : Int) - (i : Int) ≤ 1 ∨ ((1 : Int) < (k : Int) - (i : Int) ∧ ((((⟨s.toArray⟩ : ByteArray)[i]'hlt).toNat : Int) == 48) = false) := by
                          rcases Nat.lt_or_ge 1 (k - i) with h | h
                          · exact .inr ⟨by omega, by rw [hz]; simp; intro h'; exact hlen (.inr ⟨h, h'⟩)⟩
                          · exact .inl (by omega)
                        have hmin : min 4 (k - i) = k - i := by omega
                        rw [hmin]
                        clear HGood HBad HO HK HA hz hlen hmin
                        generalize CL.val ((s.drop i).take (k - i)) = vv at *
                        rcases hg1 with hg1 | ⟨hg0, hg1⟩
                        all_goals
                          go_wp2_with (at_builtin; refine wpList_append_sits _ rfl (.tmp 151) (.tmp 155) _ rfl w.heap.size 52 4 40 _ Tryd.underlying48 tok_info rfl (by omega) _ _ _ rfl (hown.alloc _) _ _ _ [.int .i64 3, .string ⟨#[]⟩, .int .i64 vv, .int .i64 i] rfl rfl (Sits.new _ _ _) (by simp [Value.oneCell']) (by simp only [maxLen]; omega) (by omega) (by simp; omega) ?_; intro v' w' hown' hb' _hg)
                          have hx2 := ((hx.alloc hxs (.cells #[.int .i64 3, .string ⟨#[]⟩, .int .i64 vv, .int .i64 i] 52)).trans hb')
                          clear hb'
                          go_roundw
                          case rel => exact ⟨k, acc ++ [⟨3, [], vv, i⟩], by omega, by simp; omega, rfl, tok_own hown' (by simp [tkc]), hx2, HT2⟩
                          case measure => simp [intOf]; omega
              · simp only [Bool.not_eq_true] at hc3
                have c3 : (((⟨s.toArray⟩ : ByteArray)[i]'hlt).toNat : Int) < 48 ∨ (48 ≤ (((⟨s.toArray⟩ : ByteArray)[i]'hlt).toNat : Int) ∧ 57 < (((⟨s.toArray⟩ : ByteArray)[i]'hlt).toNat : Int)) := by
                  have := of_decide_eq_false hc3
                  show (s[i].toNat : Int) < 48 ∨ (48 ≤ (s[i].toNat : Int) ∧ 57 < (s[i].toNat : Int))
                  omega
                have HO := Lib.hid (CL.one_pun (i := i) hlt hc1 hc2 hc3)
                have hsl := slice_one (P := Tryd.prog) 9 Tryd.underlying9 s i hlt
                have hg : (((⟨s.toArray⟩ : ByteArray)[i]'hlt).toNat : Int) < 48 ∨ (57 < (((⟨s.toArray⟩ : ByteArray)[i]'hlt).toNat : Int) ∧ (((⟨s.toArray⟩ : ByteArray)[i]'hlt).toNat : Int) < 65) ∨ 90 < (((⟨s.toArray⟩ : ByteArray)[i]'hlt).toNat : Int) := by omega
                clear c2 c3
                by_cases hp : CL.at8 CL.pun s[i] = true
                · have HT2 := Lib.hid (HGood.out (by rw [HO.out, if_pos hp]))
                  rw [HO.out, if_pos hp] at HT2
                  have hq := CL.pun_yes hp
                  clear HGood HBad HO hp hsp hc1 hc2 hc3
                  have hq : ((((⟨s.toArray⟩ : ByteArray)[i]'hlt).toNat : Int) < 48 ∧ _) ∨ ((((⟨s.toArray⟩ : ByteArray)[i]'hlt).toNat : Int) < 48 ∧ _) ∨ ((((⟨s.toArray⟩ : ByteArray)[i]'hlt).toNat : Int) < 48 ∧ _) ∨ ((57 < (((⟨s.toArray⟩ : ByteArray)[i]'hlt).toNat : Int) ∧ (((⟨s.toArray⟩ : ByteArray)[i]'hlt).toNat : Int) < 65) ∧ _) ∨ ((((⟨s.toArray⟩ : ByteArray)[i]'hlt).toNat : Int) < 48 ∧ _) :=
                    hq.imp (fun h => ⟨pun_val h.1 (by decide), h⟩) fun hq => hq.imp (fun h => ⟨pun_val h.2.1 (by decide), h⟩) fun hq => hq.imp (fun h => ⟨pun_val h.2.2.1 (by decide), h⟩) fun hq => hq.imp (fun h => ⟨pun_val2 h.2.2.2.1, h⟩) fun h => ⟨pun_val h.2.2.2.2 (by decide), h⟩
                  clear hg
                  rcases hq with hq | hq | hq | hq | hq
                  all_goals as_aux_lemma =>
                    obtain ⟨hg, d1, d2, d3, d4, d5⟩ := hq
                    have b1 : ((((⟨s.toArray⟩ : ByteArray)[i]'hlt).toNat : Int) != 40) = _ := congrArg not d1
                    have b2 : ((((⟨s.toArray⟩ : ByteArray)[i]'hlt).toNat : Int) != 41) = _ := congrArg not d2
                    have b3 : ((((⟨s.toArray⟩ : ByteArray)[i]'hlt).toNat : Int) != 44) = _ := congrArg not d3
                    have b4 : ((((⟨s.toArray⟩ : ByteArray)[i]'hlt).toNat : Int) != 58) = _ := congrArg not d4
                    have b5 : ((((⟨s.toArray⟩ : ByteArray)[i]'hlt).toNat : Int) != 42) = _ := congrArg not d5
                    clear d1 d2 d3 d4 d5
                    try obtain ⟨hg, hg'⟩ := hg
                    go_wp2_with (first
                      | (go_at_call 50; refine (RSpace_c _ _).mono ?_; rintro e w' ⟨rfl, rfl⟩)
                      | (go_at_call 51; refine (RLetter_c _ _).mono ?_; rintro e w' ⟨rfl, rfl⟩)
                      | (at_builtin; refine wpList_append_sits _ rfl (.tmp 178) (.tmp 185) _ rfl w.heap.size 52 4 40 _ Tryd.underlying48 tok_info rfl (by omega) _ _ _ rfl (hown.alloc _) _ _ _ [.int .i64 4, .string ⟨#[s[i]]⟩, .int .i64 0, .int .i64 i] rfl rfl (Sits.new _ _ _) (by simp [Value.oneCell']) (by simp only [maxLen]; omega) (by omega) (by simp; omega) ?_; intro v' w' hown' hb' _hg))
                    have hx2 := ((hx.alloc hxs (.cells #[.int .i64 4, .string ⟨#[s[i]]⟩, .int .i64 0, .int .i64 i] 52)).trans hb')
                    clear hb'
                    go_roundw
                    case rel => exact ⟨i + 1, acc ++ [⟨4, [s[i]], 0, i⟩], by omega, by simp; omega, by go_num, tok_own hown' (by simp [tkc]), hx2, HT2⟩
                    case measure => simp [intOf]; omega
                · have HT2 := Lib.hid (HBad.out (by rw [HO.out, if_neg hp]; decide))
                  rw [HO.out, if_neg hp] at HT2
                  have hq := CL.pun_no hp
                  clear HGood HBad HO hp hsp hc1 hc2 hc3
                  obtain ⟨d1, d2, d3, d4, d5⟩ := hq
                  have b1 : ((((⟨s.toArray⟩ : ByteArray)[i]'hlt).toNat : Int) != 40) = _ := congrArg not d1
                  have b2 : ((((⟨s.toArray⟩ : ByteArray)[i]'hlt).toNat : Int) != 41) = _ := congrArg not d2
                  have b3 : ((((⟨s.toArray⟩ : ByteArray)[i]'hlt).toNat : Int) != 44) = _ := congrArg not d3
                  have b4 : ((((⟨s.toArray⟩ : ByteArray)[i]'hlt).toNat : Int) != 58) = _ := congrArg not d4
                  have b5 : ((((⟨s.toArray⟩ : ByteArray)[i]'hlt).toNat : Int) != 42) = _ := congrArg not d5
                  clear d1 d2 d3 d4 d5
                  rcases hg with hg | ⟨hg, hg'⟩ | hg
                  all_goals as_aux_lemma =>
                    go_wp2_with (first
                      | (go_at_call 50; refine (RSpace_c _ _).mono ?_; rintro e w' ⟨rfl, rfl⟩)
                      | (go_at_call 51; refine (RLetter_c _ _).mono ?_; rintro e w' ⟨rfl, rfl⟩))
                    go_ret3
                    exact tokPost_err HT2.out hx
      · have HT2 := Lib.hid (HI.out.trans (CL.tokF_end (by omega)))
        obtain rfl : i = s.length := by omega
        clear HI
        go_wp2_with (at_builtin; refine wpList_append_sits _ rfl (.tmp 187) (.tmp 191) _ rfl w.heap.size 52 4 40 _ Tryd.underlying48 tok_info rfl (by omega) _ _ _ rfl (hown.alloc _) _ _ _ [.int .i64 5, .string ⟨#[]⟩, .int .i64 0, .int .i64 s.length] rfl rfl (Sits.new _ _ _) (by simp [Value.oneCell']) (by simp only [maxLen]; omega) (by omega) (by simp; omega) ?_; intro v' w' hown' hb' _hg)
        go_ret3
        exact tokPost_ok HT2.out hown' ((hx.alloc hxs _).trans hb')
end Go.Proofs.YtlfnpkjfnafeaaaDoor
