
/- The reference's reader, ninth part: expr at every level. -/
import Derived.Test.YtlfnpkjfnafeaaaDoorRr8
import Derived.Test.YtlfnpkjfnafeaaaDoorRr8y
import Derived.Test.YtlfnpkjfnafeaaaDoorRr8n
namespace Go.Proofs.YtlfnpkjfnafeaaaDoor
open Go.RowKit
set_option linter.unusedVariables false
set_option maxRecDepth 100000
variable {w : World} {g B base : Nat} {A : Option Addr} {c : Nat} {all : List CL.Tk} {v : Value} {k : Nat} {s : CL.PS}
theorem ErPost.rx {r : CL.PR CL.Ex} {p m : Int} {e : Ending} {w' : World} (hr : r = .error (p, m)) (hm : m ≠ 0) (h : ErPost w g v p m e w') : RxPost w g B base A c all v r e w' := RxPost.err hr h.1 hm h.2.1 h.2.2
theorem reader.expr_c : ∀ (d : Nat) (lv : Int), lv = 5 - d → 1 ≤ lv → RxC d lv
  | 0, lv, hlv, h1 => by
    intro w g B base A c all v k s h hn h3
    obtain ⟨tk, tt, tn, tp, htt⟩ : ∃ tk tt tn tp, s.hd = (⟨tk, tt, tn, tp⟩ : CL.Tk) := ⟨_, _, _, _, rfl⟩
    unfold CL.exprP
    rw [htt]
    cases hb : CL.beginsT ⟨tk, tt, tn, tp⟩ with
    | false => exact (reader.expr_bad h lv htt hb).mono fun e w' he => ErPost.rx rfl (by decide) he
    | true => exact (reader.expr_deep h lv htt hb hn (.inl (by omega))).mono fun e w' he => ErPost.rx rfl (by decide) he
  | d + 1, lv, hlv, h1 => by
    intro w g B base A c all v k s h hn h3
    have hE := reader.expr_c d (lv + 1) (by omega) (by omega)
    obtain ⟨tk, tt, tn, tp, htt⟩ : ∃ tk tt tn tp, s.hd = (⟨tk, tt, tn, tp⟩ : CL.Tk) := ⟨_, _, _, _, rfl⟩
    unfold CL.exprP
    rw [htt]
    cases hb : CL.beginsT ⟨tk, tt, tn, tp⟩ with
    | false => exact (reader.expr_bad h lv htt hb).mono fun e w' he => ErPost.rx rfl (by decide) he
    | true =>
      simp only [Bool.true_eq_false, if_false]
      by_cases hc : 24 < s.n + 1
      · rw [if_pos hc]; exact (reader.expr_deep h lv htt hb hn (.inr hc)).mono fun e w' he => ErPost.rx rfl (by decide) he
      · rw [if_neg hc]
        by_cases hk3 : tk = 3
        · subst hk3; rw [if_pos rfl]; exact reader.expr_num d lv hE h htt h1 (by omega) (by omega) h3
        · rw [if_neg hk3]
          have hk1 : tk = 1 ∧ (tt = CL.wAll ∨ tt = CL.wAny ∨ CL.rsv tt = false) := by
            simp only [CL.beginsT, decide_eq_true_eq] at hb
            rcases hb with hb | hb
            · exact absurd hb hk3
            · exact hb
          obtain ⟨rfl, hk⟩ := hk1
          by_cases ha : tt = CL.wAll
          · subst ha; rw [if_pos rfl]; exact reader.expr_all d lv hE h htt h1 (by omega) (by omega) h3
          · rw [if_neg ha]
            by_cases hy : tt = CL.wAny
            · subst hy; rw [if_pos rfl]; exact reader.expr_any d lv hE h htt h1 (by omega) (by omega) h3
            · rw [if_neg hy]
              have hr : CL.rsv tt = false := by rcases hk with hk | hk | hk; exact absurd hk ha; exact absurd hk hy; exact hk
              have hok := h.ok (all[k]'h.hk) (List.getElem_mem _)
              rw [← h.hd, htt] at hok
              obtain ⟨_, r, e1, e2, _⟩ := hok.1 rfl
              exact reader.expr_atom lv h htt hr h1 (by omega) (by omega) (by simp only at e1; rw [e1]; simp only [List.length_cons, maxLen]; omega)
end Go.Proofs.YtlfnpkjfnafeaaaDoor
