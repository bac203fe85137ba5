/- The walks of package mode and of its reference, third part: Group and Conflicts; the law's own awake. -/
import Derived.Test.YtpgmjdffkfibbaaDoorMw2
namespace Go.Proofs.YtpgmjdffkfibbaaDoor
open Go.RowKit
theorem int_info : (Tryd.prog.info? 3).map (fun i => (i.zero, i.size, i.bytes)) = some (some (.int .i64 0), 1, 8) := by kernel_rfl
theorem take_foldl {β : Type} (f : β → Int → β) (z : β) {L : List Int} {k : Nat} (h : k < L.length) : (L.take (k + 1)).foldl f z = f ((L.take k).foldl f z) L[k] := by
  rw [List.take_succ_eq_append_getElem h, List.foldl_append]; rfl
def cnf (m : Int) : List Int := if CL.vld m then [1, 2, 3, 4, 5].filter (fun o => !CL.cmp m o) else []
theorem Group_c (zs : List Int) (A : Option Addr) (c : Nat) (w : World) (hl : zs.length ≤ maxLen) (hr : Sits w A (ints zs)) : Calls Tryd.prog 24 #[.slice A zs.length c] w fun e w' => e = .returned (.int .i64 (CL.grp zs)) ∧ Ext w w' := by
  unfold maxLen at hl
  cases zs with
  | nil =>
    have h0 : ((([] : List Int).length : Int) == 0) = true := rfl
    go_enter Tryd.func24, Tryd.ntmps24
    go_wp2
    go_ret
    exact ⟨rfl, Below.refl _ _⟩
  | cons z zs =>
    obtain ⟨b, o, rfl, hc⟩ := hr.get (by simp [ints])
    have h0 : (((z :: zs).length : Int) == 0) = false := by simp; omega
    have h1 : w.cell? ⟨b, o, none⟩ = some (.int .i64 z) := hc 0 _ rfl
    generalize hL : z :: zs = L at *
    have HL := Lib.hid hL; clear hL
    have HC := Lib.hid hc; clear hc
    have hl0 : 0 < L.length := by rw [← HL.out]; simp
    go_enter Tryd.func24, Tryd.ntmps24
    go_wp2
    go_loopw [3, 14] (fun r i wr => ∃ k : Nat, k ≤ L.length ∧ i = .int .i64 k ∧ r = .int .i64 ((L.take k).foldl CL.sup z) ∧ Ext w wr) (fun _ i _ => L.length - (intOf i).toNat)
    case atStart => exact ⟨0, by omega, rfl, by simp, Below.refl _ _⟩
    case round =>
      obtain ⟨k, hk, rfl, rfl, hx⟩ := hrel
      obtain ⟨wo, rfl⟩ : ∃ wo : World, wo = wr := ⟨_, rfl⟩
      by_cases hlt : k < L.length
      · have hck : wo.cell? ⟨b, o + k, none⟩ = some (.int .i64 L[k]) := hx.cell (HC.out k _ (ints_get hlt))
        have HS := Lib.hid (take_foldl CL.sup z hlt)
        go_wp2_with (go_at_call 17; refine (Sup_c _ _ _).mono ?_; rintro e w' ⟨rfl, hx1⟩; replace hx := hx.tr hx1; clear hx1)
        go_roundw
        case rel => exact ⟨k + 1, by omega, by go_num, by rw [HS.out], hx⟩
        case measure => simp [intOf]; omega
      · go_wp2
        go_ret
        refine ⟨ret_int ?_, hx⟩
        rw [List.take_of_length_le (by omega), ← HL.out]
        rfl
def cn (m k : Int) : List Int := ([1, 2, 3, 4, 5].filter (fun o : Int => o < k)).filter (fun o => !CL.cmp m o)
theorem cn_succ {m k : Int} (h1 : 1 ≤ k) (h2 : k ≤ 5) : cn m (k + 1) = cn m k ++ if (!CL.cmp m k) = true then [k] else [] := by
  have hk : k = 1 ∨ k = 2 ∨ k = 3 ∨ k = 4 ∨ k = 5 := by omega
  have e : ([1, 2, 3, 4, 5] : List Int).filter (fun o : Int => o < k + 1) = ([1, 2, 3, 4, 5] : List Int).filter (fun o : Int => o < k) ++ [k] := by
    rcases hk with rfl | rfl | rfl | rfl | rfl <;> rfl
  unfold cn
  rw [e, List.filter_append]
  cases h : CL.cmp m k <;> simp [h]
theorem cn_yes {m k : Int} {w : World} {B : Nat} {E : TypeId} {v : Value} (h1 : 1 ≤ k) (h2 : k ≤ 5) (h : (!CL.cmp m k) = true) (ho : w.ownsRow B E 1 v ((cn m k).length + 1) (ints (cn m k) ++ [.int .i64 k])) :
    w.ownsRow B E 1 v (cn m (k + 1)).length (ints (cn m (k + 1))) := by
  rw [cn_succ h1 h2, if_pos h, ints_snoc, List.length_append]; exact ho
theorem cn_no {m k : Int} (h1 : 1 ≤ k) (h2 : k ≤ 5) (h : (!CL.cmp m k) = false) : cn m (k + 1) = cn m k := by
  rw [cn_succ h1 h2, h]; simp
theorem cn_end {m : Int} (h : CL.vld m = true) : cn m 6 = cnf m := by simp [cn, cnf, h]
theorem Conflicts_c (m : Int) (w : World) (hT : Tab w) : Calls Tryd.prog 19 #[.int .i64 m] w fun e w' => ∃ v, e = .returned v ∧ w'.ownsRow w.heap.size 3 1 v (cnf m).length (ints (cnf m)) ∧ Ext w w' := by
  by_cases hm : CL.vld m = true
  · go_enter Tryd.func19, Tryd.ntmps19
    go_wp2_with (go_at_call 11; refine (Valid_c _ _).mono ?_; rintro e w' ⟨rfl, rfl⟩)
    have hcb : ∀ k : Int, 1 ≤ k → k ≤ 6 → ((cn m k).length : Int) ≤ 5 := fun k _ _ => by
      have := List.length_filter_le (fun o => !CL.cmp m o) ([1, 2, 3, 4, 5].filter (fun o : Int => o < k))
      have := List.length_filter_le (fun o : Int => decide (o < k)) [1, 2, 3, 4, 5]
      rw [show ([1, 2, 3, 4, 5] : List Int).length = 5 from rfl] at this
      unfold cn; omega
    have HB := Lib.hid hcb; clear hcb
    go_loopw [3, 4] (fun v i wr => ∃ k : Int, 1 ≤ k ∧ k ≤ 6 ∧ i = .int .i64 k ∧ wr.ownsRow w.heap.size 3 1 v (cn m k).length (ints (cn m k)) ∧ Ext w wr) (fun _ i _ => (6 - intOf i).toNat)
    case atStart => exact ⟨1, by omega, by omega, rfl, World.ownsRow_nil _ _ _ _, Below.refl _ _⟩
    case round =>
      obtain ⟨k, hk1, hk2, rfl, hown, hx⟩ := hrel
      obtain ⟨wo, rfl⟩ : ∃ wo : World, wo = wr := ⟨_, rfl⟩
      by_cases hk : k ≤ 5
      · have hcl := HB.out k hk1 (by omega)
        go_wp2_with (first
          | (go_at_call 13; refine (Compatible_c _ _ _ (hT.ext hx)).mono ?_; rintro e w' ⟨rfl, rfl⟩)
          | (at_builtin; refine wpList_append_sits _ rfl (.tmp 16) (.tmp 18) _ rfl w.heap.size 3 1 8 _ Tryd.underlying27 int_info rfl (by omega) _ _ _ rfl (hown.alloc _) _ _ _ [.int .i64 k] rfl rfl (Sits.new _ _ _) ?_ ?_ ?_ ?_ ?_))
        · simp [Value.oneCell']
        · simp only [maxLen]; omega
        · omega
        · have := hx.size; simp; omega
        · intro v' w' hown' hb'
          have hc : (!CL.cmp m k) = true := by assumption
          replace hx := (hx.alloc hx.size (.cells #[.int .i64 k] 3)).trans hb'
          clear hb' hown
          go_wp2
          go_roundw
          case rel => exact ⟨k + 1, by omega, by omega, rfl, cn_yes hk1 hk hc hown', hx⟩
          case measure => simp [intOf]; omega
        · have hc : (!CL.cmp m k) = false := by assumption
          go_roundw
          case rel => exact ⟨k + 1, by omega, by omega, rfl, by rw [cn_no hk1 hk hc]; exact hown, hx⟩
          case measure => simp [intOf]; omega
      · obtain rfl : k = 6 := by omega
        go_wp2
        go_ret
        exact ⟨_, rfl, by rw [cn_end hm] at hown; exact hown, hx⟩
  · simp only [Bool.not_eq_true] at hm
    have he := Lib.hid (show cnf m = [] by simp [cnf, hm])
    go_enter Tryd.func19, Tryd.ntmps19
    go_wp2_with (go_at_call 11; refine (Valid_c _ _).mono ?_; rintro e w' ⟨rfl, rfl⟩)
    go_ret
    refine ⟨_, rfl, ?_, Below.refl _ _⟩
    rw [he.out]
    exact World.ownsRow_nil _ _ _ _
theorem grp_step {zs : List Int} {k : Nat} (hk : k < zs.length) : CL.grp (zs.take (k + 1)) = if k = 0 then CL.sup zs[k] zs[k] else CL.sup (CL.grp (zs.take k)) zs[k] := by
  cases zs with
  | nil => simp at hk
  | cons z zs =>
    cases k with
    | zero => simp [CL.grp]
    | succ k =>
      simp only [List.take_succ_cons, CL.grp, Nat.add_eq_zero_iff, List.getElem_cons_succ]
      rw [take_foldl CL.sup _ (by simpa using hk)]
      simp
theorem RGroup_c (zs : List Int) (A : Option Addr) (c : Nat) (w : World) (hl : zs.length ≤ maxLen) (hr : Sits w A (ints zs)) : Calls Tryd.prog 25 #[.slice A zs.length c] w fun e w' => e = .returned (.int .i64 (CL.grp zs)) ∧ Ext w w' := by
  unfold maxLen at hl
  go_enter Tryd.func25, Tryd.ntmps25
  go_wp2
  go_loop [3, 4] (fun r i => ∃ k : Nat, k ≤ zs.length ∧ i = .int .i64 k ∧ r = .int .i64 (CL.grp (zs.take k)) ∧ (0 < k → CL.vld (CL.grp (zs.take k)) = true)) (fun _ i => zs.length - (intOf i).toNat)
  case atStart => exact ⟨0, by omega, rfl, rfl, by omega⟩
  case round =>
    obtain ⟨k, hk, rfl, rfl, hv⟩ := hrel
    by_cases hlt : k < zs.length
    · obtain ⟨b, o, rfl, hc⟩ := hr.get (by rw [ints_len]; omega)
      have hck : w.cell? ⟨b, o + k, none⟩ = some (.int .i64 zs[k]) := hc k _ (ints_get hlt)
      have hc0 : w.cell? ⟨b, o, none⟩ = some (.int .i64 (zs[0]'(by omega))) := hc 0 _ (ints_get (by omega))
      have HS := Lib.hid (grp_step hlt)
      have HV := Lib.hid hv
      clear hc hr hv
      by_cases hvk : CL.vld zs[k] = true
      · rcases Nat.eq_zero_or_pos k with h0 | h0
        · subst h0
          clear hck hk
          have hz : ((((0 : Nat) : Int)) == 0) = true := rfl
          go_wp2_with (go_at_call 12; refine (RValid_c _ _).mono ?_; rintro e w' ⟨rfl, rfl⟩)
          refine ⟨⟨1, by omega, rfl, ?_, fun _ => ?_⟩, by simp [intOf]; omega⟩
          · rw [show zs.take 1 = zs.take (0 + 1) from rfl, HS.out, if_pos trivial, CL.sup_self hvk]
          · rw [show zs.take 1 = zs.take (0 + 1) from rfl, HS.out, if_pos trivial, CL.sup_self hvk]; exact hvk
        · have hz : ((k : Int) == 0) = false := by simp; omega
          go_wp2_with (first
            | (go_at_call 12; refine (RValid_c _ _).mono ?_; rintro e w' ⟨rfl, rfl⟩)
            | (go_at_call 18; refine (RSup_c _ _ _).mono ?_; rintro e w' ⟨rfl, rfl⟩))
          go_round
          case rel => exact ⟨k + 1, by omega, by go_num, by rw [HS.out, if_neg (by omega)], fun _ => by rw [HS.out, if_neg (by omega)]; exact CL.sup_vld (HV.out h0) hvk⟩
          case measure => simp [intOf]; omega
      · simp only [Bool.not_eq_true] at hvk
        have HB := Lib.hid (show CL.grp zs = 0 by
          have e := List.take_append_drop k zs
          rw [List.drop_eq_getElem_cons hlt] at e
          rw [← e]; exact CL.grp_bad _ _ _ hvk)
        go_wp2_with (go_at_call 12; refine (RValid_c _ _).mono ?_; rintro e w' ⟨rfl, rfl⟩)
        go_ret
        exact ⟨ret_int HB.out.symm, Below.refl _ _⟩
    · have HB := Lib.hid (show zs.take k = zs by rw [List.take_of_length_le (by omega)])
      go_wp2
      go_ret
      exact ⟨ret_int (by rw [HB.out]), Below.refl _ _⟩
end Go.Proofs.YtpgmjdffkfibbaaDoor
