
/- The walks of package amount and of its reference, second part: lists of amounts. -/
import Derived.Test.YtghhmooknjoblaaDoorAw
import Derived.Test.YtghhmooknjoblaaDoorXq
namespace Go.Proofs.YtghhmooknjoblaaDoor
open Go.RowKit
/-- an amount as cells -/
def amc (a : CL.Am) : List Value := [.int .i64 a.m, .int .i64 a.u]
def ams (l : List CL.Am) : List Value := l.flatMap amc
theorem ams_len (l : List CL.Am) : (ams l).length = l.length * 2 := by
  unfold ams
  induction l with
  | nil => rfl
  | cons t l ih => simp [amc, ih]; omega
theorem ams_append (a b : List CL.Am) : ams (a ++ b) = ams a ++ ams b := by simp [ams]
theorem ams_one (l : List CL.Am) : ∀ u ∈ ams l, u.oneCell' = true := by
  intro u hu
  unfold ams at hu
  rw [List.mem_flatMap] at hu
  obtain ⟨a, _, hu⟩ := hu
  simp [amc] at hu
  rcases hu with rfl | rfl <;> rfl
theorem ams_get {l : List CL.Am} {k : Nat} (h : k < l.length) (j : Nat) (hj : j < 2) : (ams l)[k * 2 + j]? = (amc l[k])[j]? := by
  unfold ams
  induction l generalizing k with
  | nil => simp at h
  | cons t l ih =>
    cases k with
    | zero => rw [List.flatMap_cons, List.getElem?_append_left (by simp [amc]; omega)]; simp
    | succ k =>
      rw [List.flatMap_cons, List.getElem?_append_right (by simp [amc]; omega)]
      have := ih (k := k) (by simpa using h)
      simp only [List.getElem_cons_succ, amc, List.length_cons, List.length_nil] at this ⊢
      rw [← this]; congr 1; omega
theorem am_cells {w : World} {l : List CL.Am} {p o k : Nat} (hc : ∀ j u, (ams l)[j]? = some u → w.cell? ⟨p, o + j, none⟩ = some u) (h : k < l.length) :
    w.cell? ⟨p, o + k * 2, none⟩ = some (.int .i64 l[k].m) ∧ w.cell? ⟨p, o + k * 2 + 1, none⟩ = some (.int .i64 l[k].u) :=
  ⟨hc (k * 2 + 0) _ (ams_get h 0 (by omega)), hc (k * 2 + 1) _ (ams_get h 1 (by omega))⟩
theorem take_s {α : Type} {l : List α} {k : Nat} (h : k < l.length) : l.take (k + 1) = l.take k ++ [l[k]] := List.take_succ_eq_append_getElem h
theorem cmpt_perm {k u : Int} {l : List CL.Am} {j : Nat} (hj : j < l.length) (h : CL.perm k u l[j] = false) : CL.compat k u l = false :=
  decide_eq_false fun hc => by have := hc.2.1 l[j] (List.getElem_mem _); rw [h] at this; cases this
theorem cmpt_take {k u : Int} {l : List CL.Am} {j : Nat} (_ : j < l.length) (h : ¬ CL.Cmpt k u (l.take (j + 1))) : CL.compat k u l = false :=
  decide_eq_false fun hc => h (hc.sub (List.take_sublist _ _))
theorem cmpt_all {k u : Int} {l : List CL.Am} {j : Nat} (hj : l.length ≤ j) (h : CL.Cmpt k u (l.take j)) : CL.compat k u l = true :=
  decide_eq_true (by rwa [List.take_of_length_le hj] at h)
theorem cmpt_bad {k u : Int} {l : List CL.Am} (h : CL.shaped k u = false) : CL.compat k u l = false :=
  decide_eq_false fun hc => by rw [hc.1] at h; cases h
theorem cmpt_nil {k u : Int} (h : CL.shaped k u = true) : CL.Cmpt k u [] := ⟨h, by simp, by simp [CL.sm]; have := CL.shaped_iff.1 h; omega, List.Pairwise.nil⟩
theorem sm_take {l : List CL.Am} {j : Nat} (hj : j < l.length) : CL.sm (l.take (j + 1)) = CL.sm (l.take j) + l[j].u := by
  rw [take_s hj, CL.sm_append]; simp [CL.sm]
theorem cmpt_sum {k u : Int} {l : List CL.Am} (h : CL.Cmpt k u l) : 0 ≤ CL.sm l ∧ CL.sm l ≤ u := ⟨CL.sm_nonneg h.2.1, h.2.2.1⟩
theorem u_le {k u : Int} (h : CL.shaped k u = true) : u ≤ 8 := by have := CL.shaped_iff.1 h; omega
/-- the test of one amount against those before it -/
def PrTo (l : List CL.Am) (a : CL.Am) (q : Nat) : Prop := ∀ i, (h : i < l.length) → i < q → CL.pr l[i] a
theorem PrTo.zero {l : List CL.Am} {a : CL.Am} : PrTo l a 0 := fun i _ h => by omega
theorem PrTo.step {l : List CL.Am} {a : CL.Am} {q : Nat} (h : PrTo l a q) (hq : q < l.length) (hp : CL.pr l[q] a) : PrTo l a (q + 1) := by
  intro i hi h1
  by_cases e : i = q
  · subst e; exact hp
  · exact h i hi (by omega)
theorem PrTo.all {l : List CL.Am} {a : CL.Am} {q : Nat} (h : PrTo l a q) : ∀ b ∈ l.take q, CL.pr b a := by
  intro b hb
  obtain ⟨i, hi, rfl⟩ := List.mem_iff_getElem.1 hb
  rw [List.length_take] at hi
  rw [List.getElem_take]
  exact h i (by omega) (by omega)
theorem cmpt_pr {k u : Int} {l : List CL.Am} {j q : Nat} (hj : j < l.length) (hq : q < j) (h : ¬ CL.pr l[q] l[j]) : CL.compat k u l = false :=
  cmpt_take hj fun hc => by
    rw [take_s hj] at hc
    refine h ((CL.Cmpt.snoc.1 hc).2.2.2 _ ?_)
    rw [List.mem_take_iff_getElem]
    exact ⟨q, by omega, rfl⟩
set_option maxHeartbeats 1600000 in
theorem clusterlocksref04.Compatible_c (n : ByteArray) (k u h : Int) (l : List CL.Am) (A : Option Addr) (c : Nat) (w : World) (hl : l.length ≤ 1000) (hr : Sits w A (ams l)) :
    Calls Tryd.prog 23 #[.agg #[.string n, .int .i64 k, .int .i64 u, .int .i64 h], .slice A l.length c] w fun e w' => e = .returned (.bool (CL.compat k u l)) ∧ Ext w w' := by
  by_cases hs : CL.shaped k u = true
  · have hu8 := u_le hs
    have HN := Lib.hid (cmpt_nil hs)
    go_enter Tryd.func23, Tryd.ntmps23
    go_wp2_with fail
    refine (clusterlocksref04.Shaped_c _ _ _ _ _).mono ?_
    rintro e w1 ⟨rfl, hx1⟩
    have hB : Blk w1 w.heap.size 23 #[.string n, .int .i64 k, .int .i64 u, .int .i64 h] := (Blk.new w _ _).ext hx1
    have hx : Ext w w1 := (Ext.new w _).tr hx1
    replace hr := hr.ext hx
    clear hx1
    go_wp2
    go_loopw [5, 6] (fun s i wr => ∃ j : Nat, j ≤ l.length ∧ i = .int .i64 j ∧ s = .int .i64 (CL.sm (l.take j)) ∧ Hid (CL.Cmpt k u (l.take j)) ∧ Ext w1 wr) (fun _ i _ => l.length - (intOf i).toNat)
    case atStart => exact ⟨0, by omega, rfl, rfl, HN, Ext.rfl'⟩
    case round =>
      obtain ⟨j, hj, rfl, rfl, HC, hy⟩ := hrel
      obtain ⟨wo, rfl⟩ : ∃ wo : World, wo = wr := ⟨_, rfl⟩
      by_cases hlt : j < l.length
      · have HS := Lib.hid (sm_take hlt)
        have HB := Lib.hid (cmpt_perm (k := k) (u := u) hlt)
        have HT := Lib.hid (fun h => cmpt_take (k := k) (u := u) hlt h)
        have HP := Lib.hid (fun q hq h => cmpt_pr (k := k) (u := u) (q := q) hlt hq h)
        have HT2 := Lib.hid (take_s hlt)
        obtain ⟨s0, s1⟩ := cmpt_sum HC.out
        obtain ⟨b, o, rfl, hc⟩ := (hr.ext hy).get (by rw [ams_len]; omega)
        obtain ⟨a0, a1⟩ := am_cells hc hlt
        have hBo := hB.ext hy
        have e0 : wo.cell? ⟨w.heap.size, 0, none⟩ = some (.string n) := hBo.cell 0
        have e1 : wo.cell? ⟨w.heap.size, 1, none⟩ = some (.int .i64 k) := hBo.cell 1
        have e2 : wo.cell? ⟨w.heap.size, 2, none⟩ = some (.int .i64 u) := hBo.cell 2
        have e3 : wo.cell? ⟨w.heap.size, 3, none⟩ = some (.int .i64 h) := hBo.cell 3
        have hQ := hc
        have HQ := Lib.hid hQ
        clear hQ hc
        generalize hx0 : l[j] = x at *
        have HX := Lib.hid hx0
        clear hx0
        obtain ⟨am, au⟩ := x
        simp only at a0 a1
        have q0 := ExtOf.cell a0
        have q1 := ExtOf.cell a1
        have p0 := ExtOf.cell e0
        have p1 := ExtOf.cell e1
        have p2 := ExtOf.cell e2
        have p3 := ExtOf.cell e3
        by_cases hp : CL.perm k u ⟨am, au⟩ = true
        · obtain ⟨u0, u1⟩ := CL.perm_units hp
          have HM := Lib.hid (CL.perm_mode hp)
          simp only at u0 u1
          go_wp2_with fail
          refine wp_region_ext_lit (by kernel_rfl) (by kernel_rfl) ?_
          repeat (go_big_quiet_step ((go_at_call 21; exact xqX (clusterlocksref04.Permitted_c _ _ _ _ _ _ _))))
          refine wpQuiet_nil ?_
          intro wq hw'
          obtain ⟨⟨wq', hxq⟩, hw''⟩ := hw'
          subst hw''
          have hy2 := hy.tr hxq
          have p0 := hxq.cell e0
          have p1 := hxq.cell e1
          have p2 := hxq.cell e2
          have p3 := hxq.cell e3
          have a0 := hxq.cell a0
          have a1 := hxq.cell a1
          by_cases hk : k = 2
          · subst hk
            by_cases hsum : CL.sm (l.take j) + au ≤ u
            · have hd : decide (CL.sm (l.take j) + au > u) = false := by simp; omega
              have HC2 := Lib.hid (show CL.Cmpt 2 u (l.take (j + 1)) by
                rw [HT2.out]
                refine CL.Cmpt.snoc.2 ⟨HC.out, hp, hsum, fun b hb => .inr (.inl ?_)⟩
                rcases HM.out with h | h
                · exact h
                · exact absurd h.2.1 (by decide))
              go_wp2
              go_roundw
              case rel => exact ⟨j + 1, by omega, by go_num, by rw [HS.out], HC2, hy2⟩
              case measure => simp [intOf]; omega
            · have hd : decide (CL.sm (l.take j) + au > u) = true := by simp; omega
              have HF := Lib.hid (HT.out (fun hc => hsum (by
                rw [HT2.out] at hc
                have := hc.2.2.1
                rw [CL.sm_append] at this
                simpa [CL.sm] using this)))
              go_wp2
              go_ret
              exact ⟨ret_bool HF.out.symm, hx.tr hy2⟩
          · have hk2 : (k == 2) = false := by simpa using hk
            have hk1 : k = 1 ∧ u = 1 := by have := CL.shaped_iff.1 hs; omega
            have HK := Lib.hid hk1
            have hau : au = 0 := by
              obtain ⟨rfl, rfl⟩ := hk1
              exact (CL.perm_lock.1 hp).1
            have HAU := Lib.hid hau
            clear hau hk hk1
            go_wp2
            go_loopw [7] (fun i2 wr2 => ∃ q : Nat, q ≤ j ∧ i2 = .int .i64 q ∧ Hid (PrTo l ⟨am, au⟩ q) ∧ Ext wq wr2) (fun i2 _ => j - (intOf i2).toNat)
            case atStart => exact ⟨0, by omega, rfl, PrTo.zero, Ext.rfl'⟩
            case round =>
              obtain ⟨q, hq, rfl, HR, hz⟩ := hrel
              obtain ⟨wi, rfl⟩ : ∃ wi : World, wi = wr := ⟨_, rfl⟩
              by_cases hlt2 : q < j
              · have hql : q < l.length := by omega
                obtain ⟨b0, b1⟩ := am_cells HQ.out hql
                have HPQ := Lib.hid (HP.out q hlt2)
                have HPB := Lib.hid (HC.out.2.1 l[q] (by rw [List.mem_take_iff_getElem]; exact ⟨q, by omega, rfl⟩))
                generalize hy0 : l[q] = y at *
                have HY := Lib.hid hy0
                clear hy0
                obtain ⟨bm, bu⟩ := y
                simp only at b0 b1
                have q0 := ExtOf.cell (hz.cell a0)
                have q1 := ExtOf.cell (hz.cell a1)
                have r0 := ExtOf.cell (hz.cell (hxq.cell b0))
                have r1 := ExtOf.cell (hz.cell (hxq.cell b1))
                have HST := fun h => PrTo.step HR.out hql (HY.out ▸ h)
                have HST := Lib.hid HST
                by_cases z1 : CL.zer ⟨am, au⟩ = true
                · have HG := Lib.hid (show CL.pr ⟨bm, bu⟩ ⟨am, au⟩ from .inr (.inl (by have := CL.zer_iff.1 z1; injection this)))
                  go_wp2_with fail
                  refine wp_region_ext_lit (by kernel_rfl) (by kernel_rfl) ?_
                  repeat (go_big_quiet_step ((first | (go_at_call 35; exact xqX (clusterlocksref04.Zero_c _ _ _)))))
                  refine wpQuiet_nil ?_
                  intro wq hw'
                  obtain ⟨⟨wq', hxq⟩, hw''⟩ := hw'
                  subst hw''
                  go_wp2
                  go_roundw
                  case rel => exact ⟨q + 1, by omega, by go_num, HST.out HG.out, hz.tr hxq⟩
                  case measure => simp [intOf]; omega
                · simp only [Bool.not_eq_true] at z1
                  by_cases z2 : CL.zer ⟨bm, bu⟩ = true
                  · have HG := Lib.hid (show CL.pr ⟨bm, bu⟩ ⟨am, au⟩ from .inl (by have := CL.zer_iff.1 z2; injection this))
                    go_wp2_with fail
                    refine wp_region_ext_lit (by kernel_rfl) (by kernel_rfl) ?_
                    repeat (go_big_quiet_step ((first | (go_at_call 35; exact xqX (clusterlocksref04.Zero_c _ _ _)))))
                    refine wpQuiet_nil ?_
                    intro wq hw'
                    obtain ⟨⟨wq', hxq⟩, hw''⟩ := hw'
                    subst hw''
                    go_wp2
                    go_roundw
                    case rel => exact ⟨q + 1, by omega, by go_num, HST.out HG.out, hz.tr hxq⟩
                    case measure => simp [intOf]; omega
                  · simp only [Bool.not_eq_true] at z2
                    by_cases hcm : CL.cmp am bm = true
                    · have HG := Lib.hid (show CL.pr ⟨bm, bu⟩ ⟨am, au⟩ from .inr (.inr (by rw [CL.cmp_comm]; exact hcm)))
                      go_wp2_with fail
                      refine wp_region_ext_lit (by kernel_rfl) (by kernel_rfl) ?_
                      repeat (go_big_quiet_step ((first | (go_at_call 35; exact xqX (clusterlocksref04.Zero_c _ _ _)) | (go_at_call 39; exact xqP (RCompatible_c _ _ _)))))
                      refine wpQuiet_nil ?_
                      intro wq hw'
                      obtain ⟨⟨wq', hxq⟩, hw''⟩ := hw'
                      subst hw''
                      go_wp2
                      go_roundw
                      case rel => exact ⟨q + 1, by omega, by go_num, HST.out HG.out, hz.tr hxq⟩
                      case measure => simp [intOf]; omega
                    · simp only [Bool.not_eq_true] at hcm
                      have HF := Lib.hid (HPQ.out (by
                        have hb := HPB.out
                        obtain ⟨rfl, rfl⟩ := HK.out
                        have hb := (CL.perm_lock.1 hb).1
                        have ha := HAU.out
                        simp only at hb
                        subst hb ha
                        simp only [CL.zer, decide_eq_false_iff_not] at z1 z2
                        rintro (h | h | h)
                        · exact z2 ⟨h, trivial⟩
                        · exact z1 ⟨h, trivial⟩
                        · rw [CL.cmp_comm, hcm] at h; cases h))
                      go_wp2_with fail
                      refine wp_region_ext_lit (by kernel_rfl) (by kernel_rfl) ?_
                      repeat (go_big_quiet_step ((first | (go_at_call 35; exact xqX (clusterlocksref04.Zero_c _ _ _)) | (go_at_call 39; exact xqP (RCompatible_c _ _ _)))))
                      refine wpQuiet_nil ?_
                      intro wq hw'
                      obtain ⟨⟨wq', hxq⟩, hw''⟩ := hw'
                      subst hw''
                      go_wp2
                      go_ret
                      exact ⟨ret_bool HF.out.symm, hx.tr (hy2.tr (hz.tr hxq))⟩
              · obtain rfl : q = j := by omega
                have HC2 := Lib.hid (show CL.Cmpt k u (l.take (q + 1)) by
                  rw [HT2.out]
                  exact CL.Cmpt.snoc.2 ⟨HC.out, hp, by have := HAU.out; simp only; omega, HR.out.all⟩)
                have HS2 := Lib.hid (show CL.sm (l.take (q + 1)) = CL.sm (l.take q) by rw [HS.out, HAU.out]; omega)
                go_wp2
                go_roundw
                case rel => exact ⟨q + 1, by omega, by go_num, by rw [HS2.out], HC2, hy2.tr hz⟩
                case measure => simp [intOf]; omega
        · simp only [Bool.not_eq_true] at hp
          have HF := Lib.hid (HB.out hp)
          go_wp2_with fail
          refine wp_region_ext_lit (by kernel_rfl) (by kernel_rfl) ?_
          repeat (go_big_quiet_step ((go_at_call 21; exact xqX (clusterlocksref04.Permitted_c _ _ _ _ _ _ _))))
          refine wpQuiet_nil ?_
          intro wq hw'
          obtain ⟨⟨wq', hxq⟩, hw''⟩ := hw'
          subst hw''
          go_wp2
          go_ret
          exact ⟨ret_bool HF.out.symm, hx.tr (hy.tr hxq)⟩
      · have HA := Lib.hid (cmpt_all (by omega) HC.out)
        go_wp2
        go_ret
        exact ⟨ret_bool HA.out.symm, hx.tr hy⟩
  · have HA := Lib.hid (cmpt_bad (l := l) (by simpa using hs))
    go_enter Tryd.func23, Tryd.ntmps23
    go_wp2_with (first
        | (go_at_call 14; refine (clusterlocksref04.Shaped_c _ _ _ _ _).mono ?_; rintro e w' ⟨rfl, hx1⟩; have hx := Ext.tr (a := w) (by go_grown) hx1; have hz := hx.size; obtain ⟨hc1, hf1⟩ := bcell hx1; have hz1 := hx1.size; (try simp only [World.size_alloc] at hz1); (try have hl0 : w.heap.size < w'.heap.size := by omega); (try have hl1 : w.heap.size + 1 < w'.heap.size := by omega); (try have hl2 : w.heap.size + 1 + 1 < w'.heap.size := by omega); (try have hl3 : w.heap.size + 1 + 1 + 1 < w'.heap.size := by omega); clear hx1))
    go_ret
    exact ⟨ret_bool HA.out.symm, hx⟩
end Go.Proofs.YtghhmooknjoblaaDoor
