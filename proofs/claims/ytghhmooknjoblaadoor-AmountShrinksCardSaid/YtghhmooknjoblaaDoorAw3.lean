
/- The walks of package amount and of its reference, third part: Compatible. -/
import Derived.Test.YtghhmooknjoblaaDoorAw2
import Derived.Deep.LoopGhost
import Derived.WalkMore
namespace Go.Proofs.YtghhmooknjoblaaDoor
open Go.RowKit
/-- which modes have been seen -/
def sn (l : List CL.Am) (m : Int) : Bool := l.any fun a => a.m == m && m != 0
def seenA (l : List CL.Am) : Array Value := #[.bool (sn l 0), .bool (sn l 1), .bool (sn l 2), .bool (sn l 3), .bool (sn l 4), .bool (sn l 5)]
theorem sn_snoc (l : List CL.Am) (a : CL.Am) (m : Int) : sn (l ++ [a]) m = (sn l m || (a.m == m && m != 0)) := by simp [sn]
theorem seen_zero {l : List CL.Am} {a : CL.Am} (h : a.m = 0) : seenA (l ++ [a]) = seenA l := by simp [seenA, sn_snoc, h]
theorem seen_set {l : List CL.Am} {a : CL.Am} (h : CL.vld a.m = true) : (seenA l).setIfInBounds a.m.toNat (.bool true) = seenA (l ++ [a]) := by
  rcases CL.vld_cases h with e | e | e | e | e <;> simp [seenA, sn_snoc, e]
theorem seen_ix (l : List CL.Am) (q : Nat) (hq : q < 6) (W : World) : (Instr.index 41 (.agg #[.bool (sn l 0), .bool (sn l 1), .bool (sn l 2), .bool (sn l 3), .bool (sn l 4), .bool (sn l 5)]) (.int .i64 (q : Int))).run Tryd.prog W = .ok (.bool (sn l (q : Int))) W := by
  have : q = 0 ∨ q = 1 ∨ q = 2 ∨ q = 3 ∨ q = 4 ∨ q = 5 := by omega
  rcases this with rfl | rfl | rfl | rfl | rfl | rfl <;> rfl
/-- no seen mode below q is against m -/
def SnTo (l : List CL.Am) (m : Int) (q : Nat) : Prop := ∀ i : Nat, i < q → sn l (i : Int) = true → CL.cmp (i : Int) m = true
theorem SnTo.zero {l : List CL.Am} {m : Int} : SnTo l m 0 := fun i h => by omega
theorem SnTo.step {l : List CL.Am} {m : Int} {q : Nat} (h : SnTo l m q) (hc : sn l (q : Int) = true → CL.cmp (q : Int) m = true) : SnTo l m (q + 1) := by
  intro i hi
  by_cases e : i = q
  · subst e; exact hc
  · exact h i (by omega)
theorem SnTo.all {k u : Int} {l : List CL.Am} {a : CL.Am} (hl : ∀ b ∈ l, CL.perm k u b = true) (h : SnTo l a.m 6) : ∀ b ∈ l, CL.pr b a := by
  intro b hb
  rcases CL.perm_mode (hl b hb) with h0 | ⟨hv, _, _⟩
  · exact .inl h0
  · have hv' := CL.vld_iff.1 hv
    refine .inr (.inr ?_)
    have := h b.m.toNat (by omega) (by
      rw [show ((b.m.toNat : Nat) : Int) = b.m by omega]
      simp only [sn, List.any_eq_true]
      exact ⟨b, hb, by simp; omega⟩)
    rwa [show ((b.m.toNat : Nat) : Int) = b.m by omega] at this
theorem sn_bad {l : List CL.Am} {a : CL.Am} {q : Nat} (h1 : sn l (q : Int) = true) (h2 : CL.cmp (q : Int) a.m = false) (h3 : a.m ≠ 0) : ¬ ∀ b ∈ l, CL.pr b a := by
  intro h
  simp only [sn, List.any_eq_true] at h1
  obtain ⟨b, hb, hm⟩ := h1
  simp at hm
  rcases h b hb with h | h | h
  · omega
  · exact h3 h
  · rw [hm.1, h2] at h; cases h
set_option maxRecDepth 100000 in
set_option maxHeartbeats 3200000 in
theorem amount.Compatible_c (n : ByteArray) (k u h : Int) (l : List CL.Am) (A : Option Addr) (c : Nat) (w : World) (hT : Tab w) (hl : l.length ≤ 1000) (hr : Sits w A (ams l)) :
    Calls Tryd.prog 18 #[.agg #[.string n, .int .i64 k, .int .i64 u, .int .i64 h], .slice A l.length c] w fun e w' => e = .returned (.bool (CL.compat k u l)) ∧ Ext w w' := by
  by_cases hs : CL.shaped k u = true
  · have hu8 := u_le hs
    have HN := Lib.hid (cmpt_nil hs)
    go_enter Tryd.func18, Tryd.ntmps18
    go_wp2_with fail
    go_step3
    go_wp2_with fail
    refine (amount.Shaped_c _ _ _ _ _).mono ?_
    rintro e w1 ⟨rfl, hx1⟩
    have hB : Blk w1 w.heap.size 23 #[.string n, .int .i64 k, .int .i64 u, .int .i64 h] := (Blk.new w _ _).ext hx1
    have hx : Ext w w1 := (Ext.new w _).tr hx1
    have hT1 := hT.ext hx
    have hlt1 := hB.lt
    replace hr := hr.ext hx
    clear hx1 hT
    go_wp2
    go_step3
    go_wp2
    go_loopg [5, 7, 17] l.length (fun g v s i wr => ∃ j : Nat, j + g = l.length ∧ v = .bool true ∧ i = .int .i64 j ∧ s = .int .i64 (CL.sm (l.take j)) ∧ Hid (CL.Cmpt k u (l.take j)) ∧ Below w1.heap.size w1 wr ∧ Blk wr w1.heap.size 41 (seenA (l.take j)))
    case atStart => exact ⟨0, by omega, rfl, rfl, rfl, HN, (Below.refl _ _).alloc (Nat.le_refl _) _, Blk.new _ _ _⟩
    case round =>
      obtain ⟨j, hj, rfl, rfl, rfl, HC, hy, hSn⟩ := hrel
      obtain ⟨wo, rfl⟩ : ∃ wo : World, wo = wr := ⟨_, rfl⟩
      obtain ⟨g, rfl⟩ : ∃ g : Nat, g = gk := ⟨_, rfl⟩
      by_cases hlt : j < l.length
      · have HS := Lib.hid (sm_take hlt)
        have HB := Lib.hid (cmpt_perm (k := k) (u := u) hlt)
        have HT := Lib.hid (fun h => cmpt_take (k := k) (u := u) hlt h)
        have HT2 := Lib.hid (take_s hlt)
        obtain ⟨s0, s1⟩ := cmpt_sum HC.out
        obtain ⟨b, o, rfl, hc⟩ := (hr.ext hy).get (by rw [ams_len]; omega)
        obtain ⟨a0, a1⟩ := am_cells hc hlt
        have hBo := hB.ext hy
        have e0 : wo.cell? ⟨w.heap.size, 0, none⟩ = some (.string n) := hBo.cell 0
        have e1 : wo.cell? ⟨w.heap.size, 1, none⟩ = some (.int .i64 k) := hBo.cell 1
        have e2 : wo.cell? ⟨w.heap.size, 2, none⟩ = some (.int .i64 u) := hBo.cell 2
        have e3 : wo.cell? ⟨w.heap.size, 3, none⟩ = some (.int .i64 h) := hBo.cell 3
        have HH := Lib.hid hBo
        have HSN := Lib.hid hSn
        have hlo := hSn.lt
        clear hc hBo hSn
        generalize hx0 : l[j] = x at *
        have HX := Lib.hid hx0
        clear hx0
        obtain ⟨am, au⟩ := x
        simp only at a0 a1
        have hyz := hy.size
        have n1 : w.heap.size ≠ wo.heap.size := by omega
        have n2 : w1.heap.size ≠ wo.heap.size := by omega
        have hRa := HH.out.alloc (.cells #[.int .i64 am, .int .i64 au] 25)
        have x0 : (wo.alloc (.cells #[.int .i64 am, .int .i64 au] 25)).cell? ⟨w.heap.size, 0, none⟩ = some (.string n) := hRa.cell 0
        have x1 : (wo.alloc (.cells #[.int .i64 am, .int .i64 au] 25)).cell? ⟨w.heap.size, 1, none⟩ = some (.int .i64 k) := hRa.cell 1
        have x2 : (wo.alloc (.cells #[.int .i64 am, .int .i64 au] 25)).cell? ⟨w.heap.size, 2, none⟩ = some (.int .i64 u) := hRa.cell 2
        have x3 : (wo.alloc (.cells #[.int .i64 am, .int .i64 au] 25)).cell? ⟨w.heap.size, 3, none⟩ = some (.int .i64 h) := hRa.cell 3
        clear hRa
        go_wp2_with fail
        refine (amount.permitted_c _ _ _ _ _ _ _).mono ?_
        rintro e w2 ⟨rfl, hx2⟩
        clear x0 x1 x2 x3
        have hy2 : Below w1.heap.size w1 w2 := (hy.alloc hyz _).trans (hx2.mono (by simp; omega))
        have hSn2 := (HSN.out.alloc (.cells #[.int .i64 am, .int .i64 au] 25)).ext hx2
        have hA2 : Blk w2 wo.heap.size 25 #[.int .i64 am, .int .i64 au] := (Blk.new wo _ _).ext hx2
        have hR2 := (HH.out.alloc (.cells #[.int .i64 am, .int .i64 au] 25)).ext hx2
        clear hx2 a0 a1 e0 e1 e2 e3
        have e2 : w2.cell? ⟨w.heap.size, 2, none⟩ = some (.int .i64 u) := hR2.cell 2
        have a0 : w2.cell? ⟨wo.heap.size, 0, none⟩ = some (.int .i64 am) := hA2.cell 0
        have a1 : w2.cell? ⟨wo.heap.size, 1, none⟩ = some (.int .i64 au) := hA2.cell 1
        have m0 : w2.cell? ⟨w1.heap.size, 0, none⟩ = some (.bool (sn (l.take j) 0)) := hSn2.cell 0
        have m1 : w2.cell? ⟨w1.heap.size, 1, none⟩ = some (.bool (sn (l.take j) 1)) := hSn2.cell 1
        have m2 : w2.cell? ⟨w1.heap.size, 2, none⟩ = some (.bool (sn (l.take j) 2)) := hSn2.cell 2
        have m3 : w2.cell? ⟨w1.heap.size, 3, none⟩ = some (.bool (sn (l.take j) 3)) := hSn2.cell 3
        have m4 : w2.cell? ⟨w1.heap.size, 4, none⟩ = some (.bool (sn (l.take j) 4)) := hSn2.cell 4
        have m5 : w2.cell? ⟨w1.heap.size, 5, none⟩ = some (.bool (sn (l.take j) 5)) := hSn2.cell 5
        have HSN2 := Lib.hid hSn2
        clear hSn2 hA2 hR2
        by_cases hp : CL.perm k u ⟨am, au⟩ = true
        · obtain ⟨u0, u1⟩ := CL.perm_units hp
          have HM := Lib.hid (CL.perm_mode hp)
          simp only at u0 u1
          by_cases hsum : CL.sm (l.take j) + au ≤ u
          · have hd : decide (CL.sm (l.take j) + au > u) = false := by simp; omega
            by_cases hm0 : am = 0
            · subst hm0
              have HC2 := Lib.hid (show CL.Cmpt k u (l.take (j + 1)) by
                rw [HT2.out]
                exact CL.Cmpt.snoc.2 ⟨HC.out, hp, hsum, fun b hb => .inr (.inl rfl)⟩)
              have HSN3 := HSN2.out
              rw [← seen_zero (a := ⟨0, au⟩) rfl, ← HT2.out] at HSN3
              have HSN3 := Lib.hid HSN3
              go_wp2
              go_roundg (g - 1)
              case measure => omega
              case rel => exact ⟨j + 1, by omega, rfl, by go_num, by rw [HS.out], HC2, hy2, HSN3.out⟩
            · have hmz : (am == 0) = false := by simpa using hm0
              have hv : CL.vld am = true := by
                rcases HM.out with h | h
                · exact absurd h hm0
                · exact h.1
              have hix := seen_ix (l.take j)
              obtain ⟨v1, v2⟩ := CL.vld_iff.1 hv
              have v3 : am.toNat < 6 := by omega
              have HW2 : Tab w2 := hT1.ext hy2
              have HBAD := fun q h1 h2 => HT.out (fun hc => sn_bad (l := l.take j) (a := ⟨am, au⟩) (q := q) h1 h2 hm0 (by rw [HT2.out] at hc; exact (CL.Cmpt.snoc.1 hc).2.2.2))
              have HBAD := Lib.hid HBAD
              go_wp2
              go_loopg [5, 42] 6 (fun g2 v q wy => ∃ qn : Nat, qn + g2 = 6 ∧ v = .bool true ∧ q = .int .i64 qn ∧ Hid (SnTo (l.take j) am qn) ∧ w2 = wy)
              case atStart => exact ⟨0, by omega, rfl, rfl, SnTo.zero, rfl⟩
              case round =>
                obtain ⟨q, hq, rfl, rfl, HQ, rfl⟩ := hrel
                obtain ⟨g2, rfl⟩ : ∃ g2 : Nat, g2 = gk := ⟨_, rfl⟩
                by_cases hq6 : q < 6
                · have hixq := hix q hq6
                  clear hix
                  by_cases hsn : sn (l.take j) (q : Int) = true
                  · by_cases hcm : CL.cmp (q : Int) am = true
                    · have HQ2 := Lib.hid (HQ.out.step fun _ => hcm)
                      go_wp2_with (go_at_call 32; refine (Go.Proofs.YtghhmooknjoblaaDoor.Compatible_c _ _ _ HW2).mono ?_; rintro e w' ⟨rfl, rfl⟩)
                      go_roundg (g2 - 1)
                      case measure => omega
                      case rel => exact ⟨q + 1, by omega, rfl, by go_num, HQ2, rfl⟩
                    · simp only [Bool.not_eq_true] at hcm
                      have HF := Lib.hid (HBAD.out q hsn hcm)
                      go_wp2_with (go_at_call 32; refine (Go.Proofs.YtghhmooknjoblaaDoor.Compatible_c _ _ _ HW2).mono ?_; rintro e w' ⟨rfl, rfl⟩)
                      (try rw [Exit.noGoto_ret])
                      go_ret
                      exact ⟨ret_bool HF.out.symm, hx.tr hy2⟩
                  · have HQ2 := Lib.hid (HQ.out.step fun h => absurd h hsn)
                    simp only [Bool.not_eq_true] at hsn
                    go_wp2
                    go_roundg (g2 - 1)
                    case measure => omega
                    case rel => exact ⟨q + 1, by omega, rfl, by go_num, HQ2, rfl⟩
                · obtain rfl : q = 6 := by omega
                  have HC2 := Lib.hid (show CL.Cmpt k u (l.take (j + 1)) by
                    rw [HT2.out]
                    exact CL.Cmpt.snoc.2 ⟨HC.out, hp, hsum, HQ.out.all HC.out.2.1⟩)
                  have f1 := HSN2.out.frozen am.toNat
                  have f2 : ∃ v, w2.cell? ⟨w1.heap.size, am.toNat, none⟩ = some v := by
                    rw [HSN2.out.cell]
                    exact ⟨_, Array.getElem?_eq_getElem (by simpa [seenA] using v3)⟩
                  obtain ⟨vv, f2⟩ := f2
                  have HSN3 := HSN2.out.set am.toNat (.bool true)
                  rw [seen_set (a := ⟨am, au⟩) hv, ← HT2.out] at HSN3
                  have HSN3 := Lib.hid HSN3
                  clear m0 m1 m2 m3 m4 m5 hix
                  go_wp2
                  go_roundg (g - 1)
                  case measure => omega
                  case rel => exact ⟨j + 1, by omega, rfl, by go_num, by rw [HS.out], HC2, hy2.setCell (Nat.le_refl _) _, HSN3.out⟩
          · have hd : decide (CL.sm (l.take j) + au > u) = true := by simp; omega
            have HF := Lib.hid (HT.out (fun hc => hsum (by
              rw [HT2.out] at hc
              have := hc.2.2.1
              rw [CL.sm_append] at this
              simpa [CL.sm] using this)))
            go_wp2
            (try rw [Exit.noGoto_ret])
            go_ret
            exact ⟨ret_bool HF.out.symm, hx.tr hy2⟩
        · simp only [Bool.not_eq_true] at hp
          have HF := Lib.hid (HB.out hp)
          go_wp2
          (try rw [Exit.noGoto_ret])
          go_ret
          exact ⟨ret_bool HF.out.symm, hx.tr hy2⟩
      · have HA := Lib.hid (cmpt_all (by omega) HC.out)
        go_wp2
        (try rw [Exit.noGoto_ret])
        go_ret
        exact ⟨ret_bool HA.out.symm, hx.tr hy⟩
  · have HA := Lib.hid (cmpt_bad (l := l) (by simpa using hs))
    go_enter Tryd.func18, Tryd.ntmps18
    go_wp2_with fail
    go_step3
    go_wp2_with (first
        | (go_at_call 13; refine (amount.Shaped_c _ _ _ _ _).mono ?_; rintro e w' ⟨rfl, hx1⟩; have hx := Ext.tr (a := w) (by go_grown) hx1; have hz := hx.size; obtain ⟨hc1, hf1⟩ := bcell hx1; have hz1 := hx1.size; (try simp only [World.size_alloc] at hz1); (try have hl0 : w.heap.size < w'.heap.size := by omega); (try have hl1 : w.heap.size + 1 < w'.heap.size := by omega); (try have hl2 : w.heap.size + 1 + 1 < w'.heap.size := by omega); (try have hl3 : w.heap.size + 1 + 1 + 1 < w'.heap.size := by omega); clear hx1))
    rw [Exit.noGoto_ret]
    go_ret
    exact ⟨ret_bool HA.out.symm, hx⟩
end Go.Proofs.YtghhmooknjoblaaDoor
