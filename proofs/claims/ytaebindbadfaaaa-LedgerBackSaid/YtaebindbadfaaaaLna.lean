
/- Ledger: the walk of the reference's names. -/
import Derived.Test.YtaebindbadfaaaaLma
import Derived.IntWalk
namespace CL
open Go.Op (bytesLess)
theorem up_list {α : Type} (L : List α) (s : α) {k : Nat} (hk : 0 < k) (hl : k ≤ L.length) : ((L.take k ++ s :: L.drop k).set k (L[k - 1]'(by omega))).set (k - 1) s = L.take (k - 1) ++ s :: L.drop (k - 1) := by
  obtain ⟨m, rfl⟩ : ∃ m, k = m + 1 := ⟨k - 1, by omega⟩
  have hm : m < L.length := by omega
  simp only [Nat.add_sub_cancel]
  rw [take_snoc hm, List.drop_eq_getElem_cons hm]
  have hp : (L.take m).length = m := by simp; omega
  generalize L.take m = P at *
  generalize L[m] = y at *
  generalize L.drop (m + 1) = Q at *
  have e1 : P ++ [y] ++ s :: Q = P ++ (y :: s :: Q) := by simp
  rw [e1, List.set_append_right _ _ (by omega : P.length ≤ m + 1), hp, show m + 1 - m = 1 by omega]
  simp only [List.set_cons_succ, List.set_cons_zero]
  rw [List.set_append_right _ _ (by omega : P.length ≤ m), hp, Nat.sub_self]
  simp only [List.set_cons_zero]
end CL
namespace Go.Proofs.Ytaebindbadfaaaa
open Go.RowKit
set_option linter.unusedVariables false
set_option linter.unusedSimpArgs false
def strs (l : List (List UInt8)) : List Value := l.map (fun s => Value.string ⟨s.toArray⟩)
theorem strs_len (l : List (List UInt8)) : (strs l).length = l.length := by simp [strs]
theorem strs_get {l : List (List UInt8)} {j : Nat} (h : j < l.length) : (strs l)[j]? = some (.string ⟨l[j].toArray⟩) := by simp [strs, h]
theorem strs_one (l : List (List UInt8)) : ∀ u ∈ strs l, u.oneCell' = true := by
  intro u hu
  obtain ⟨s, _, rfl⟩ := List.mem_map.1 hu
  rfl
theorem Sits.strs {w : World} {l : List (List UInt8)} {A : Option Addr} (hr : Sits w A (Ytaebindbadfaaaa.strs l)) {k : Nat} (h : k < l.length) : ∃ b o, A = some ⟨b, o, none⟩ ∧ w.cell? ⟨b, o + k, none⟩ = some (.string ⟨l[k].toArray⟩) := by
  obtain ⟨b, o, e, hc⟩ := hr (by intro hn; have := congrArg List.length hn; rw [strs_len] at this; simp only [List.length_nil] at this; omega)
  exact ⟨b, o, e, hc k _ (strs_get h)⟩
theorem str_info : (Try.prog.info? 9).map (fun i => (i.zero, i.size, i.bytes)) = some (some (.string ⟨#[]⟩), 1, 16) := by kernel_rfl
/-- a cell of a row of the call's own, of elements of one cell, is written -/
theorem own_set1 {w : World} {base : Nat} {E : TypeId} {n c g i : Nat} {xs : List Value} (h : w.ownsRow base E 1 (.slice (some ⟨g, 0, none⟩) n c) n xs) (hi : i < n) (u : Value) : (w.setCell ⟨g, i, none⟩ u).ownsRow base E 1 (.slice (some ⟨g, 0, none⟩) n c) n (xs.set i u) := by
  refine ⟨by simpa using h.1, ?_⟩
  rcases h.2 with ⟨e, _⟩ | ⟨g', cap, cur, e, hb, hh, hn, hcap, hcs, ht⟩
  · cases e
  · injection e with e1 e2 e3
    injection e1 with e1
    injection e1 with e1
    subst e1 e3
    refine .inr ⟨g, c, cur.setIfInBounds i u, rfl, hb, ?_, hn, hcap, by simpa using hcs, ?_⟩
    · have hB : Blk w g E cur := hh
      exact hB.set i u
    · rw [Array.toList_setIfInBounds, List.take_set, ht]
theorem own_at {w : World} {base : Nat} {E : TypeId} {n c : Nat} {A : Option Addr} {xs : List Value} (h : w.ownsRow base E 1 (.slice A n c) n xs) (hn : 0 < n) : ∃ g, A = some ⟨g, 0, none⟩ ∧ base ≤ g ∧ ∃ cur, Blk w g E cur := by
  rcases h.2 with ⟨e, hz⟩ | ⟨g', cap, cur, e, hb, hh, _⟩
  · omega
  · injection e with e1 e2 e3
    exact ⟨g', e1, hb, cur, hh⟩
theorem own_blk1 {w : World} {base : Nat} {E : TypeId} {n c g : Nat} {xs : List Value} (h : w.ownsRow base E 1 (.slice (some ⟨g, 0, none⟩) n c) n xs) (hn : 0 < n) : base ≤ g ∧ ∃ cur, Blk w g E cur := by
  obtain ⟨g', e, hb, hB⟩ := own_at h hn
  injection e with e
  injection e with e
  subst e
  exact ⟨hb, hB⟩
theorem own_cell {w : World} {base : Nat} {E : TypeId} {n c g : Nat} {l : List (List UInt8)} (h : w.ownsRow base E 1 (.slice (some ⟨g, 0, none⟩) n c) n (strs l)) {k : Nat} (hk : k < l.length) : w.cell? ⟨g, k, none⟩ = some (.string ⟨l[k].toArray⟩) := by
  obtain ⟨b, o, e, hc⟩ := (Sits.of_own h).strs hk
  injection e with e
  injection e with e1 e2
  subst e1 e2
  rwa [Nat.zero_add] at hc
def NamesPost (l : List CL.En) (w : World) (r : Ending) (w' : World) : Prop := ∃ B c, r = .returned (.slice B (CL.snm l).length c) ∧ Sits w' B (strs (CL.snm l)) ∧ (CL.snm l).length ≤ c ∧ Ext w w'
set_option maxHeartbeats 6400000 in
set_option maxRecDepth 100000 in
theorem clusterlocksref14.names_c (l : List CL.En) (A : Option Addr) (c : Nat) (w : World) (hl : l.length ≤ 1000) (hr : Sits w A (ens l)) :
    Calls Try.prog 51 #[.slice A l.length c] w (NamesPost l w) := by
  go_enter Try.func51, Try.ntmps51
  go_wp2
  go_loopw [3, 4] (fun out i wr => ∃ (j : Nat) (B : Option Addr) (cb n : Nat) (L : List (List UInt8)), j ≤ l.length ∧ i = .int .i64 j ∧ out = .slice B n cb ∧ Hid (wr.ownsRow w.heap.size 9 1 (.slice B n cb) n (strs L)) ∧ Hid (L = CL.snm (l.take j) ∧ n = L.length) ∧ Ext w wr) (fun _ i _ => l.length - (intOf i).toNat)
  case atStart => exact ⟨0, none, 0, 0, [], by omega, rfl, rfl, Lib.hid (nil_own _ _ _ _), Lib.hid ⟨by simp [CL.snm, CL.dn_nil], rfl⟩, Ext.rfl'⟩
  case round =>
    obtain ⟨j, B, cb, n, L, hj, rfl, rfl, HO, HL, hx⟩ := hrel
    have hn1 : n ≤ 1000 := by
      have h1 := HL.out.2; have h2 := CL.snm_len (l.take j); have h3 := CL.dn_le (l.take j); rw [← HL.out.1, ← h1] at h2; simp at h3; omega
    by_cases hlt : j < l.length
    · obtain ⟨b, o, rfl, c0, c1, c2, c3, c4⟩ := (hr.ext hx).ens hlt
      have HST := Lib.hid (CL.take_snoc hlt)
      generalize hrj : l[j] = r0 at *
      have HRJ := Lib.hid hrj
      clear hrj c1 c2 c3 c4
      go_wp2_with fail
      go_loopw [5, 6] (fun is k wk => ∃ (q m : Nat) (f : Bool), q ≤ n ∧ k = .int .i64 q ∧ is = .bool f ∧ Hid (f = decide (r0.n ∈ L.take q)) ∧ wk = wr.drewN m) (fun _ k _ => n - (intOf k).toNat)
      case atStart => exact ⟨0, 0, false, by omega, rfl, rfl, Lib.hid (by simp), rfl⟩
      case round =>
        obtain ⟨q, m, f, hq, rfl, rfl, HF, rfl⟩ := hrel
        have c0m : (wr.drewN m).cell? ⟨b, o + j * 5, none⟩ = some (.string ⟨r0.n.toArray⟩) := c0
        by_cases hqn : q < n
        · have hqL : q < L.length := by rw [← HL.out.2]; exact hqn
          obtain ⟨b2, o2, rfl, d0⟩ := (Sits.of_own HO.out).strs hqL
          have d0m : (wr.drewN m).cell? ⟨b2, o2 + q, none⟩ = some (.string ⟨L[q].toArray⟩) := d0
          have HT := Lib.hid (CL.take_snoc hqL)
          generalize hlq : L[q] = s0 at *
          have HLQ := Lib.hid hlq
          clear hlq
          cases f
          · by_cases hs : s0 = r0.n
            · have hq1 : (s0 == r0.n) = true := by simp [hs]
              have HS := Lib.hid hs
              clear hs
              go_wp2_with fail
              go_quiet (fail)
              go_wp2
              refine ⟨⟨q + 1, _, true, by omega, by go_num, rfl, Lib.hid ?_, rfl⟩, by simp [intOf]; omega⟩
              rw [HT.out, HS.out]; simp
            · have hq1 : (s0 == r0.n) = false := beq_eq_false_iff_ne.2 hs
              have HS := Lib.hid hs
              clear hs
              go_wp2_with fail
              go_quiet (fail)
              go_wp2
              refine ⟨⟨q + 1, _, false, by omega, by go_num, rfl, Lib.hid ?_, rfl⟩, by simp [intOf]; omega⟩
              have h1 := HF.out
              have h2 := HS.out
              rw [HT.out]
              simp at h1 ⊢
              exact ⟨h1, fun e => h2 e.symm⟩
          · go_wp2_with fail
            go_quiet (fail)
            go_wp2
            refine ⟨⟨q + 1, _, true, by omega, by go_num, rfl, Lib.hid ?_, rfl⟩, by simp [intOf]; omega⟩
            have h1 := HF.out
            rw [HT.out]
            simp at h1 ⊢
            exact .inl h1
        · obtain rfl : q = n := by omega
          have HLT := Lib.hid (show L.take q = L by rw [HL.out.2, List.take_length])
          cases f
          · go_wp2_with (first
              | (at_builtin; refine wpList_append_sits _ rfl (.tmp 35) (.tmp 41) _ rfl w.heap.size 9 1 16 _ Try.underlying51 str_info rfl (by omega) _ _ _ rfl ((own_drewN HO.out m).alloc _) _ _ _ [.string ⟨r0.n.toArray⟩] rfl rfl (Sits.new _ _ _) (by simp [Value.oneCell']) (by unfold maxLen; omega) (by omega) (by have := hx.size; simp; omega) ?_; intro v5 w5 ho5 hb5 hg5; (obtain ⟨B5, c5, rfl, hc5, _⟩ := own_form ho5))
              | go_in)
            have hx5 : Ext w w5 := ((hx.drewN m).tr (Ext.new _ _)).trans hb5
            have hnm : r0.n ∉ L := by have h := HF.out; rw [HLT.out] at h; simpa using h
            have HNM := Lib.hid hnm
            have hqL : q = L.length := HL.out.2
            have ho5' : w5.ownsRow w.heap.size 9 1 (.slice B5 (q + 1) c5) (q + 1) (strs (L.take q ++ r0.n :: L.drop q)) := by
              rw [HLT.out, hqL, List.drop_length]; rw [hqL] at ho5; simpa [strs] using ho5
            have HQL := Lib.hid hqL
            clear hqL hnm ho5
            obtain ⟨g, rfl, hgb, _⟩ := own_at ho5' (by omega)
            go_loopw [7] (fun k wk => ∃ p : Nat, p ≤ q ∧ k = .int .i64 p ∧ Hid (wk.ownsRow w.heap.size 9 1 (.slice (some ⟨g, 0, none⟩) (q + 1) c5) (q + 1) (strs (L.take p ++ r0.n :: L.drop p))) ∧ Hid (∀ i, (hi : i < L.length) → p ≤ i → Op.bytesLess r0.n L[i] = true) ∧ Ext w wk) (fun k _ => (intOf k).toNat)
            case atStart => exact ⟨q, Nat.le_refl _, rfl, Lib.hid ho5', Lib.hid (fun i hi hqi => by have := HQL.out; omega), hx5⟩
            case round =>
              obtain ⟨p, hpq, rfl, HOk, HGT, hxk⟩ := hrel
              obtain ⟨_, cur, hBk⟩ := own_blk1 HOk.out (by omega)
              have HBk := Lib.hid hBk
              clear hBk
              have hpL : p ≤ L.length := by have := HQL.out; omega
              have hOl : (L.take p ++ r0.n :: L.drop p).length = L.length + 1 := by simp; omega
              have hOp : (L.take p ++ r0.n :: L.drop p)[p]'(by rw [hOl]; omega) = r0.n := by
                rw [List.getElem_append_right (by rw [List.length_take]; omega)]
                simp only [List.length_take, Nat.min_eq_left hpL, Nat.sub_self, List.getElem_cons_zero]
              have z0 := own_cell HOk.out (k := p) (by rw [hOl]; omega)
              rw [hOp] at z0
              have hnext : ∀ k : Nat, k ≤ L.length → (∀ i, (hi : i < L.length) → i < k → Op.bytesLess L[i] r0.n = true) → (∀ i, (hi : i < L.length) → k ≤ i → Op.bytesLess r0.n L[i] = true) → L.take k ++ r0.n :: L.drop k = CL.snm (l.take (j + 1)) := by
                intro k hk k1 k2
                rw [HST.out]
                have h1 := HL.out.1
                subst h1
                exact CL.snm_snoc_new (l := l.take j) (e := r0) HNM.out hk k1 k2
              have HNX := Lib.hid hnext
              clear hnext hOp
              by_cases hp0 : p = 0
              · subst hp0
                have HE := Lib.hid (HNX.out 0 (Nat.zero_le _) (fun i hi h => by omega) (fun i hi h => HGT.out i hi h))
                go_wp2_with fail
                go_quiet (fail)
                go_wp2
                refine ⟨⟨j + 1, some ⟨g, 0, none⟩, c5, q + 1, CL.snm (l.take (j + 1)), by omega, by go_num, rfl, Lib.hid ?_, Lib.hid ⟨rfl, ?_⟩, hxk.drewN _⟩, by simp [intOf]; omega⟩
                · rw [← HE.out]; exact own_drewN HOk.out _
                · rw [← HE.out, hOl, HQL.out]
              · have hy : p - 1 < L.length := by omega
                have hOq : (L.take p ++ r0.n :: L.drop p)[p - 1]'(by rw [hOl]; omega) = L[p - 1] := by
                  rw [List.getElem_append_left (by rw [List.length_take]; omega), List.getElem_take]
                have z1 := own_cell HOk.out (k := p - 1) (by rw [hOl]; omega)
                rw [hOq] at z1
                have HUP := Lib.hid (CL.up_list L r0.n (k := p) (by omega) hpL)
                have HAS := Lib.hid (show ∀ i, (hi : i < L.length) → i < p - 1 → Op.bytesLess L[i] L[p - 1] = true from fun i hi h => by
                  have h1 := CL.snm_asc (l.take j)
                  have h2 := HL.out.1
                  subst h2
                  exact List.pairwise_iff_getElem.1 h1 i (p - 1) hi hy h)
                have HNE := Lib.hid (show L[p - 1] ≠ r0.n from fun e => HNM.out (e ▸ List.getElem_mem hy))
                clear hOq hOl
                generalize hy0 : L[p - 1] = y at *
                have HY := Lib.hid hy0
                clear hy0
                have g1 : IntKind.i64.wrap ((p : Int) - 1) = (p : Int) - 1 := IntWalk.i64_in _ (by omega)
                have g2 : (1 : Int) ≤ (p : Int) := by omega
                have g3 : ((p : Int) - 1).toNat = p - 1 := by omega
                have g4 : (p : Int) - 1 < (q : Int) + 1 := by omega
                have g5 : 0 ≤ (p : Int) - 1 := by omega
                have g6 : (p : Int) < (q : Int) + 1 := by omega
                have g7 : (0 : Int) < (p : Int) := by omega
                have g8 : 0 < p := by omega
                have g9 : p < q + 1 := by omega
                cases hb : Op.bytesLess r0.n y
                · have HB := Lib.hid hb
                  have HE := Lib.hid (HNX.out p hpL (fun i hi h => by
                    have hyr : Op.bytesLess y r0.n = true := by
                      rcases CL.bs_tot y r0.n with h | h | h
                      · exact h
                      · exact absurd h HNE.out
                      · rw [HB.out] at h; cases h
                    by_cases e : i = p - 1
                    · subst e; rw [HY.out]; exact hyr
                    · exact CL.bs_tr (HAS.out i hi (by omega)) hyr) (fun i hi h => HGT.out i hi h))
                  go_wp2_with fail
                  go_quiet (fail)
                  go_wp2
                  refine ⟨⟨j + 1, some ⟨g, 0, none⟩, c5, q + 1, CL.snm (l.take (j + 1)), by omega, by go_num, rfl, Lib.hid ?_, Lib.hid ⟨rfl, ?_⟩, hxk.drewN _⟩, by simp [intOf]; omega⟩
                  · rw [← HE.out]; exact own_drewN HOk.out _
                  · rw [← HE.out, HQL.out]; simp; omega
                · have HB := Lib.hid hb
                  have m0 := HBk.out.frozen p
                  have m1 := HBk.out.frozen (p - 1)
                  have HGE := Lib.hid (show ∀ i, (hi : i < L.length) → p - 1 ≤ i → Op.bytesLess r0.n L[i] = true from fun i hi h => by
                    by_cases e : i = p - 1
                    · subst e; rw [HY.out]; exact HB.out
                    · exact HGT.out i hi (by omega))
                  go_wp2_with fail
                  go_quiet (fail)
                  go_wp2_with fail
                  refine ⟨⟨p - 1, by omega, by go_num, Lib.hid ?_, HGE, ?_⟩, by simp [intOf]; omega⟩
                  · rw [← HUP.out]
                    have h2 : strs (((L.take p ++ r0.n :: L.drop p).set p y).set (p - 1) r0.n) = ((strs (L.take p ++ r0.n :: L.drop p)).set p (.string ⟨y.toArray⟩)).set (p - 1) (.string ⟨r0.n.toArray⟩) := by
                      simp only [strs, List.map_set]
                    rw [h2]
                    exact own_set1 (own_set1 (own_drewN HOk.out _) (i := p) (by omega) (.string ⟨y.toArray⟩)) (i := p - 1) (by omega) (.string ⟨r0.n.toArray⟩)
                  · exact ((hxk.drewN _).setCell (p := ⟨g, p, none⟩) hgb _).setCell (p := ⟨g, p - 1, none⟩) hgb _
          · have hm : r0.n ∈ L := by have h := HF.out; rw [HLT.out] at h; simpa using h.symm
            have HN := Lib.hid (show L = CL.snm (l.take (j + 1)) by
              rw [HST.out, CL.snm_snoc_old (by rw [← HL.out.1]; exact hm)]; exact HL.out.1)
            clear hm
            go_wp2
            exact ⟨⟨j + 1, B, cb, q, L, by omega, by go_num, rfl, Lib.hid (own_drewN HO.out m), Lib.hid ⟨HN.out, HL.out.2⟩, hx.drewN m⟩, by simp [intOf]; omega⟩
    · obtain rfl : j = l.length := by omega
      have hLL := HL.out
      rw [List.take_length] at hLL
      obtain ⟨B', cb', hB, hcb, _⟩ := own_form HO.out
      injection hB with hB1 _ hB
      subst hB1 hB
      go_wp2
      go_ret
      refine ⟨B, cb, (by rw [← hLL.1, ← hLL.2]; rfl), ?_, by rw [← hLL.1, ← hLL.2]; exact hcb, hx⟩
      rw [← hLL.1]
      exact Sits.of_own HO.out
end Go.Proofs.Ytaebindbadfaaaa
