
/- The walks of the reference of chapter 8: Holds, Hopeless, Prune, Class, SameBools. -/
import Derived.Test.YtmboojbhnmdnkaaRf
import Derived.IntWalk
namespace Go.Proofs.Ytmboojbhnmdnkaa
open Go.RowKit
set_option linter.unusedVariables false
theorem clusterlocksref08.Holds_c (e : CL.Ex) (set : List Bool) (S : Option Addr) (d : Nat) (hs : set.length ≤ maxLen) (w : World) (B : Nat) (cs : List Value) (hR : Rd w B e cs) (hB : B ≤ w.heap.size) (hrs : Sits w S (bls set)) :
    Calls Try.prog 17 #[.agg cs.toArray, .slice S set.length d] w fun r w' => r = .returned (.bool (holdsE e set)) ∧ Ext w w' := by
  obtain ⟨k, s, m, u, A1, l1, c1, rfl⟩ := hR.shape
  obtain ⟨bE, hx0⟩ := box1 w #[.int .i64 k, .string s, .int .i64 m, .int .i64 u, .slice A1 l1 c1] 28
  have hz0 := hx0.size
  have hl8 := atoms_len e
  have HAT := Lib.hid (clusterlocksref07.Atoms_c e _ B _ (hR.ext hx0 hB) (by omega))
  cases hv : CL.valid e
  · have HV := Lib.hid (show holdsE e set = false by simp [holdsE, hv])
    go_enter Try.func17, Try.ntmps17
    go_wp2_with (go_at_call 34; (with_reducible refine HAT.out.mono ?_); intro r w' hp; obtain ⟨A2, c2, rfl, hr2, hx⟩ := hp.get)
    go_ret
    exact ⟨ret_bool HV.out.symm, hx0.tr hx⟩
  · have HV := Lib.hid (show holdsE e set = ev (hasA (CL.atoms e) set) e by simp [holdsE, hv])
    have HVV := Lib.hid hv
    go_enter Try.func17, Try.ntmps17
    go_wp2_with (first
      | (go_at_call 34; (with_reducible refine HAT.out.mono ?_); intro r w' hp; obtain ⟨A2, c2, rfl, hr2, hx⟩ := hp.get; obtain ⟨e0, e1, e2, e3, e4⟩ := (bE.ext hx).c5; have hz1 := hx.size)
      | (go_at_call 36; (with_reducible refine (rholds_c (CL.atoms e) set _ S _ d (by unfold maxLen; omega) hs e HVV.out _ B _ ((hR.ext hx0 hB).ext hx (by omega)) (by omega) hr2 ((hrs.ext hx0).ext hx)).mono ?_); rintro r w'' ⟨rfl, hx1⟩))
    go_ret
    exact ⟨ret_bool HV.out.symm, hx0.tr (Ext.tr hx hx1)⟩
set_option maxHeartbeats 1600000 in
theorem clusterlocksref08.Hopeless_c (e : CL.Ex) (dead : List Bool) (S : Option Addr) (d : Nat) (hs : dead.length ≤ maxLen) (w : World) (B : Nat) (cs : List Value) (hR : Rd w B e cs) (hB : B ≤ w.heap.size) (hrs : Sits w S (bls dead)) :
    Calls Try.prog 19 #[.agg cs.toArray, .slice S dead.length d] w fun r w' => r = .returned (.bool (hpl e dead)) ∧ Ext w w' := by
  obtain ⟨k, s, m, u, A1, l1, c1, rfl⟩ := hR.shape
  obtain ⟨bE, hx0⟩ := box1 w #[.int .i64 k, .string s, .int .i64 m, .int .i64 u, .slice A1 l1 c1] 28
  have hz0 := hx0.size
  have hl8 := atoms_len e
  unfold maxLen at hs
  have HAT := Lib.hid (clusterlocksref07.Atoms_c e _ B _ (hR.ext hx0 hB) (by omega))
  cases hv : CL.valid e
  · have HV := Lib.hid (show hpl e dead = false by simp [hpl, hv])
    go_enter Try.func19, Try.ntmps19
    go_wp2_with (go_at_call 34; (with_reducible refine HAT.out.mono ?_); intro r w' hp; obtain ⟨A2, c2, rfl, hr2, hx⟩ := hp.get)
    go_ret
    exact ⟨ret_bool HV.out.symm, hx0.tr hx⟩
  · have HV := Lib.hid (show hpl e dead = !ev (hasA (CL.atoms e) (restOf (CL.atoms e).length dead)) e by simp [hpl, hv])
    have HVV := Lib.hid hv
    have HAT2 := Lib.hid (show ∀ r w', RAts e (w.alloc (.cells #[.int .i64 k, .string s, .int .i64 m, .int .i64 u, .slice A1 l1 c1] 28)) r w' → ∃ A c, r = .returned (.tuple #[.slice A (CL.atoms e).length c, .bool true]) ∧ Sits w' A (ats (CL.atoms e)) ∧ Ext (w.alloc (.cells #[.int .i64 k, .string s, .int .i64 m, .int .i64 u, .slice A1 l1 c1] 28)) w' from fun r w' hp => by
      have := hp.get; rwa [hv] at this)
    generalize hN : CL.atoms e = L0 at *
    have HN := Lib.hid hN
    clear hN
    have hmk := mk_bools L0.length (by omega)
    go_enter Try.func19, Try.ntmps19
    go_wp2_with (go_at_call 34; (with_reducible refine HAT.out.mono ?_); intro r w' hp; obtain ⟨A2, c2, rfl, hr2, hx⟩ := HAT2.out _ _ hp)
    have hbE := bE.ext hx
    have HRA := Lib.hid hr2
    have hxw := hx0.tr hx
    have hz1 := hx.size
    have HXW := Lib.hid hx
    clear hx hr2 HAT HAT2 hmk
    generalize hn2 : L0.length = n at *
    have hbS := Blk.new w' 4 (bls (List.replicate n false)).toArray
    have hxS := Ext.new w' (.cells (bls (List.replicate n false)).toArray 4)
    have hg : w.heap.size < w'.heap.size := hbE.lt
    generalize hG : w'.heap.size = g at *
    generalize (w'.alloc (.cells (bls (List.replicate n false)).toArray 4)) = w2 at *
    go_loopw [8] (fun i wr => ∃ (j : Nat) (L : List Bool), j ≤ n ∧ i = .int .i64 j ∧ Only g w2 wr ∧ Blk wr g 4 (bls L).toArray ∧ Hid (Filled (fun i => !(dead.getD i false)) L n j)) (fun i _ => n - (intOf i).toNat)
    case atStart => exact ⟨0, _, by omega, rfl, Only.rf, hbS, Filled.zero _ _⟩
    case round =>
      obtain ⟨j, L, hj, rfl, ho, hb, HF⟩ := hrel
      have hlen := HF.out.1
      have hsz := ho.size
      by_cases hlt : j < n
      · have hbs := hb.set j (.bool (!(dead.getD j false)))
        rw [bls_set] at hbs
        have s0 : wr.cell? ⟨g, j, none⟩ = some (.bool (L[j]'(by omega))) := by rw [hb.cell]; simp [bls, show j < L.length by omega]
        have z0 := hb.frozen j
        have hji : (j : Int) < (n : Int) := by omega
        by_cases hd : j < dead.length
        · have hgd : dead.getD j false = dead[j] := by simp [List.getD, hd]
          rw [hgd] at hbs
          obtain ⟨b, o, rfl, hc⟩ := (hrs.ext hxw).bool hd
          have hbw := World.block_lt_of_cell? _ _ hc
          have hc2 : wr.cell? ⟨b, o + j, none⟩ = some (.bool dead[j]) := ho.cell (hxS.cell hc) (by intro e; injection e with e; simp at hbw e; omega)
          have hjd : ¬ (dead.length : Int) ≤ (j : Int) := by omega
          have HF2 := Lib.hid HF.out.step
          rw [hgd] at HF2
          clear hc hgd
          go_wp2
          exact ⟨⟨j + 1, _, by omega, by go_num, ho.set _ _, hbs, HF2⟩, by simp [intOf]; omega⟩
        · have hgd : dead.getD j false = false := by simp [List.getD, List.getElem?_eq_none (show dead.length ≤ j by omega)]
          rw [hgd] at hbs
          have hjd : (dead.length : Int) ≤ (j : Int) := by omega
          have HF2 := Lib.hid HF.out.step
          rw [hgd] at HF2
          clear hgd
          go_wp2
          exact ⟨⟨j + 1, _, by omega, by go_num, ho.set _ _, hbs, HF2⟩, by simp [intOf]; omega⟩
      · have hL := HF.out.done (by omega)
        obtain ⟨e0, e1, e2, e3, e4⟩ := ((hbE.ext hxS).only ho (by omega)).c5
        have hxr : Ext w' wr := Ext.only hxS ho (by omega)
        have hsl : Sits wr (some ⟨g, 0, none⟩) (bls L) := hb.sits
        have HSL := Lib.hid hsl
        have HLL := Lib.hid (show ev (hasA L0 (restOf n dead)) e = ev (hasA L0 L) e by rw [hL]; rfl)
        have HX := Lib.hid hxr
        have hsL : L.length ≤ maxLen := by unfold maxLen; omega
        have hzr := hxr.size
        obtain rfl := hlen
        clear hsl hL hxr HF
        have hc := fun c2 => rholds_c L0 L A2 (some ⟨g, 0, none⟩) c2 L.length (by unfold maxLen; omega) hsL e HVV.out wr B _ ((hR.ext hx0 hB).ext (Ext.tr HXW.out HX.out) (by omega)) (by omega) (HRA.out.ext HX.out) HSL.out
        rw [hn2] at hc
        have HC := Lib.hid hc
        clear hc
        go_wp2_with (go_at_call 36; (with_reducible refine (HC.out _).mono ?_); rintro r w'' ⟨rfl, hx1⟩)
        go_ret
        exact ⟨ret_bool (by rw [HV.out, HLL.out]), hxw.tr (HX.out.tr hx1)⟩
theorem take_ne {a b : List Bool} {j : Nat} (h : ¬ a.length = b.length) : (a == b) = false := beq_eq_false_iff_ne.2 (fun e => h (by rw [e]))
theorem at_ne' {a b : List Bool} {j : Nat} (ha : j < a.length) (hb : j < b.length) (h : ¬ a[j] = b[j]) : (a == b) = false := beq_eq_false_iff_ne.2 (fun e => h (by subst e; rfl))
theorem all_eq {a b : List Bool} {j : Nat} (hl : a.length = b.length) (h : a.take j = b.take j) (hj : a.length ≤ j) : (a == b) = true := by
  rw [List.take_of_length_le hj, List.take_of_length_le (by omega)] at h
  simpa using h
theorem take_eq {a b : List Bool} {j : Nat} (h : a.take j = b.take j) (ha : j < a.length) (hb : j < b.length) (e : a[j] = b[j]) : a.take (j + 1) = b.take (j + 1) := by
  rw [List.take_succ_eq_append_getElem ha, List.take_succ_eq_append_getElem hb, h, e]
set_option maxHeartbeats 800000 in
theorem clusterlocksref08.SameBools_c (a b : List Bool) (A S : Option Addr) (c d : Nat) (w : World) (ha : a.length ≤ maxLen) (hb : b.length ≤ maxLen) (hra : Sits w A (bls a)) (hrb : Sits w S (bls b)) :
    Calls Try.prog 24 #[.slice A a.length c, .slice S b.length d] w fun r w' => r = .returned (.bool (a == b)) ∧ Ext w w' := by
  unfold maxLen at ha hb
  by_cases hl : a.length = b.length
  · have hln : ((a.length : Int) != (b.length : Int)) = false := by simp [hl]
    have HL := Lib.hid hl
    have HT : Hid (a.take 0 = b.take 0) := Lib.hid (by simp)
    have hab : a.length ≤ b.length := by omega
    clear hl
    go_enter Try.func24, Try.ntmps24
    go_wp2
    go_loopw [5] (fun i wr => ∃ j : Nat, j ≤ a.length ∧ i = .int .i64 j ∧ Ext w wr ∧ Hid (a.take j = b.take j)) (fun i _ => a.length - (intOf i).toNat)
    case atStart => exact ⟨0, by omega, rfl, Ext.rfl', HT⟩
    case round =>
      obtain ⟨j, hj, rfl, hy, HJ⟩ := hrel
      by_cases hlt : j < a.length
      · obtain ⟨b1, o1, rfl, c1⟩ := (hra.ext hy).bool hlt
        obtain ⟨b2, o2, rfl, c2⟩ := (hrb.ext hy).bool (show j < b.length by omega)
        have q1 := ExtOf.cell c1
        have q2 := ExtOf.cell c2
        have hjb : j < b.length := by omega
        have H1 := Lib.hid (show ¬ a[j] = b[j] → (a == b) = false from fun h => at_ne' hlt hjb h)
        have H2 := Lib.hid (show a[j] = b[j] → a.take (j + 1) = b.take (j + 1) from fun h => take_eq HJ.out hlt hjb h)
        have hji : (j : Int) < (b.length : Int) := by omega
        generalize a[j] = x at *
        generalize b[j] = y at *
        clear c1 c2
        by_cases hxy : x = y
        · have H3 := Lib.hid (H2.out hxy)
          subst hxy
          go_wp2_with fail
          refine wp_region_ext_lit (by kernel_rfl) (by kernel_rfl) ?_
          repeat (go_big_quiet_step (fail))
          refine wpQuiet_nil ?_
          intro wq hw'
          obtain ⟨⟨wq', hxq⟩, hw''⟩ := hw'
          subst hw''
          go_wp2
          exact ⟨⟨j + 1, by omega, by go_num, hy.tr hxq, H3⟩, by simp [intOf]; omega⟩
        · have H3 := Lib.hid (H1.out hxy)
          have hne : (x == y) = false := by simpa using hxy
          clear hxy
          go_wp2_with fail
          refine wp_region_ext_lit (by kernel_rfl) (by kernel_rfl) ?_
          repeat (go_big_quiet_step (fail))
          refine wpQuiet_nil ?_
          intro wq hw'
          obtain ⟨⟨wq', hxq⟩, hw''⟩ := hw'
          subst hw''
          go_wp2
          go_ret
          exact ⟨ret_bool H3.out.symm, hy.tr hxq⟩
      · have H3 := Lib.hid (all_eq HL.out HJ.out (by omega))
        go_wp2
        go_ret
        exact ⟨ret_bool H3.out.symm, hy⟩
  · have HF := Lib.hid (take_ne (j := 0) hl)
    have hln : ((a.length : Int) != (b.length : Int)) = true := by simp; omega
    go_enter Try.func24, Try.ntmps24
    go_wp2
    go_ret
    exact ⟨ret_bool HF.out.symm, Ext.rfl'⟩
end Go.Proofs.Ytmboojbhnmdnkaa
