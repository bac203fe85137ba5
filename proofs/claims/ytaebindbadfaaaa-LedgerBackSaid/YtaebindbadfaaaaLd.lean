
/- Ledger: the walk of Valid. -/
import Derived.Test.YtaebindbadfaaaaLc
namespace Go.Proofs.Ytaebindbadfaaaa
open Go.RowKit
set_option linter.unusedVariables false
set_option linter.unusedSimpArgs false
theorem ValidName_x (s : List UInt8) (w : World) (hs : s.length ≤ maxLen) : Calls Try.prog 54 #[.string ⟨s.toArray⟩] w fun e w' => e = .returned (.bool (CL.vname s)) ∧ Ext w w' :=
  (catalog.ValidName_c s w hs).mono fun _ _ h => ⟨h.1, h.2 ▸ Ext.rfl'⟩
set_option maxHeartbeats 3200000 in
set_option maxRecDepth 100000 in
theorem ledger.Valid_c (x : CL.Lg) (v : Value) (w : World) (hv : LgV w v x) (hf : Fine x) :
    Calls Try.prog 36 #[v] w fun r w' => r = .returned (.bool (CL.lval x)) ∧ Ext w w' := by
  obtain ⟨A, c, A', c', rfl, h1, h2, h3, h4⟩ := hv
  obtain ⟨k1, k2, k3⟩ := hf
  have hmm := @run_makeMap Try.prog
  have HV := Lib.hid (CL.EnTo.zero x.es)
  go_enter Try.func36, Try.ntmps36
  go_wp2_with fail
  obtain ⟨b1, hx0⟩ := box1 w #[.slice A x.es.length c, .slice A' x.ss.length c'] 31
  have hz := hx0.size
  have b1l := b1.lt
  have hm0 := MapAm.made (w.alloc (.cells #[.slice A x.es.length c, .slice A' x.ss.length c'] 31))
  have hxm := hx0.tr (Ext.new (w.alloc (.cells #[.slice A x.es.length c, .slice A' x.ss.length c'] 31)) (.map #[] 0))
  have b1m := b1.ext (Ext.new (w.alloc (.cells #[.slice A x.es.length c, .slice A' x.ss.length c'] 31)) (.map #[] 0))
  have hB : (w.alloc (.cells #[.slice A x.es.length c, .slice A' x.ss.length c'] 31)).heap.size = w.heap.size + 1 := World.size_alloc _ _
  rw [hB] at hm0
  generalize ((w.alloc (.cells #[.slice A x.es.length c, .slice A' x.ss.length c'] 31)).alloc (.map #[] 0)) = w1 at *
  go_loopw [10] (fun i wr => ∃ j : Nat, j ≤ x.es.length ∧ i = .int .i64 j ∧ Ext w wr ∧ Blk wr w.heap.size 31 #[.slice A x.es.length c, .slice A' x.ss.length c'] ∧ MapAm wr (w.heap.size + 1) (x.es.take j) ∧ Hid (CL.EnTo x.es j) ∧ Hid ((CL.dn (x.es.take j)).length ≤ 8)) (fun i _ => x.es.length - (intOf i).toNat)
  case atStart => exact ⟨0, by omega, rfl, hxm, b1m, hm0, HV, Lib.hid (by simp [CL.dn_nil])⟩
  case round =>
    obtain ⟨j, hj, rfl, hy, bb, hm, HJ, H8⟩ := hrel
    have hd8 : (CL.dn (x.es.take j)).length ≤ x.es.length := Nat.le_trans (CL.dn_le _) (by rw [List.length_take]; omega)
    by_cases hlt : j < x.es.length
    · obtain ⟨b, o, rfl, c0, c1, c2, c3, c4⟩ := (h1.ext hy).ens hlt
      have hnj := k3 _ (List.getElem_mem hlt)
      have ht : (x.es.take j).length < maxLen := by rw [List.length_take]; unfold maxLen; omega
      have HB := Lib.hid (fun h => CL.lval_en (x := x) hlt h)
      have HS := Lib.hid (fun h1 h2 h3 => HJ.out.step hlt h1 h2 h3)
      have HT := Lib.hid (CL.take_snoc hlt)
      have HD := Lib.hid (CL.dn_take_le x.es (j + 1))
      have bx := Blk.new wr 33 #[.string ⟨x.es[j].n.toArray⟩, .int .i64 x.es[j].b.m, .int .i64 x.es[j].b.u, .int .i64 x.es[j].a.m, .int .i64 x.es[j].a.u]
      have hxx := Ext.new wr (.cells #[.string ⟨x.es[j].n.toArray⟩, .int .i64 x.es[j].b.m, .int .i64 x.es[j].b.u, .int .i64 x.es[j].a.m, .int .i64 x.es[j].a.u] 33)
      generalize hrj : x.es[j] = r0 at *
      have HRJ := Lib.hid hrj
      clear hrj
      have hneq := fun (W : World) => am_neq r0.b.m r0.b.u (CL.held (x.es.take j) r0.n).m (CL.held (x.es.take j) r0.n).u W
      have hgd := am_guard
      have hdec : (decide (r0.b.m = (CL.held (x.es.take j) r0.n).m ∧ r0.b.u = (CL.held (x.es.take j) r0.n).u)) = decide (r0.b = CL.held (x.es.take j) r0.n) := by
        cases r0.b; cases CL.held (x.es.take j) r0.n; simp
      simp only [hdec] at hneq
      clear hdec
      generalize hbd : decide (r0.b = CL.held (x.es.take j) r0.n) = bd at *
      have HBD := Lib.hid hbd
      clear hbd
      have hB1 := hm.lt
      cases hv : CL.vname r0.n
      · have HF := Lib.hid (HB.out (fun h => by rw [hv] at h; cases h.1))
        go_wp2_with (first
          | (go_at_call 54; (with_reducible refine (ValidName_x _ _ hnj).mono ?_); rintro e w2 ⟨rfl, hx2⟩; (have hm2 := (hm.ext hxx).ext hx2); (have hlk := hm2.look _ hnj); (have hy2 := (hy.tr hxx).tr hx2); (obtain ⟨e0, e1, e2, e3, e4⟩ := (bx.ext hx2).c5); (have bb2 := (bb.ext hxx).ext hx2))
          | (go_at_call 15; (refine (ledger.Grows_c _ _ _ _ _).mono ?_); rintro e w3 ⟨rfl, hx3⟩; (have hm3 := hm2.ext hx3); (have hy3 := hy2.tr hx3); (obtain ⟨e0, e1, e2, e3, e4⟩ := ((bx.ext hx2).ext hx3).c5); (have bb3 := bb2.ext hx3))
          | (at_mapUpdate; refine wpList_put_am _ rfl _ _ _ rfl _ (x.es.take j) r0 rfl hm3 rfl rfl hnj ht ?_; intro w4 hm4 ho4; (have hlen := fun ty => hm4.len ty); (obtain ⟨e0, e1, e2, e3, e4⟩ := (((bx.ext hx2).ext hx3).only ho4 (by omega)).c5); (have bb4 := bb3.only ho4 (by omega)))
          | go_in)
        go_ret
        exact ⟨ret_bool HF.out.symm, hy2⟩
      · cases bd
        rotate_left
        · cases hg : CL.grows r0.b r0.a
          · have HF := Lib.hid (HB.out (fun h => by rw [hg] at h; cases h.2.2))
            go_wp2_with (first
              | (go_at_call 54; (with_reducible refine (ValidName_x _ _ hnj).mono ?_); rintro e w2 ⟨rfl, hx2⟩; (have hm2 := (hm.ext hxx).ext hx2); (have hlk := hm2.look _ hnj); (have hy2 := (hy.tr hxx).tr hx2); (obtain ⟨e0, e1, e2, e3, e4⟩ := (bx.ext hx2).c5); (have bb2 := (bb.ext hxx).ext hx2))
              | (go_at_call 15; (refine (ledger.Grows_c _ _ _ _ _).mono ?_); rintro e w3 ⟨rfl, hx3⟩; (have hm3 := hm2.ext hx3); (have hy3 := hy2.tr hx3); (obtain ⟨e0, e1, e2, e3, e4⟩ := ((bx.ext hx2).ext hx3).c5); (have bb3 := bb2.ext hx3))
              | (at_mapUpdate; refine wpList_put_am _ rfl _ _ _ rfl _ (x.es.take j) r0 rfl hm3 rfl rfl hnj ht ?_; intro w4 hm4 ho4; (have hlen := fun ty => hm4.len ty); (obtain ⟨e0, e1, e2, e3, e4⟩ := (((bx.ext hx2).ext hx3).only ho4 (by omega)).c5); (have bb4 := bb3.only ho4 (by omega)))
              | go_in)
            go_ret
            exact ⟨ret_bool HF.out.symm, hy3⟩
          · have HG := Lib.hid (HS.out hv (of_decide_eq_true HBD.out) hg)
            by_cases h8 : (CL.dn (x.es.take j ++ [r0])).length ≤ 8
            · have d8 : (decide (8 < (CL.dn (x.es.take j ++ [r0])).length)) = false := decide_eq_false (by omega)
              go_wp2_with (first
                | (go_at_call 54; (with_reducible refine (ValidName_x _ _ hnj).mono ?_); rintro e w2 ⟨rfl, hx2⟩; (have hm2 := (hm.ext hxx).ext hx2); (have hlk := hm2.look _ hnj); (have hy2 := (hy.tr hxx).tr hx2); (obtain ⟨e0, e1, e2, e3, e4⟩ := (bx.ext hx2).c5); (have bb2 := (bb.ext hxx).ext hx2))
                | (go_at_call 15; (refine (ledger.Grows_c _ _ _ _ _).mono ?_); rintro e w3 ⟨rfl, hx3⟩; (have hm3 := hm2.ext hx3); (have hy3 := hy2.tr hx3); (obtain ⟨e0, e1, e2, e3, e4⟩ := ((bx.ext hx2).ext hx3).c5); (have bb3 := bb2.ext hx3))
                | (at_mapUpdate; refine wpList_put_am _ rfl _ _ _ rfl _ (x.es.take j) r0 rfl hm3 rfl rfl hnj ht ?_; intro w4 hm4 ho4; (have hlen := fun ty => hm4.len ty); (obtain ⟨e0, e1, e2, e3, e4⟩ := (((bx.ext hx2).ext hx3).only ho4 (by omega)).c5); (have bb4 := bb3.only ho4 (by omega)))
                | go_in)
              refine ⟨⟨j + 1, by omega, by go_num, hy3.only ho4 (by omega), bb4, by rw [HT.out]; exact hm4, HG, Lib.hid (by rw [HT.out]; exact h8)⟩, by simp [intOf]; omega⟩
            · have HF := Lib.hid (CL.lval_dn (x := x) (by have := HD.out; rw [HT.out] at this; omega))
              go_wp2_with (first
                | (go_at_call 54; (with_reducible refine (ValidName_x _ _ hnj).mono ?_); rintro e w2 ⟨rfl, hx2⟩; (have hm2 := (hm.ext hxx).ext hx2); (have hlk := hm2.look _ hnj); (have hy2 := (hy.tr hxx).tr hx2); (obtain ⟨e0, e1, e2, e3, e4⟩ := (bx.ext hx2).c5); (have bb2 := (bb.ext hxx).ext hx2))
                | (go_at_call 15; (refine (ledger.Grows_c _ _ _ _ _).mono ?_); rintro e w3 ⟨rfl, hx3⟩; (have hm3 := hm2.ext hx3); (have hy3 := hy2.tr hx3); (obtain ⟨e0, e1, e2, e3, e4⟩ := ((bx.ext hx2).ext hx3).c5); (have bb3 := bb2.ext hx3))
                | (at_mapUpdate; refine wpList_put_am _ rfl _ _ _ rfl _ (x.es.take j) r0 rfl hm3 rfl rfl hnj ht ?_; intro w4 hm4 ho4; (have hlen := fun ty => hm4.len ty); (obtain ⟨e0, e1, e2, e3, e4⟩ := (((bx.ext hx2).ext hx3).only ho4 (by omega)).c5); (have bb4 := bb3.only ho4 (by omega)))
                | go_in)
              go_ret
              exact ⟨ret_bool HF.out.symm, hy3.only ho4 (by omega)⟩
        · have HF := Lib.hid (HB.out (fun h => of_decide_eq_false HBD.out h.2.1))
          go_wp2_with (first
            | (go_at_call 54; (with_reducible refine (ValidName_x _ _ hnj).mono ?_); rintro e w2 ⟨rfl, hx2⟩; (have hm2 := (hm.ext hxx).ext hx2); (have hlk := hm2.look _ hnj); (have hy2 := (hy.tr hxx).tr hx2); (obtain ⟨e0, e1, e2, e3, e4⟩ := (bx.ext hx2).c5); (have bb2 := (bb.ext hxx).ext hx2))
            | (go_at_call 15; (refine (ledger.Grows_c _ _ _ _ _).mono ?_); rintro e w3 ⟨rfl, hx3⟩; (have hm3 := hm2.ext hx3); (have hy3 := hy2.tr hx3); (obtain ⟨e0, e1, e2, e3, e4⟩ := ((bx.ext hx2).ext hx3).c5); (have bb3 := bb2.ext hx3))
            | (at_mapUpdate; refine wpList_put_am _ rfl _ _ _ rfl _ (x.es.take j) r0 rfl hm3 rfl rfl hnj ht ?_; intro w4 hm4 ho4; (have hlen := fun ty => hm4.len ty); (obtain ⟨e0, e1, e2, e3, e4⟩ := (((bx.ext hx2).ext hx3).only ho4 (by omega)).c5); (have bb4 := bb3.only ho4 (by omega)))
            | go_in)
          go_ret
          exact ⟨ret_bool HF.out.symm, hy2⟩
    · obtain rfl : j = x.es.length := by omega
      rw [List.take_length] at hm hd8
      obtain ⟨e0, e1⟩ := bb.c2
      have HP := Lib.hid (fun W (h : Ext w W) => ledger.validSaves_c x.ss x.es.length A' c' W (by unfold maxLen; omega) h4 (h2.ext h))
      have h8 := H8.out
      rw [List.take_length] at h8
      have HF := Lib.hid (CL.lval_svs (x := x) HJ.out h8)
      go_wp2_with (go_at_call 55; (with_reducible refine (HP.out _ hy).mono ?_); rintro e w2 ⟨rfl, hx2⟩)
      go_ret
      exact ⟨ret_bool HF.out.symm, hy.tr hx2⟩
end Go.Proofs.Ytaebindbadfaaaa
