
/- Ledger: the walk of the reference's Holdings. -/
import Derived.Test.YtaebindbadfaaaaLho
import Derived.Test.YtaebindbadfaaaaLna
namespace Go.Proofs.Ytaebindbadfaaaa
open Go.RowKit
set_option linter.unusedVariables false
set_option linter.unusedSimpArgs false
set_option maxHeartbeats 6400000 in
set_option maxRecDepth 100000 in
theorem clusterlocksref14.Holdings_c (x : CL.Lg) (v : Value) (w : World) (hv : LgV w v x) (hf : Fine x) :
    Calls Try.prog 38 #[v] w (HoldPost x.es w) := by
  obtain ⟨A, c, A', c', rfl, h1, h2, h3, h4⟩ := hv
  obtain ⟨k1, k2, k3⟩ := hf
  go_enter Try.func38, Try.ntmps38
  go_wp2_with fail
  obtain ⟨b1, hx0⟩ := box1 w #[.slice A x.es.length c, .slice A' x.ss.length c'] 31
  generalize (w.alloc (.cells #[.slice A x.es.length c, .slice A' x.ss.length c'] 31)) = W at *
  obtain ⟨e0, e1⟩ := b1.c2
  generalize x.es = q at *
  have NX := Lib.hid (fun W' (h : Ext w W') => clusterlocksref14.names_c q A c W' (by omega) (h1.ext h))
  have HX := Lib.hid (fun s W' (h : Ext w W') => clusterlocksref14.Held_c q s A c W' (by unfold maxLen; omega) (h1.ext h))
  go_wp2_with (first
    | (go_at_call 51; (with_reducible refine (NX.out _ hx0).mono ?_); rintro r w2 ⟨Bn, cn, rfl, hS2, hcn, hx2⟩; (have b2 := b1.ext hx2); (replace hx2 := hx0.tr hx2))
    | go_in)
  have hnl : (CL.snm q).length ≤ 100 := by have h1 := CL.snm_len q; have h2 := CL.dn_le q; omega
  have HSN := Lib.hid (CL.snm_perm q)
  have hnl2 : (CL.snm q).length = (CL.snm q).length := rfl
  have HDEF := Lib.hid (show CL.hold q = hfs q (CL.snm q) by rw [CL.hold, CL.says, hfs, List.filter_map]; rfl)
  generalize CL.snm q = L at *
  go_loopw [3, 5] (fun out i wr => ∃ (j : Nat) (B : Option Addr) (n cb : Nat), j ≤ L.length ∧ i = .int .i64 j ∧ out = .slice B n cb ∧ Hid (n = (hfs q (L.take j)).length) ∧ Hid (wr.ownsRow (w2.heap.size) 56 3 (.slice B n cb) n (ats (hfs q (L.take j)))) ∧ Ext w2 wr) (fun _ i _ => L.length - (intOf i).toNat)
  case atStart => exact ⟨0, none, 0, 0, by omega, rfl, rfl, Lib.hid rfl, Lib.hid (nil_own _ _ _ _), Ext.rfl'⟩
  case round =>
    obtain ⟨j, B, n, cb, hj, rfl, rfl, HN, HO, hxr⟩ := hrel
    obtain ⟨a0, a1⟩ := (b2.ext hxr).c2
    have hwx := hx2.tr hxr
    have hn1 : n ≤ 100 := by have h1 := HN.out; have h2 := hfs_len q (L.take j); rw [List.length_take] at h2; omega
    by_cases hlt : j < L.length
    · obtain ⟨bn, on, rfl, d0⟩ := (hS2.ext hxr).strs hlt
      have HFS := Lib.hid ((congrArg (hfs q) (CL.take_snoc hlt)).trans (hfs_snoc q (L.take j) (L[j]'hlt)))
      generalize L[j] = s' at *
      go_wp2_with fail
      go_region_held3 (fun w' => w'.cell? ⟨w.heap.size, 0, none⟩ = some (.slice A q.length c) ∧ w'.cell? ⟨bn, on + j, none⟩ = some (.string ⟨s'.toArray⟩))
        (first | go_keep | exact ⟨E1.cell a0, E1.cell d0⟩ | exact ⟨(E1.tr (Ext.new _ _)).cell a0, (E1.tr (Ext.new _ _)).cell d0⟩ | exact ⟨Ext.cell ((E1.setCell (p := ⟨wr.heap.size, 0, none⟩) (Nat.le_refl _) _).setCell (p := ⟨wr.heap.size, 1, none⟩) (Nat.le_refl _) _) a0, Ext.cell ((E1.setCell (p := ⟨wr.heap.size, 0, none⟩) (Nat.le_refl _) _).setCell (p := ⟨wr.heap.size, 1, none⟩) (Nat.le_refl _) _) d0⟩)
        (first
          | (go_at_call 35; (refine (HX.out _ _ ((hwx.tr (Ext.drawn _)).tr (Ext.new _ _))).mono ?_); rintro r w4 ⟨rfl, hx4⟩; (have bP := (Blk.new _ 23 #[.int .i64 0, .int .i64 0]).ext hx4); (have E1 := ((Ext.drawn _).tr (Ext.new _ _)).tr hx4); (have z0 : w4.cell? ⟨wr.heap.size, 0, none⟩ = some (.int .i64 0) := bP.c2.1); (have z1 : w4.cell? ⟨wr.heap.size, 1, none⟩ = some (.int .i64 0) := bP.c2.2); (have m0 : w4.frozen? ⟨wr.heap.size, 0, none⟩ = false := bP.frozen 0); (have m1 : w4.frozen? ⟨wr.heap.size, 1, none⟩ = false := bP.frozen 1))
          | (go_at_call 35; (refine (HX.out _ _ (hwx.tr (Ext.drawn _))).mono ?_); rintro r w4 ⟨rfl, hx4⟩; (have E1 := (Ext.drawn _).tr hx4)))
      · have bP := Blk.new w4 23 #[.int .i64 (CL.held q s').m, .int .i64 (CL.held q s').u]
        replace E1 := E1.tr (Ext.new w4 (.cells #[.int .i64 (CL.held q s').m, .int .i64 (CL.held q s').u] 23))
        generalize (w4.alloc (.cells #[.int .i64 (CL.held q s').m, .int .i64 (CL.held q s').u] 23)) = w5 at *
        obtain ⟨p0, p1⟩ := bP.c2
        have HO5 := Lib.hid (own_ext HO.out E1)
        have d1 := E1.cell d0
        have hx5 := hxr.tr E1
        have hne0 := am_ne0 (CL.held q s').m (CL.held q s').u
        have h25 := hx5.size
        clear hx4 HX NX d0 a0 a1
        cases hz : CL.zer (CL.held q s')
        · have hz' : CL.zer ⟨(CL.held q s').m, (CL.held q s').u⟩ = false := hz
          rw [hz'] at hne0
          have HZ := Lib.hid hz
          clear hz hz'
          go_wp2_with fail
          have q0 : w5.drew.cell? ⟨w4.heap.size, 0, none⟩ = _ := p0
          have q1 : w5.drew.cell? ⟨w4.heap.size, 1, none⟩ = _ := p1
          have d2 : w5.drew.cell? ⟨bn, on + j, none⟩ = _ := d1
          go_region_law
            (first
              | (refine step_append_sits _ (by rfl) (.tmp 26) (.tmp 33) _ (by rfl) w2.heap.size 56 3 32 _ Try.underlying41 at_info rfl (by omega) _ _ _ (by rfl) (by first | exact HO5.out.alloc _ | exact (HO5.out.alloc _).drew | exact HO5.out.drew.alloc _) _ _ _ [.string ⟨s'.toArray⟩, .int .i64 (CL.held q s').m, .int .i64 (CL.held q s').u] (by rfl) (by rfl) (by first | exact Sits.new _ _ _ | exact (Sits.new _ _ _).drew) (atc_one ⟨s', CL.held q s'⟩) (by unfold maxLen; omega) (by omega) (by simp; omega) ?_; intro v9 w9 ho9 hb9 hg9; (have hgw : w5.grownBy w9 (Value.slice B n cb).ownBlock := grown_tr (grown_ext (by first | exact Ext.new _ _ | exact (Ext.new _ _).tr (Ext.drawn _) | exact (Ext.drawn _).tr (Ext.new _ _))) hg9 (.inl rfl)); (have hx9 : Ext w2 w9 := hx5.trans (grown_below hgw h25 (fun g hg => by have := (HO5.out.lt g hg).1; omega))); (obtain ⟨B9, cb9, rfl, hc9, _⟩ := own_form ho9)))
          all_goals
            go_wp2_with fail
            refine ⟨⟨j + 1, B9, n + 1, cb9, by omega, by go_num, rfl, Lib.hid ?_, Lib.hid ?_, hx9⟩, by simp [intOf]; omega⟩
            · rw [HFS.out, if_neg (by rw [HZ.out]; decide), List.length_append, ← HN.out]; rfl
            · rw [HFS.out, if_neg (by rw [HZ.out]; decide), ats_append]
              exact ho9
        · have hz' : CL.zer ⟨(CL.held q s').m, (CL.held q s').u⟩ = true := hz
          rw [hz'] at hne0
          have HZ := Lib.hid hz
          clear hz hz'
          go_wp2_with fail
          refine ⟨⟨j + 1, B, n, cb, by omega, by go_num, rfl, Lib.hid ?_, Lib.hid ?_, hx5⟩, by simp [intOf]; omega⟩
          · rw [HFS.out, if_pos HZ.out]; exact HN.out
          · rw [HFS.out, if_pos HZ.out]; exact HO5.out
      · replace bP := bP.set2 (.int .i64 (CL.held q s').m) (.int .i64 (CL.held q s').u)
        replace E1 : Ext wr _ := (E1.setCell (p := ⟨wr.heap.size, 0, none⟩) (Nat.le_refl _) (.int .i64 (CL.held q s').m)).setCell (p := ⟨wr.heap.size, 1, none⟩) (Nat.le_refl _) (.int .i64 (CL.held q s').u)
        change Blk ((w4.setCell ⟨wr.heap.size, 0, none⟩ (.int .i64 (CL.held q s').m)).setCell ⟨wr.heap.size, 1, none⟩ (.int .i64 (CL.held q s').u)) wr.heap.size _ _ at bP
        generalize ((w4.setCell ⟨wr.heap.size, 0, none⟩ (.int .i64 (CL.held q s').m)).setCell ⟨wr.heap.size, 1, none⟩ (.int .i64 (CL.held q s').u)) = w5 at *
        obtain ⟨p0, p1⟩ := bP.c2
        have HO5 := Lib.hid (own_ext HO.out E1)
        have d1 := E1.cell d0
        have hx5 := hxr.tr E1
        have hne0 := am_ne0 (CL.held q s').m (CL.held q s').u
        have h25 := hx5.size
        clear hx4 HX NX d0 a0 a1
        cases hz : CL.zer (CL.held q s')
        · have hz' : CL.zer ⟨(CL.held q s').m, (CL.held q s').u⟩ = false := hz
          rw [hz'] at hne0
          have HZ := Lib.hid hz
          clear hz hz'
          go_wp2_with fail
          have q0 : w5.drew.cell? ⟨wr.heap.size, 0, none⟩ = _ := p0
          have q1 : w5.drew.cell? ⟨wr.heap.size, 1, none⟩ = _ := p1
          have d2 : w5.drew.cell? ⟨bn, on + j, none⟩ = _ := d1
          go_region_law
            (first
              | (refine step_append_sits _ (by rfl) (.tmp 26) (.tmp 33) _ (by rfl) w2.heap.size 56 3 32 _ Try.underlying41 at_info rfl (by omega) _ _ _ (by rfl) (by first | exact HO5.out.alloc _ | exact (HO5.out.alloc _).drew | exact HO5.out.drew.alloc _) _ _ _ [.string ⟨s'.toArray⟩, .int .i64 (CL.held q s').m, .int .i64 (CL.held q s').u] (by rfl) (by rfl) (by first | exact Sits.new _ _ _ | exact (Sits.new _ _ _).drew) (atc_one ⟨s', CL.held q s'⟩) (by unfold maxLen; omega) (by omega) (by simp; omega) ?_; intro v9 w9 ho9 hb9 hg9; (have hgw : w5.grownBy w9 (Value.slice B n cb).ownBlock := grown_tr (grown_ext (by first | exact Ext.new _ _ | exact (Ext.new _ _).tr (Ext.drawn _) | exact (Ext.drawn _).tr (Ext.new _ _))) hg9 (.inl rfl)); (have hx9 : Ext w2 w9 := hx5.trans (grown_below hgw h25 (fun g hg => by have := (HO5.out.lt g hg).1; omega))); (obtain ⟨B9, cb9, rfl, hc9, _⟩ := own_form ho9)))
          all_goals
            go_wp2_with fail
            refine ⟨⟨j + 1, B9, n + 1, cb9, by omega, by go_num, rfl, Lib.hid ?_, Lib.hid ?_, hx9⟩, by simp [intOf]; omega⟩
            · rw [HFS.out, if_neg (by rw [HZ.out]; decide), List.length_append, ← HN.out]; rfl
            · rw [HFS.out, if_neg (by rw [HZ.out]; decide), ats_append]
              exact ho9
        · have hz' : CL.zer ⟨(CL.held q s').m, (CL.held q s').u⟩ = true := hz
          rw [hz'] at hne0
          have HZ := Lib.hid hz
          clear hz hz'
          go_wp2_with fail
          refine ⟨⟨j + 1, B, n, cb, by omega, by go_num, rfl, Lib.hid ?_, Lib.hid ?_, hx5⟩, by simp [intOf]; omega⟩
          · rw [HFS.out, if_pos HZ.out]; exact HN.out
          · rw [HFS.out, if_pos HZ.out]; exact HO5.out
    · obtain rfl : j = L.length := by omega
      go_wp2_with fail
      go_ret
      have HN' := HN.out
      have HO' := HO.out
      rw [List.take_length] at HN' HO'
      obtain ⟨_, cb', hB, hcb, _⟩ := own_form HO'
      injection hB with _ _ hB
      subst hB
      unfold HoldPost
      rw [HDEF.out]
      exact ⟨B, cb, by rw [← HN']; rfl, Sits.of_own HO', by rw [← HN']; exact hcb, hwx⟩
end Go.Proofs.Ytaebindbadfaaaa
