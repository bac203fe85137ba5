
/- Ledger: the walks of the reference's Undo and Count (by Rl). -/
import Derived.Test.YtaebindbadfaaaaLrs
import Derived.Test.YtaebindbadfaaaaLu
namespace Go.Proofs.Ytaebindbadfaaaa
open Go.RowKit
set_option linter.unusedVariables false
set_option linter.unusedSimpArgs false
theorem slice_to (t e : TypeId) (i : TypeInfo) (ht : Try.prog.underlying t = some (.slice e)) (hi : Try.prog.info? e = some i) (A : Option Addr) (len cap k : Nat) (hk : k ≤ cap) (w : World) :
    (Instr.slice t (.slice A len cap) none (some (.int .i64 (k : Int))) none).run Try.prog w = .ok (.slice A k cap) w := by
  have h1 : (k : Int) ≤ (cap : Int) := by omega
  cases A <;> simp [Instr.slice, run_underlying ht, Instr.sliceBounds, go_sem, h1, sizeOf, typeInfo, hi]
theorem names_l (l : List CL.En) (A : Option Addr) (n c : Nat) (w : World) (hn : n = l.length) (hl : l.length ≤ 1000) (hr : Sits w A (ens l)) :
    Calls Try.prog 51 #[.slice A n c] w (NamesPost l w) := by
  subst hn; exact clusterlocksref14.names_c l A c w hl hr
theorem Held_l (l : List CL.En) (s : List UInt8) (A : Option Addr) (n c : Nat) (w : World) (hn : n = l.length) (hl : l.length ≤ maxLen) (hr : Sits w A (ens l)) :
    Calls Try.prog 35 #[.slice A n c, .string ⟨s.toArray⟩] w fun r w' => r = .returned (.agg #[.int .i64 (CL.held l s).m, .int .i64 (CL.held l s).u]) ∧ Ext w w' := by
  subst hn; exact clusterlocksref14.Held_c l s A c w hl hr
theorem sits_ens_take {w : World} {A : Option Addr} {l : List CL.En} (h : Sits w A (ens l)) (a : Nat) : Sits w A (ens (l.take a)) := by
  rw [← List.take_append_drop a l, ens_append] at h; exact h.pre
theorem sits_svl_take {w : World} {A : Option Addr} {l : List CL.Sv} (h : Sits w A (svl l)) (a : Nat) : Sits w A (svl (l.take a)) := by
  rw [← List.take_append_drop a l, svl_append] at h; exact h.pre
set_option maxHeartbeats 6400000 in
set_option maxRecDepth 100000 in
theorem clusterlocksref14.Undo_c (x : CL.Lg) (lb : Int) (v : Value) (w : World) (hv : LgV w v x) (hf : Fine x) :
    Calls Try.prog 24 #[v, .int .i64 lb] w (UndoPost (CL.und x lb) w) := by
  have hf' := hf
  obtain ⟨A, c, A', c', rfl, h1, h2, h3, h4⟩ := hv
  obtain ⟨k1, k2, k3⟩ := hf
  go_enter Try.func24, Try.ntmps24
  go_wp2_with fail
  obtain ⟨b1, b3, hx0⟩ := two_rows w #[.slice A x.es.length c, .slice A' x.ss.length c'] 31 #[.slice none 0 0, .slice none 0 0] 31
  have hz := hx0.size
  have b3l := b3.lt
  generalize ((w.alloc (.cells #[.slice A x.es.length c, .slice A' x.ss.length c'] 31)).alloc (.cells #[.slice none 0 0, .slice none 0 0] 31)) = W at *
  obtain ⟨e0, e1⟩ := b1.c2
  have VX := Lib.hid (fun W' (h : Ext w W') => RValidK_l x A x.es.length c A' x.ss.length c' W' rfl rfl (h1.ext h) (h2.ext h) h3 h4 hf')
  have PX := Lib.hid (fun W' (h : Ext w W') => clusterlocksref14.find_c x.ss lb A' c' W' (by unfold maxLen; omega) (h2.ext h))
  cases hval : CL.lval x
  · have HF := Lib.hid (show CL.und x lb = (CL.noLg, [], 2) by simp [CL.und, hval])
    go_wp2_with (go_at_call 33; (with_reducible refine (VX.out _ hx0).mono ?_); rintro r w2 ⟨rfl, hx2⟩; (have bb3 := b3.ext hx2); (have bb1 := b1.ext hx2); (obtain ⟨a0, a1⟩ := bb1.c2); (obtain ⟨g0, g1⟩ := bb3.c2); (have n0 := bb3.frozen 0); (have n1 := bb3.frozen 1); (have hxp := hx0.tr hx2))
    obtain ⟨d0, d1⟩ := (bb3.set2 (.slice none 0 0) (.slice none 0 0)).c2
    refine bodyPost_ret (v := .tuple #[.agg #[.slice none 0 0, .slice none 0 0], .slice none 0 0, .int .i64 2]) (by simp [results, Try.results24, go_sem, d0, d1]) rfl ?_
    unfold UndoPost
    rw [HF.out]
    exact ⟨_, none, 0, rfl, LgV.zero _, Sits.nil, Nat.le_refl _, ((hxp.setCell (p := ⟨w.heap.size + 1, 0, none⟩) (by simp only; omega) _).setCell (p := ⟨w.heap.size + 1, 1, none⟩) (by simp only; omega) _)⟩
  · by_cases hlb : lb = 0
    · subst hlb
      obtain ⟨a, haz⟩ : ∃ a : Nat, a = 0 := ⟨0, rfl⟩
      obtain ⟨s, hsz⟩ : ∃ s : Nat, s = 0 := ⟨0, rfl⟩
      have ha : a ≤ x.es.length := by omega
      have hs : s ≤ x.ss.length := by omega
      have az : ((a : Nat) : Int) = 0 := by omega
      have sz : ((s : Nat) : Int) = 0 := by omega
      have HF := Lib.hid (show CL.und x 0 = (CL.cutL x a s, CL.says (x.es.take a) (x.es.drop a), 0) by simp [CL.und, CL.back, hval, haz, hsz])
      have hce : (CL.cutL x a s).es = x.es.take a := rfl
      have hcs : (CL.cutL x a s).ss = x.ss.take s := rfl
      have hpl : (x.es.take a).length = a := by simp; omega
      have hsl : (x.ss.take s).length = s := by simp; omega
      have hql : (x.es.drop a).length = x.es.length - a := by simp
      obtain ⟨A8, c8, hlo, hlS⟩ := low_en x.es A c a ha h3
      have NX := Lib.hid (fun W' (h : Ext w W') => names_l (x.es.drop a) A8 (x.es.length - a) c8 W' hql.symm (by omega) (hlS _ (h1.ext h)))
      have HX := Lib.hid (fun s A1 c1 W' h => Held_l (x.es.take a) s A1 a c1 W' hpl.symm (by unfold maxLen; omega) h)
      have h1p := sits_ens_take h1 a
      have h2p := sits_svl_take h2 s
      obtain ⟨ie, hie, _⟩ := en_inf
      have HSE := fun W => slice_to 28 33 ie Try.underlying28 hie A x.es.length c a (by omega) W
      have HSS := fun W => slice_to 29 69 _ Try.underlying29 rfl (A') x.ss.length c' s (by omega) W
      simp only [az] at HSE hlo
      simp only [sz] at HSS
      replace HSE := Lib.hid HSE
      replace HSS := Lib.hid HSS
      clear haz hsz az sz
      generalize hq : x.es.drop a = q at *
      generalize hp : x.es.take a = p at *
      generalize hsv : x.ss.take s = sv at *
      have HQ := Lib.hid hq
      have HP := Lib.hid hp
      have HSV := Lib.hid hsv
      clear hq hp hsv
      go_wp2_with (first
        | (go_at_call 33; (with_reducible refine (VX.out _ hx0).mono ?_); rintro r w2 ⟨rfl, hx2⟩; (have bb3 := b3.ext hx2); (have bb1 := b1.ext hx2); (obtain ⟨a0, a1⟩ := bb1.c2); (obtain ⟨g0, g1⟩ := bb3.c2); (have n0 := bb3.frozen 0); (have n1 := bb3.frozen 1); (have hxp := hx0.tr hx2)))
      refine Rl.wp_region_rel (fun _ => False) (fun _ h => h.elim) (by kernel_rfl) (by kernel_rfl) (by kernel_rfl) ?_
      have hA : ∀ wr, Rl.Chg (fun _ => False) w2 wr → Ext w2 wr := fun wr h => h.ext (fun _ h => h)
      have sE := h1p.ext hxp
      have sS := h2p.ext hxp
      refine Rl.RelW.own w2.heap.size 33 5 0 [] [] [] rfl rfl (by simp) ?_ ?_
      · intro xs Ss wr hC hH
        simp [Rl.outAt, Rl.outR, go_sem]
        exact Rl.empty_out _ _ _ _ hC.size
      (conv => arg 8; simp only [List.nil_append, List.cons_append]); (conv => arg 9; intro xs; simp [Act.put]); refine Rl.RelW.quiet (fun _ => .pointer (some ⟨w.heap.size, 0, none⟩)) [] [] rfl rfl (fun _ _ _ => rfl) (by simp) (by simp) (by intro xs Ss wr hC hH; have hxr := hA _ hC; simp [Rl.outAt, Rl.outR, go_sem, True]) ?_
      (conv => arg 8; simp only [List.nil_append, List.cons_append]); (conv => arg 9; intro xs; simp [Act.put]); refine Rl.RelW.quiet (fun _ => .slice A x.es.length c) [] [] rfl rfl (fun _ _ _ => rfl) (by simp) (by simp) (by intro xs Ss wr hC hH; have hxr := hA _ hC; simp [Rl.outAt, Rl.outR, go_sem, hxr.cell a0]) ?_
      (conv => arg 8; simp only [List.nil_append, List.cons_append]); (conv => arg 9; intro xs; simp [Act.put]); refine Rl.RelW.quiet (fun _ => .int .i64 0) [] [] rfl rfl (fun _ _ _ => rfl) (by simp) (by simp) (by intro xs Ss wr hC hH; have hxr := hA _ hC; simp [Rl.outAt, Rl.outR, go_sem, True]) ?_
      (conv => arg 8; simp only [List.nil_append, List.cons_append]); (conv => arg 9; intro xs; simp [Act.put]); refine Rl.RelW.quiet (fun _ => .slice A a c) [] [] rfl rfl (fun _ _ _ => rfl) (by simp) (by simp) (by intro xs Ss wr hC hH; have hxr := hA _ hC; simp [Rl.outAt, Rl.outR, go_sem, HSE.out]) ?_
      (conv => arg 8; simp only [List.nil_append, List.cons_append]); (conv => arg 9; intro xs; simp [Act.put])
      refine Rl.RelW.append 0 [] w2.heap.size 33 5 0 a [] (ens p) 48 _ 28 (.tmp 35) (.tmp 39) rfl rfl (by simp) rfl Try.underlying28 en_info rfl (by omega) _ _ rfl (by omega) (Nat.le_refl _) (fun xs => by simp [go_sem]) (by rw [ens_len, hpl]) (ens_one _) (by unfold maxLen; omega) (by omega) (fun xs Ss wr hC hH => ⟨A, c, by simp [go_sem], sE.ext (hA _ hC)⟩) ?_
      (conv => arg 8; simp only [List.nil_append, List.cons_append]); (conv => arg 9; intro xs; simp [Act.put])
      refine Rl.RelW.own w2.heap.size 69 2 0 [] [] [] rfl rfl (by simp) ?_ ?_
      · intro xs Ss wr hC hH
        simp [Rl.outAt, Rl.outR, go_sem]
        exact Rl.empty_out _ _ _ _ hC.size
      (conv => arg 8; simp only [List.nil_append, List.cons_append]); (conv => arg 9; intro xs; simp [Act.put]); refine Rl.RelW.quiet (fun _ => .pointer (some ⟨w.heap.size, 1, none⟩)) [] [] rfl rfl (fun _ _ _ => rfl) (by simp) (by simp) (by intro xs Ss wr hC hH; have hxr := hA _ hC; simp [Rl.outAt, Rl.outR, go_sem, True]) ?_
      (conv => arg 8; simp only [List.nil_append, List.cons_append]); (conv => arg 9; intro xs; simp [Act.put]); refine Rl.RelW.quiet (fun _ => .slice A' x.ss.length c') [] [] rfl rfl (fun _ _ _ => rfl) (by simp) (by simp) (by intro xs Ss wr hC hH; have hxr := hA _ hC; simp [Rl.outAt, Rl.outR, go_sem, hxr.cell a1]) ?_
      (conv => arg 8; simp only [List.nil_append, List.cons_append]); (conv => arg 9; intro xs; simp [Act.put]); refine Rl.RelW.quiet (fun _ => .int .i64 (0)) [] [] rfl rfl (fun _ _ _ => rfl) (by simp) (by simp) (by intro xs Ss wr hC hH; have hxr := hA _ hC; simp [Rl.outAt, Rl.outR, go_sem, True]) ?_
      (conv => arg 8; simp only [List.nil_append, List.cons_append]); (conv => arg 9; intro xs; simp [Act.put]); refine Rl.RelW.quiet (fun _ => .slice A' s c') [] [] rfl rfl (fun _ _ _ => rfl) (by simp) (by simp) (by intro xs Ss wr hC hH; have hxr := hA _ hC; simp [Rl.outAt, Rl.outR, go_sem, HSS.out]) ?_
      (conv => arg 8; simp only [List.nil_append, List.cons_append]); (conv => arg 9; intro xs; simp [Act.put])
      refine Rl.RelW.append 6 [] w2.heap.size 69 2 0 s [] (svl sv) 16 _ 29 (.tmp 41) (.tmp 45) rfl rfl (by simp) rfl Try.underlying29 svr_info rfl (by omega) _ _ rfl (by omega) (Nat.le_refl _) (fun xs => by simp [go_sem]) (by rw [svl_len, hsl]) (svl_one _) (by unfold maxLen; omega) (by omega) (fun xs Ss wr hC hH => ⟨A', c', by simp [go_sem], sS.ext (hA _ hC)⟩) ?_
      (conv => arg 8; simp only [List.nil_append, List.cons_append]); (conv => arg 9; intro xs; simp [Act.put])
      refine Rl.RelW.quiet (fun xs => .agg #[xs 5, xs 11]) [5, 11] [5, 11] rfl rfl (fun xs ys h => by rw [h 5 (by simp), h 11 (by simp)]) (by simp) (by simp) ?_ ?_
      · intro xs Ss wr hC hH
        obtain ⟨⟨ho6, _⟩, _⟩ := hH.get (i := 5) (by simp) rfl
        obtain ⟨⟨ho10, _⟩, _⟩ := hH.get (i := 11) (by simp) rfl
        obtain ⟨A1, c1, e6, _⟩ := own_form ho6
        obtain ⟨A2, c2, e10, _⟩ := own_form ho10
        simp [Rl.outAt, Rl.outR, go_sem, e6, e10]
      (conv => arg 8; simp only [List.nil_append, List.cons_append]); (conv => arg 9; intro xs; simp [Act.put])
      refine Rl.RelW.box (fun g => .pointer (some ⟨g, 0, none⟩)) 31 (fun _ => #[.slice none 0 0, .slice none 0 0]) [] [] rfl rfl (by simp) (by simp) (fun _ _ _ => rfl) ?_ ?_
      · intro xs Ss wr hC hH
        simp [Rl.outAt, Rl.outR, go_sem]
      (conv => arg 8; simp only [List.nil_append, List.cons_append]); (conv => arg 9; intro xs; simp [Act.put])
      refine Rl.RelW.step ⟨fun _ => undef, fun xs S w => ∃ g, xs 13 = .pointer (some ⟨g, 0, none⟩) ∧ Blk w g 31 #[xs 5, xs 11] ∧ S g, [13, 5, 11], [5, 11], [13], false⟩ rfl rfl ?_ ?_ (by simp) ?_ ?_
      · intro xs ys h
        refine ⟨rfl, fun S w hG => ?_⟩
        simp only at hG ⊢
        rw [← h 13 (by simp), ← h 5 (by simp), ← h 11 (by simp)]; exact hG
      · intro xs S w w' _ hG hS hk
        obtain ⟨g, hg1, hg2, hg3⟩ := hG
        exact ⟨g, hg1, Rl.blk_kp hg2 hg3 hk, hg3⟩
      · intro xs Ss wr hC hH
        obtain ⟨⟨g, hg, hb, hSg⟩, hlo⟩ := hH.get (i := 13) (by simp) rfl
        obtain ⟨⟨ho6, _⟩, _⟩ := hH.get (i := 5) (by simp) rfl
        obtain ⟨⟨ho10, _⟩, _⟩ := hH.get (i := 11) (by simp) rfl
        obtain ⟨A1, c1, e6, _⟩ := own_form ho6
        obtain ⟨A2, c2, e10, _⟩ := own_form ho10
        have f0 := hb.frozen 0
        have f1 := hb.frozen 1
        obtain ⟨q0, q1⟩ := hb.c2
        simp [Rl.outAt, Rl.outR, go_sem, hg, e6, e10, f0, f1, q0, q1]
        refine ⟨fun i => i = g, ⟨g, hg, ?_, rfl⟩, Rl.Chg.of_grown (Only.rf.set2 _ _) (fun i hi => by cases hi; exact hSg), fun i hi => .inl (by rw [hi]; exact hSg)⟩
        have h := hb.set2 (.slice A1 a c1) (.slice A2 s c2)
        rw [show Rl.upd xs 14 undef 5 = _ from e6, show Rl.upd xs 14 undef 11 = _ from e10, Nat.zero_add, Nat.zero_add]
        exact h
      (conv => arg 8; simp only [List.nil_append, List.cons_append]); (conv => arg 9; intro xs; simp [Act.put])
      refine ⟨by kernel_rfl, ?_⟩
      intro xs Ss wr hC hF hD
      obtain ⟨⟨ho6, hs6⟩, hb6⟩ := hF 5 (by decide) (by kernel_rfl)
      obtain ⟨⟨ho10, hs10⟩, hb10⟩ := hF 11 (by decide) (by kernel_rfl)
      obtain ⟨⟨g, hg, bO, hSg⟩, hb13⟩ := hF 14 (by decide) (by kernel_rfl)
      clear hF hD
      have hz2 := hb13 g hSg
      have hA2 := hA wr hC
      clear hb6 hb10 hb13 hs6 hs10 hA
      simp only [Nat.reduceAdd, Nat.zero_add, List.nil_append] at ho6 ho10 bO hg
      obtain ⟨A1, c1, e6, hc1, _⟩ := own_form ho6
      obtain ⟨A2, c2, e10, hc2, _⟩ := own_form ho10
      rw [e6] at ho6 bO
      rw [e10] at ho10 bO
      replace bb3 := bb3.ext hA2
      replace bb1 := bb1.ext hA2
      replace hxp := hxp.tr hA2
      obtain ⟨a0, a1⟩ := bb1.c2
      clear g0 g1 n0 n1 VX PX sE sS HSE HSS
      dsimp only
      rw [e6, e10, hg]
      clear e6 e10 hg hC
      go_wp2_with (first
        | (go_at_call 51; (with_reducible refine (NX.out _ hxp).mono ?_); rintro r w6 ⟨Bn, cn, rfl, hS2, hcn, hx6⟩; (replace bO := bO.ext hx6); (replace bb3 := bb3.ext hx6); (replace ho6 := own_ext ho6 hx6); (replace ho10 := own_ext ho10 hx6); (replace hxp := hxp.tr hx6))
        | go_in)
      have hnl : (CL.snm q).length ≤ 100 := by have h1 := CL.snm_len q; have h2 := CL.dn_le q; omega
      have HDEF := Lib.hid (show CL.says p q = (CL.snm q).map (fun s => ⟨s, CL.held p s⟩) from rfl)
      generalize CL.snm q = L at *
      go_loopw [11, 13] (fun out i wr => ∃ (j : Nat) (B : Option Addr) (cb : Nat), j ≤ L.length ∧ i = .int .i64 j ∧ out = .slice B j cb ∧ Hid (wr.ownsRow w6.heap.size 56 3 (.slice B j cb) j (ats ((L.take j).map fun s => ⟨s, CL.held p s⟩))) ∧ Ext w6 wr) (fun _ i _ => L.length - (intOf i).toNat)
      case atStart => exact ⟨0, none, 0, by omega, rfl, rfl, Lib.hid (nil_own _ _ _ _), Ext.rfl'⟩
      case round =>
        obtain ⟨j, B, cb, hj, rfl, rfl, HO, hxr⟩ := hrel
        by_cases hlt : j < L.length
        · obtain ⟨bn, on, rfl, d6⟩ := hS2.strs hlt
          have HTS := Lib.hid (congrArg (List.map fun s => (⟨s, CL.held p s⟩ : CL.At)) (CL.take_snoc hlt))
          generalize L[j] = s' at *
          have o6 := bO.c2.1
          have S1 := Sits.of_own ho6
          have hz6 := hxr.size
          have hzp := hxp.size
          have hlti : (j : Int) < (L.length : Int) := by omega
          go_wp2_with fail
          have hI : ∀ g, (Value.slice B j cb).ownBlock = some g → w6.heap.size ≤ g ∧ g < wr.heap.size := fun g hg => HO.out.lt g hg
          refine Rl.wp_region_rel (fun g => (Value.slice B j cb).ownBlock = some g) (fun g h => (hI g h).2) (by kernel_rfl) (by kernel_rfl) (by kernel_rfl) ?_
          have hA : ∀ wq, Rl.Chg (fun g => (Value.slice B j cb).ownBlock = some g) wr wq → Ext w6 wq := fun wq h => Rl.Chg.tr_ext hxr h (fun g hg => (hI g hg).1)
          (conv => arg 8; simp only [List.nil_append, List.cons_append]); (conv => arg 9; intro xs; simp [Act.put]); refine Rl.RelW.quiet (fun _ => .slice B j cb) [] [] rfl rfl (fun _ _ _ => rfl) (by simp) (by simp) (by intro xs Ss wr hC hH; have hxr := hA _ hC; simp [Rl.outAt, Rl.outR, go_sem, True]) ?_
          (conv => arg 8; simp only [List.nil_append, List.cons_append]); (conv => arg 9; intro xs; simp [Act.put]); refine Rl.RelW.quiet (fun _ => .slice (some ⟨bn, on, none⟩) L.length cn) [] [] rfl rfl (fun _ _ _ => rfl) (by simp) (by simp) (by intro xs Ss wr hC hH; have hxr := hA _ hC; simp [Rl.outAt, Rl.outR, go_sem, True]) ?_
          (conv => arg 8; simp only [List.nil_append, List.cons_append]); (conv => arg 9; intro xs; simp [Act.put]); refine Rl.RelW.quiet (fun _ => .int .i64 j) [] [] rfl rfl (fun _ _ _ => rfl) (by simp) (by simp) (by intro xs Ss wr hC hH; have hxr := hA _ hC; simp [Rl.outAt, Rl.outR, go_sem, True]) ?_
          (conv => arg 8; simp only [List.nil_append, List.cons_append]); (conv => arg 9; intro xs; simp [Act.put]); refine Rl.RelW.quiet (fun _ => .pointer (some ⟨bn, on + j, none⟩)) [] [] rfl rfl (fun _ _ _ => rfl) (by simp) (by simp) (by intro xs Ss wr hC hH; have hxr := hA _ hC; simp [Rl.outAt, Rl.outR, go_sem, hlti]) ?_
          (conv => arg 8; simp only [List.nil_append, List.cons_append]); (conv => arg 9; intro xs; simp [Act.put]); refine Rl.RelW.quiet (fun _ => .string ⟨s'.toArray⟩) [] [] rfl rfl (fun _ _ _ => rfl) (by simp) (by simp) (by intro xs Ss wr hC hH; have hxr := hA _ hC; simp [Rl.outAt, Rl.outR, go_sem, hxr.cell d6]) ?_
          (conv => arg 8; simp only [List.nil_append, List.cons_append]); (conv => arg 9; intro xs; simp [Act.put]); refine Rl.RelW.quiet (fun _ => .pointer (some ⟨g, 0, none⟩)) [] [] rfl rfl (fun _ _ _ => rfl) (by simp) (by simp) (by intro xs Ss wr hC hH; have hxr := hA _ hC; simp [Rl.outAt, Rl.outR, go_sem, True]) ?_
          (conv => arg 8; simp only [List.nil_append, List.cons_append]); (conv => arg 9; intro xs; simp [Act.put]); refine Rl.RelW.quiet (fun _ => .slice A1 a c1) [] [] rfl rfl (fun _ _ _ => rfl) (by simp) (by simp) (by intro xs Ss wr hC hH; have hxr := hA _ hC; simp [Rl.outAt, Rl.outR, go_sem, hxr.cell o6]) ?_
          (conv => arg 8; simp only [List.nil_append, List.cons_append]); (conv => arg 9; intro xs; simp [Act.put]); refine Rl.RelW.quiet (fun _ => .slice (some ⟨bn, on, none⟩) L.length cn) [] [] rfl rfl (fun _ _ _ => rfl) (by simp) (by simp) (by intro xs Ss wr hC hH; have hxr := hA _ hC; simp [Rl.outAt, Rl.outR, go_sem, True]) ?_
          (conv => arg 8; simp only [List.nil_append, List.cons_append]); (conv => arg 9; intro xs; simp [Act.put]); refine Rl.RelW.quiet (fun _ => .int .i64 j) [] [] rfl rfl (fun _ _ _ => rfl) (by simp) (by simp) (by intro xs Ss wr hC hH; have hxr := hA _ hC; simp [Rl.outAt, Rl.outR, go_sem, True]) ?_
          (conv => arg 8; simp only [List.nil_append, List.cons_append]); (conv => arg 9; intro xs; simp [Act.put]); refine Rl.RelW.quiet (fun _ => .pointer (some ⟨bn, on + j, none⟩)) [] [] rfl rfl (fun _ _ _ => rfl) (by simp) (by simp) (by intro xs Ss wr hC hH; have hxr := hA _ hC; simp [Rl.outAt, Rl.outR, go_sem, hlti]) ?_
          (conv => arg 8; simp only [List.nil_append, List.cons_append]); (conv => arg 9; intro xs; simp [Act.put]); refine Rl.RelW.quiet (fun _ => .string ⟨s'.toArray⟩) [] [] rfl rfl (fun _ _ _ => rfl) (by simp) (by simp) (by intro xs Ss wr hC hH; have hxr := hA _ hC; simp [Rl.outAt, Rl.outR, go_sem, hxr.cell d6]) ?_
          (conv => arg 8; simp only [List.nil_append, List.cons_append]); (conv => arg 9; intro xs; simp [Act.put])
          refine Rl.RelW.callX (fun _ => .agg #[.int .i64 (CL.held p s').m, .int .i64 (CL.held p s').u]) [] [] rfl rfl (fun _ _ _ => rfl) (by simp) (by simp) ?_ ?_
          · intro xs Ss wq hC hH
            refine Rl.out_of_calls (by simp [go_sem]) ((HX.out s' A1 c1 wq (S1.ext (hA _ hC))).mono ?_)
            rintro r wq2 ⟨rfl, hq⟩
            exact ⟨_, rfl, rfl, hq⟩
          (conv => arg 8; simp only [List.nil_append, List.cons_append]); (conv => arg 9; intro xs; simp [Act.put]); refine Rl.RelW.quiet (fun _ => .agg #[.string ⟨s'.toArray⟩, .int .i64 (CL.held p s').m, .int .i64 (CL.held p s').u]) [] [] rfl rfl (fun _ _ _ => rfl) (by simp) (by simp) (by intro xs Ss wr hC hH; have hxr := hA _ hC; simp [Rl.outAt, Rl.outR, go_sem, True]) ?_
          (conv => arg 8; simp only [List.nil_append, List.cons_append]); (conv => arg 9; intro xs; simp [Act.put])
          refine Rl.RelW.box (fun g => .slice (some ⟨g, 0, none⟩) 1 1) 56 (fun _ => #[.string ⟨s'.toArray⟩, .int .i64 (CL.held p s').m, .int .i64 (CL.held p s').u]) [] [] rfl rfl (by simp) (by simp) (fun _ _ _ => rfl) ?_ ?_
          · intro xs Ss wr hC hH
            simp [Rl.outAt, Rl.outR, go_sem]
          (conv => arg 8; simp only [List.nil_append, List.cons_append]); (conv => arg 9; intro xs; simp [Act.put])
          refine Rl.RelW.appendOld (.slice B j cb) [13] w6.heap.size 56 3 j 1 (ats ((L.take j).map fun s => ⟨s, CL.held p s⟩)) [.string ⟨s'.toArray⟩, .int .i64 (CL.held p s').m, .int .i64 (CL.held p s').u] 32 _ 41 (.tmp 59) (.tmp 72) rfl rfl (by simp) rfl Try.underlying41 at_info rfl (by omega) HO.out (fun g h => h) hxr.size (fun xs => by simp [go_sem]) rfl (atc_one ⟨s', CL.held p s'⟩) (by unfold maxLen; omega) (by omega) (fun xs Ss wr hC hH => by
            obtain ⟨⟨g, hg, hb, _⟩, _⟩ := hH.get (i := 13) (by simp) rfl
            exact ⟨_, _, by simp [go_sem]; exact hg, Rl.sits_blk hb⟩) ?_
          (conv => arg 8; simp only [List.nil_append, List.cons_append]); (conv => arg 9; intro xs; simp [Act.put])
          refine Rl.RelW.quiet (fun xs => xs 14) [14] [] rfl rfl (fun xs ys h => h 14 (by simp)) (by simp) (by simp) ?_ ?_
          · intro xs Ss wr hC hH
            simp [Rl.outAt, Rl.outR, go_sem]
          (conv => arg 8; simp only [List.nil_append, List.cons_append]); (conv => arg 9; intro xs; simp [Act.put])
          refine ⟨by kernel_rfl, ?_⟩
          intro xs Ss wq hC hF hD
          obtain ⟨⟨hoq, _⟩, _⟩ := hF 14 (by decide) (by kernel_rfl)
          clear hF hD
          have hxq := hA wq hC
          clear hA hC hI HO
          simp only [Nat.reduceAdd, Nat.zero_add] at hoq
          obtain ⟨B9, cb9, e14, _⟩ := own_form hoq
          rw [e14] at hoq
          dsimp only
          rw [e14]
          clear e14
          go_wp2_with fail
          refine ⟨⟨j + 1, B9, cb9, by omega, by go_num, rfl, Lib.hid ?_, hxq⟩, by simp [intOf]; omega⟩
          rw [HTS.out, List.map_append, ats_append]
          exact hoq
        · obtain rfl : j = L.length := by omega
          have hxf := hxp.tr hxr
          obtain ⟨z0, z1⟩ := (bO.ext hxr).c2
          replace bb3 := bb3.ext hxr
          have hzp := hxp.size
          obtain ⟨y0, y1⟩ := bb3.c2
          have n0 := bb3.frozen 0
          have n1 := bb3.frozen 1
          have T1 := Sits.of_own (own_ext ho6 hxr)
          have T2 := Sits.of_own (own_ext ho10 hxr)
          have hHO := HO.out
          rw [List.take_length] at hHO
          go_wp2_with fail
          obtain ⟨d0, d1⟩ := (bb3.set2 (.slice A1 a c1) (.slice A2 s c2)).c2
          have hll : (CL.says p q).length = L.length := by rw [HDEF.out, List.length_map]
          obtain ⟨_, cb', hB, hcb, _⟩ := own_form hHO
          injection hB with _ _ hB
          subst hB
          refine bodyPost_ret (v := .tuple #[.agg #[.slice A1 a c1, .slice A2 s c2], .slice B L.length cb, .int .i64 0]) (by simp [results, Try.results24, go_sem, d0, d1]) rfl ?_
          unfold UndoPost
          rw [HF.out]
          dsimp only
          have hbb := b3l
          have hx2s := hx2.size
          have hxw : Ext w ((wr.setCell ⟨w.heap.size + 1, 0, none⟩ (.slice A1 a c1)).setCell ⟨w.heap.size + 1, 1, none⟩ (.slice A2 s c2)) := ((hxf.setCell (p := ⟨w.heap.size + 1, 0, none⟩) (by simp only; omega) _).setCell (p := ⟨w.heap.size + 1, 1, none⟩) (by simp only; omega) _)
          have hw26 : w2.heap.size ≤ w6.heap.size := Nat.le_trans hA2.size hx6.size
          refine ⟨_, B, cb, by rw [hll], ⟨A1, c1, A2, c2, by rw [hce, hpl, hcs, hsl], ?_, ?_, by rw [hce, hpl]; exact hc1, by rw [hcs, hsl]; exact hc2⟩, ?_, by rw [hll]; exact hcb, hxw⟩
          · rw [hce]; exact T1.set2Other (fun b o e => by have := (ho6.lt b (by rw [e]; rfl)).1; omega)
          · rw [hcs]; exact T2.set2Other (fun b o e => by have := (ho10.lt b (by rw [e]; rfl)).1; omega)
          · rw [HDEF.out]
            exact (Sits.of_own hHO).set2Other (fun b o e => by have := (hHO.lt b (by rw [e]; rfl)).1; omega)
    · have hnz : (lb != 0) = true := by simpa using hlb
      have HLB := Lib.hid hlb
      clear hlb
      cases hplo : CL.plo x.ss lb with
      | none =>
        have HF := Lib.hid (show CL.und x lb = (CL.noLg, [], 10) by simp [CL.und, CL.back, hval, HLB.out, hplo])
        have hpv : CL.plc x.ss lb = -1 := by simp [CL.plc, hplo]
        rw [hpv] at PX
        clear hpv hplo
        go_wp2_with (first
          | (go_at_call 33; (with_reducible refine (VX.out _ hx0).mono ?_); rintro r w2 ⟨rfl, hx2⟩; (have bb3 := b3.ext hx2); (have bb1 := b1.ext hx2); (obtain ⟨a0, a1⟩ := bb1.c2); (obtain ⟨g0, g1⟩ := bb3.c2); (have n0 := bb3.frozen 0); (have n1 := bb3.frozen 1); (have hxp := hx0.tr hx2))
          | (go_at_call 47; (with_reducible refine (PX.out _ hxp).mono ?_); rintro r w2p ⟨rfl, rfl⟩))
        obtain ⟨d0, d1⟩ := (bb3.set2 (.slice none 0 0) (.slice none 0 0)).c2
        refine bodyPost_ret (v := .tuple #[.agg #[.slice none 0 0, .slice none 0 0], .slice none 0 0, .int .i64 10]) (by simp [results, Try.results24, go_sem, d0, d1]) rfl ?_
        unfold UndoPost
        rw [HF.out]
        exact ⟨_, none, 0, rfl, LgV.zero _, Sits.nil, Nat.le_refl _, ((hxp.setCell (p := ⟨w.heap.size + 1, 0, none⟩) (by simp only; omega) _).setCell (p := ⟨w.heap.size + 1, 1, none⟩) (by simp only; omega) _)⟩
      | some i =>
        obtain ⟨hi, _, _⟩ := CL.plo_some hplo
        obtain ⟨_, hsv, hsv2⟩ := CL.lval_get hval
        obtain ⟨_, _, ⟨ht0, htn⟩, _⟩ := hsv2 i hi hi
        have HF := Lib.hid (show CL.und x lb = (CL.cutL x (x.ss[i].t.toNat) (i + 1), CL.says (x.es.take x.ss[i].t.toNat) (x.es.drop x.ss[i].t.toNat), 0) by simp [CL.und, CL.back, hval, HLB.out, hplo, List.getD, hi])
        have hpv : CL.plc x.ss lb = (i : Nat) := by simp [CL.plc, hplo]
        rw [hpv] at PX
        clear hpv hplo hsv hsv2
        obtain ⟨bs, os, hA', c0, c1⟩ := h2.svl hi
        subst hA'
        obtain ⟨a, haa⟩ : ∃ a : Nat, x.ss[i].t = (a : Int) := ⟨x.ss[i].t.toNat, by omega⟩
        rw [haa] at c1 ht0 htn HF
        rw [Int.toNat_natCast] at HF
        clear haa
        obtain ⟨s, hss⟩ : ∃ s : Nat, s = i + 1 := ⟨i + 1, rfl⟩
        rw [← hss] at HF
        have ha : a ≤ x.es.length := by omega
        have hs : s ≤ x.ss.length := by omega
        have si : (s : Int) = (i : Int) + 1 := by omega
        have hw1 : IntKind.i64.wrap ((i : Int) + 1) = (i : Int) + 1 := IntWalk.i64_in _ (by omega)
        have hi1 : (i : Int) < (x.ss.length : Int) := by omega
        have hce : (CL.cutL x a s).es = x.es.take a := rfl
        have hcs : (CL.cutL x a s).ss = x.ss.take s := rfl
        have hpl : (x.es.take a).length = a := by simp; omega
        have hsl : (x.ss.take s).length = s := by simp; omega
        have hql : (x.es.drop a).length = x.es.length - a := by simp
        obtain ⟨A8, c8, hlo, hlS⟩ := low_en x.es A c a ha h3
        have NX := Lib.hid (fun W' (h : Ext w W') => names_l (x.es.drop a) A8 (x.es.length - a) c8 W' hql.symm (by omega) (hlS _ (h1.ext h)))
        have HX := Lib.hid (fun s A1 c1 W' h => Held_l (x.es.take a) s A1 a c1 W' hpl.symm (by unfold maxLen; omega) h)
        have h1p := sits_ens_take h1 a
        have h2p := sits_svl_take h2 s
        obtain ⟨ie, hie, _⟩ := en_inf
        have HSE := fun W => slice_to 28 33 ie Try.underlying28 hie A x.es.length c a (by omega) W
        have HSS := fun W => slice_to 29 69 _ Try.underlying29 rfl (some ⟨bs, os, none⟩) x.ss.length c' s (by omega) W
        simp only [si] at HSS
        replace HSE := Lib.hid HSE
        replace HSS := Lib.hid HSS
        clear si hss
        generalize hq : x.es.drop a = q at *
        generalize hp : x.es.take a = p at *
        generalize hsv : x.ss.take s = sv at *
        have HQ := Lib.hid hq
        have HP := Lib.hid hp
        have HSV := Lib.hid hsv
        clear hq hp hsv
        go_wp2_with (first
          | (go_at_call 33; (with_reducible refine (VX.out _ hx0).mono ?_); rintro r w2 ⟨rfl, hx2⟩; (have bb3 := b3.ext hx2); (have bb1 := b1.ext hx2); (obtain ⟨a0, a1⟩ := bb1.c2); (obtain ⟨g0, g1⟩ := bb3.c2); (have n0 := bb3.frozen 0); (have n1 := bb3.frozen 1); (have hxp := hx0.tr hx2))
          | (go_at_call 47; (with_reducible refine (PX.out _ hxp).mono ?_); rintro r w2p ⟨rfl, rfl⟩; (have c0p := hxp.cell c0); (have c1p := hxp.cell c1)))
        refine Rl.wp_region_rel (fun _ => False) (fun _ h => h.elim) (by kernel_rfl) (by kernel_rfl) (by kernel_rfl) ?_
        have hA : ∀ wr, Rl.Chg (fun _ => False) w2 wr → Ext w2 wr := fun wr h => h.ext (fun _ h => h)
        have sE := h1p.ext hxp
        have sS := h2p.ext hxp
        refine Rl.RelW.own w2.heap.size 33 5 0 [] [] [] rfl rfl (by simp) ?_ ?_
        · intro xs Ss wr hC hH
          simp [Rl.outAt, Rl.outR, go_sem]
          exact Rl.empty_out _ _ _ _ hC.size
        (conv => arg 8; simp only [List.nil_append, List.cons_append]); (conv => arg 9; intro xs; simp [Act.put]); refine Rl.RelW.quiet (fun _ => .pointer (some ⟨w.heap.size, 0, none⟩)) [] [] rfl rfl (fun _ _ _ => rfl) (by simp) (by simp) (by intro xs Ss wr hC hH; have hxr := hA _ hC; simp [Rl.outAt, Rl.outR, go_sem, True]) ?_
        (conv => arg 8; simp only [List.nil_append, List.cons_append]); (conv => arg 9; intro xs; simp [Act.put]); refine Rl.RelW.quiet (fun _ => .slice A x.es.length c) [] [] rfl rfl (fun _ _ _ => rfl) (by simp) (by simp) (by intro xs Ss wr hC hH; have hxr := hA _ hC; simp [Rl.outAt, Rl.outR, go_sem, hxr.cell a0]) ?_
        (conv => arg 8; simp only [List.nil_append, List.cons_append]); (conv => arg 9; intro xs; simp [Act.put]); refine Rl.RelW.quiet (fun _ => .int .i64 (a : Nat)) [] [] rfl rfl (fun _ _ _ => rfl) (by simp) (by simp) (by intro xs Ss wr hC hH; have hxr := hA _ hC; simp [Rl.outAt, Rl.outR, go_sem, True]) ?_
        (conv => arg 8; simp only [List.nil_append, List.cons_append]); (conv => arg 9; intro xs; simp [Act.put]); refine Rl.RelW.quiet (fun _ => .slice A a c) [] [] rfl rfl (fun _ _ _ => rfl) (by simp) (by simp) (by intro xs Ss wr hC hH; have hxr := hA _ hC; simp [Rl.outAt, Rl.outR, go_sem, HSE.out]) ?_
        (conv => arg 8; simp only [List.nil_append, List.cons_append]); (conv => arg 9; intro xs; simp [Act.put])
        refine Rl.RelW.append 0 [] w2.heap.size 33 5 0 a [] (ens p) 48 _ 28 (.tmp 35) (.tmp 39) rfl rfl (by simp) rfl Try.underlying28 en_info rfl (by omega) _ _ rfl (by omega) (Nat.le_refl _) (fun xs => by simp [go_sem]) (by rw [ens_len, hpl]) (ens_one _) (by unfold maxLen; omega) (by omega) (fun xs Ss wr hC hH => ⟨A, c, by simp [go_sem], sE.ext (hA _ hC)⟩) ?_
        (conv => arg 8; simp only [List.nil_append, List.cons_append]); (conv => arg 9; intro xs; simp [Act.put])
        refine Rl.RelW.own w2.heap.size 69 2 0 [] [] [] rfl rfl (by simp) ?_ ?_
        · intro xs Ss wr hC hH
          simp [Rl.outAt, Rl.outR, go_sem]
          exact Rl.empty_out _ _ _ _ hC.size
        (conv => arg 8; simp only [List.nil_append, List.cons_append]); (conv => arg 9; intro xs; simp [Act.put]); refine Rl.RelW.quiet (fun _ => .pointer (some ⟨w.heap.size, 1, none⟩)) [] [] rfl rfl (fun _ _ _ => rfl) (by simp) (by simp) (by intro xs Ss wr hC hH; have hxr := hA _ hC; simp [Rl.outAt, Rl.outR, go_sem, True]) ?_
        (conv => arg 8; simp only [List.nil_append, List.cons_append]); (conv => arg 9; intro xs; simp [Act.put]); refine Rl.RelW.quiet (fun _ => .slice (some ⟨bs, os, none⟩) x.ss.length c') [] [] rfl rfl (fun _ _ _ => rfl) (by simp) (by simp) (by intro xs Ss wr hC hH; have hxr := hA _ hC; simp [Rl.outAt, Rl.outR, go_sem, hxr.cell a1]) ?_
        (conv => arg 8; simp only [List.nil_append, List.cons_append]); (conv => arg 9; intro xs; simp [Act.put]); refine Rl.RelW.quiet (fun _ => .int .i64 ((i : Int) + 1)) [] [] rfl rfl (fun _ _ _ => rfl) (by simp) (by simp) (by intro xs Ss wr hC hH; have hxr := hA _ hC; simp [Rl.outAt, Rl.outR, go_sem, True]) ?_
        (conv => arg 8; simp only [List.nil_append, List.cons_append]); (conv => arg 9; intro xs; simp [Act.put]); refine Rl.RelW.quiet (fun _ => .slice (some ⟨bs, os, none⟩) s c') [] [] rfl rfl (fun _ _ _ => rfl) (by simp) (by simp) (by intro xs Ss wr hC hH; have hxr := hA _ hC; simp [Rl.outAt, Rl.outR, go_sem, HSS.out]) ?_
        (conv => arg 8; simp only [List.nil_append, List.cons_append]); (conv => arg 9; intro xs; simp [Act.put])
        refine Rl.RelW.append 6 [] w2.heap.size 69 2 0 s [] (svl sv) 16 _ 29 (.tmp 41) (.tmp 45) rfl rfl (by simp) rfl Try.underlying29 svr_info rfl (by omega) _ _ rfl (by omega) (Nat.le_refl _) (fun xs => by simp [go_sem]) (by rw [svl_len, hsl]) (svl_one _) (by unfold maxLen; omega) (by omega) (fun xs Ss wr hC hH => ⟨(some ⟨bs, os, none⟩), c', by simp [go_sem], sS.ext (hA _ hC)⟩) ?_
        (conv => arg 8; simp only [List.nil_append, List.cons_append]); (conv => arg 9; intro xs; simp [Act.put])
        refine Rl.RelW.quiet (fun xs => .agg #[xs 5, xs 11]) [5, 11] [5, 11] rfl rfl (fun xs ys h => by rw [h 5 (by simp), h 11 (by simp)]) (by simp) (by simp) ?_ ?_
        · intro xs Ss wr hC hH
          obtain ⟨⟨ho6, _⟩, _⟩ := hH.get (i := 5) (by simp) rfl
          obtain ⟨⟨ho10, _⟩, _⟩ := hH.get (i := 11) (by simp) rfl
          obtain ⟨A1, c1, e6, _⟩ := own_form ho6
          obtain ⟨A2, c2, e10, _⟩ := own_form ho10
          simp [Rl.outAt, Rl.outR, go_sem, e6, e10]
        (conv => arg 8; simp only [List.nil_append, List.cons_append]); (conv => arg 9; intro xs; simp [Act.put])
        refine Rl.RelW.box (fun g => .pointer (some ⟨g, 0, none⟩)) 31 (fun _ => #[.slice none 0 0, .slice none 0 0]) [] [] rfl rfl (by simp) (by simp) (fun _ _ _ => rfl) ?_ ?_
        · intro xs Ss wr hC hH
          simp [Rl.outAt, Rl.outR, go_sem]
        (conv => arg 8; simp only [List.nil_append, List.cons_append]); (conv => arg 9; intro xs; simp [Act.put])
        refine Rl.RelW.step ⟨fun _ => undef, fun xs S w => ∃ g, xs 13 = .pointer (some ⟨g, 0, none⟩) ∧ Blk w g 31 #[xs 5, xs 11] ∧ S g, [13, 5, 11], [5, 11], [13], false⟩ rfl rfl ?_ ?_ (by simp) ?_ ?_
        · intro xs ys h
          refine ⟨rfl, fun S w hG => ?_⟩
          simp only at hG ⊢
          rw [← h 13 (by simp), ← h 5 (by simp), ← h 11 (by simp)]; exact hG
        · intro xs S w w' _ hG hS hk
          obtain ⟨g, hg1, hg2, hg3⟩ := hG
          exact ⟨g, hg1, Rl.blk_kp hg2 hg3 hk, hg3⟩
        · intro xs Ss wr hC hH
          obtain ⟨⟨g, hg, hb, hSg⟩, hlo⟩ := hH.get (i := 13) (by simp) rfl
          obtain ⟨⟨ho6, _⟩, _⟩ := hH.get (i := 5) (by simp) rfl
          obtain ⟨⟨ho10, _⟩, _⟩ := hH.get (i := 11) (by simp) rfl
          obtain ⟨A1, c1, e6, _⟩ := own_form ho6
          obtain ⟨A2, c2, e10, _⟩ := own_form ho10
          have f0 := hb.frozen 0
          have f1 := hb.frozen 1
          obtain ⟨q0, q1⟩ := hb.c2
          simp [Rl.outAt, Rl.outR, go_sem, hg, e6, e10, f0, f1, q0, q1]
          refine ⟨fun i => i = g, ⟨g, hg, ?_, rfl⟩, Rl.Chg.of_grown (Only.rf.set2 _ _) (fun i hi => by cases hi; exact hSg), fun i hi => .inl (by rw [hi]; exact hSg)⟩
          have h := hb.set2 (.slice A1 a c1) (.slice A2 s c2)
          rw [show Rl.upd xs 14 undef 5 = _ from e6, show Rl.upd xs 14 undef 11 = _ from e10, Nat.zero_add, Nat.zero_add]
          exact h
        (conv => arg 8; simp only [List.nil_append, List.cons_append]); (conv => arg 9; intro xs; simp [Act.put])
        refine ⟨by kernel_rfl, ?_⟩
        intro xs Ss wr hC hF hD
        obtain ⟨⟨ho6, hs6⟩, hb6⟩ := hF 5 (by decide) (by kernel_rfl)
        obtain ⟨⟨ho10, hs10⟩, hb10⟩ := hF 11 (by decide) (by kernel_rfl)
        obtain ⟨⟨g, hg, bO, hSg⟩, hb13⟩ := hF 14 (by decide) (by kernel_rfl)
        clear hF hD
        have hz2 := hb13 g hSg
        have hA2 := hA wr hC
        clear hb6 hb10 hb13 hs6 hs10 hA
        simp only [Nat.reduceAdd, Nat.zero_add, List.nil_append] at ho6 ho10 bO hg
        obtain ⟨A1, c1, e6, hc1, _⟩ := own_form ho6
        obtain ⟨A2, c2, e10, hc2, _⟩ := own_form ho10
        rw [e6] at ho6 bO
        rw [e10] at ho10 bO
        replace bb3 := bb3.ext hA2
        replace bb1 := bb1.ext hA2
        replace hxp := hxp.tr hA2
        obtain ⟨a0, a1⟩ := bb1.c2
        clear g0 g1 n0 n1 VX PX sE sS HSE HSS
        dsimp only
        rw [e6, e10, hg]
        clear e6 e10 hg hC
        go_wp2_with (first
          | (go_at_call 51; (with_reducible refine (NX.out _ hxp).mono ?_); rintro r w6 ⟨Bn, cn, rfl, hS2, hcn, hx6⟩; (replace bO := bO.ext hx6); (replace bb3 := bb3.ext hx6); (replace ho6 := own_ext ho6 hx6); (replace ho10 := own_ext ho10 hx6); (replace hxp := hxp.tr hx6))
          | go_in)
        have hnl : (CL.snm q).length ≤ 100 := by have h1 := CL.snm_len q; have h2 := CL.dn_le q; omega
        have HDEF := Lib.hid (show CL.says p q = (CL.snm q).map (fun s => ⟨s, CL.held p s⟩) from rfl)
        generalize CL.snm q = L at *
        go_loopw [11, 13] (fun out i wr => ∃ (j : Nat) (B : Option Addr) (cb : Nat), j ≤ L.length ∧ i = .int .i64 j ∧ out = .slice B j cb ∧ Hid (wr.ownsRow w6.heap.size 56 3 (.slice B j cb) j (ats ((L.take j).map fun s => ⟨s, CL.held p s⟩))) ∧ Ext w6 wr) (fun _ i _ => L.length - (intOf i).toNat)
        case atStart => exact ⟨0, none, 0, by omega, rfl, rfl, Lib.hid (nil_own _ _ _ _), Ext.rfl'⟩
        case round =>
          obtain ⟨j, B, cb, hj, rfl, rfl, HO, hxr⟩ := hrel
          by_cases hlt : j < L.length
          · obtain ⟨bn, on, rfl, d6⟩ := hS2.strs hlt
            have HTS := Lib.hid (congrArg (List.map fun s => (⟨s, CL.held p s⟩ : CL.At)) (CL.take_snoc hlt))
            generalize L[j] = s' at *
            have o6 := bO.c2.1
            have S1 := Sits.of_own ho6
            have hz6 := hxr.size
            have hzp := hxp.size
            have hlti : (j : Int) < (L.length : Int) := by omega
            go_wp2_with fail
            have hI : ∀ g, (Value.slice B j cb).ownBlock = some g → w6.heap.size ≤ g ∧ g < wr.heap.size := fun g hg => HO.out.lt g hg
            refine Rl.wp_region_rel (fun g => (Value.slice B j cb).ownBlock = some g) (fun g h => (hI g h).2) (by kernel_rfl) (by kernel_rfl) (by kernel_rfl) ?_
            have hA : ∀ wq, Rl.Chg (fun g => (Value.slice B j cb).ownBlock = some g) wr wq → Ext w6 wq := fun wq h => Rl.Chg.tr_ext hxr h (fun g hg => (hI g hg).1)
            (conv => arg 8; simp only [List.nil_append, List.cons_append]); (conv => arg 9; intro xs; simp [Act.put]); refine Rl.RelW.quiet (fun _ => .slice B j cb) [] [] rfl rfl (fun _ _ _ => rfl) (by simp) (by simp) (by intro xs Ss wr hC hH; have hxr := hA _ hC; simp [Rl.outAt, Rl.outR, go_sem, True]) ?_
            (conv => arg 8; simp only [List.nil_append, List.cons_append]); (conv => arg 9; intro xs; simp [Act.put]); refine Rl.RelW.quiet (fun _ => .slice (some ⟨bn, on, none⟩) L.length cn) [] [] rfl rfl (fun _ _ _ => rfl) (by simp) (by simp) (by intro xs Ss wr hC hH; have hxr := hA _ hC; simp [Rl.outAt, Rl.outR, go_sem, True]) ?_
            (conv => arg 8; simp only [List.nil_append, List.cons_append]); (conv => arg 9; intro xs; simp [Act.put]); refine Rl.RelW.quiet (fun _ => .int .i64 j) [] [] rfl rfl (fun _ _ _ => rfl) (by simp) (by simp) (by intro xs Ss wr hC hH; have hxr := hA _ hC; simp [Rl.outAt, Rl.outR, go_sem, True]) ?_
            (conv => arg 8; simp only [List.nil_append, List.cons_append]); (conv => arg 9; intro xs; simp [Act.put]); refine Rl.RelW.quiet (fun _ => .pointer (some ⟨bn, on + j, none⟩)) [] [] rfl rfl (fun _ _ _ => rfl) (by simp) (by simp) (by intro xs Ss wr hC hH; have hxr := hA _ hC; simp [Rl.outAt, Rl.outR, go_sem, hlti]) ?_
            (conv => arg 8; simp only [List.nil_append, List.cons_append]); (conv => arg 9; intro xs; simp [Act.put]); refine Rl.RelW.quiet (fun _ => .string ⟨s'.toArray⟩) [] [] rfl rfl (fun _ _ _ => rfl) (by simp) (by simp) (by intro xs Ss wr hC hH; have hxr := hA _ hC; simp [Rl.outAt, Rl.outR, go_sem, hxr.cell d6]) ?_
            (conv => arg 8; simp only [List.nil_append, List.cons_append]); (conv => arg 9; intro xs; simp [Act.put]); refine Rl.RelW.quiet (fun _ => .pointer (some ⟨g, 0, none⟩)) [] [] rfl rfl (fun _ _ _ => rfl) (by simp) (by simp) (by intro xs Ss wr hC hH; have hxr := hA _ hC; simp [Rl.outAt, Rl.outR, go_sem, True]) ?_
            (conv => arg 8; simp only [List.nil_append, List.cons_append]); (conv => arg 9; intro xs; simp [Act.put]); refine Rl.RelW.quiet (fun _ => .slice A1 a c1) [] [] rfl rfl (fun _ _ _ => rfl) (by simp) (by simp) (by intro xs Ss wr hC hH; have hxr := hA _ hC; simp [Rl.outAt, Rl.outR, go_sem, hxr.cell o6]) ?_
            (conv => arg 8; simp only [List.nil_append, List.cons_append]); (conv => arg 9; intro xs; simp [Act.put]); refine Rl.RelW.quiet (fun _ => .slice (some ⟨bn, on, none⟩) L.length cn) [] [] rfl rfl (fun _ _ _ => rfl) (by simp) (by simp) (by intro xs Ss wr hC hH; have hxr := hA _ hC; simp [Rl.outAt, Rl.outR, go_sem, True]) ?_
            (conv => arg 8; simp only [List.nil_append, List.cons_append]); (conv => arg 9; intro xs; simp [Act.put]); refine Rl.RelW.quiet (fun _ => .int .i64 j) [] [] rfl rfl (fun _ _ _ => rfl) (by simp) (by simp) (by intro xs Ss wr hC hH; have hxr := hA _ hC; simp [Rl.outAt, Rl.outR, go_sem, True]) ?_
            (conv => arg 8; simp only [List.nil_append, List.cons_append]); (conv => arg 9; intro xs; simp [Act.put]); refine Rl.RelW.quiet (fun _ => .pointer (some ⟨bn, on + j, none⟩)) [] [] rfl rfl (fun _ _ _ => rfl) (by simp) (by simp) (by intro xs Ss wr hC hH; have hxr := hA _ hC; simp [Rl.outAt, Rl.outR, go_sem, hlti]) ?_
            (conv => arg 8; simp only [List.nil_append, List.cons_append]); (conv => arg 9; intro xs; simp [Act.put]); refine Rl.RelW.quiet (fun _ => .string ⟨s'.toArray⟩) [] [] rfl rfl (fun _ _ _ => rfl) (by simp) (by simp) (by intro xs Ss wr hC hH; have hxr := hA _ hC; simp [Rl.outAt, Rl.outR, go_sem, hxr.cell d6]) ?_
            (conv => arg 8; simp only [List.nil_append, List.cons_append]); (conv => arg 9; intro xs; simp [Act.put])
            refine Rl.RelW.callX (fun _ => .agg #[.int .i64 (CL.held p s').m, .int .i64 (CL.held p s').u]) [] [] rfl rfl (fun _ _ _ => rfl) (by simp) (by simp) ?_ ?_
            · intro xs Ss wq hC hH
              refine Rl.out_of_calls (by simp [go_sem]) ((HX.out s' A1 c1 wq (S1.ext (hA _ hC))).mono ?_)
              rintro r wq2 ⟨rfl, hq⟩
              exact ⟨_, rfl, rfl, hq⟩
            (conv => arg 8; simp only [List.nil_append, List.cons_append]); (conv => arg 9; intro xs; simp [Act.put]); refine Rl.RelW.quiet (fun _ => .agg #[.string ⟨s'.toArray⟩, .int .i64 (CL.held p s').m, .int .i64 (CL.held p s').u]) [] [] rfl rfl (fun _ _ _ => rfl) (by simp) (by simp) (by intro xs Ss wr hC hH; have hxr := hA _ hC; simp [Rl.outAt, Rl.outR, go_sem, True]) ?_
            (conv => arg 8; simp only [List.nil_append, List.cons_append]); (conv => arg 9; intro xs; simp [Act.put])
            refine Rl.RelW.box (fun g => .slice (some ⟨g, 0, none⟩) 1 1) 56 (fun _ => #[.string ⟨s'.toArray⟩, .int .i64 (CL.held p s').m, .int .i64 (CL.held p s').u]) [] [] rfl rfl (by simp) (by simp) (fun _ _ _ => rfl) ?_ ?_
            · intro xs Ss wr hC hH
              simp [Rl.outAt, Rl.outR, go_sem]
            (conv => arg 8; simp only [List.nil_append, List.cons_append]); (conv => arg 9; intro xs; simp [Act.put])
            refine Rl.RelW.appendOld (.slice B j cb) [13] w6.heap.size 56 3 j 1 (ats ((L.take j).map fun s => ⟨s, CL.held p s⟩)) [.string ⟨s'.toArray⟩, .int .i64 (CL.held p s').m, .int .i64 (CL.held p s').u] 32 _ 41 (.tmp 59) (.tmp 72) rfl rfl (by simp) rfl Try.underlying41 at_info rfl (by omega) HO.out (fun g h => h) hxr.size (fun xs => by simp [go_sem]) rfl (atc_one ⟨s', CL.held p s'⟩) (by unfold maxLen; omega) (by omega) (fun xs Ss wr hC hH => by
              obtain ⟨⟨g, hg, hb, _⟩, _⟩ := hH.get (i := 13) (by simp) rfl
              exact ⟨_, _, by simp [go_sem]; exact hg, Rl.sits_blk hb⟩) ?_
            (conv => arg 8; simp only [List.nil_append, List.cons_append]); (conv => arg 9; intro xs; simp [Act.put])
            refine Rl.RelW.quiet (fun xs => xs 14) [14] [] rfl rfl (fun xs ys h => h 14 (by simp)) (by simp) (by simp) ?_ ?_
            · intro xs Ss wr hC hH
              simp [Rl.outAt, Rl.outR, go_sem]
            (conv => arg 8; simp only [List.nil_append, List.cons_append]); (conv => arg 9; intro xs; simp [Act.put])
            refine ⟨by kernel_rfl, ?_⟩
            intro xs Ss wq hC hF hD
            obtain ⟨⟨hoq, _⟩, _⟩ := hF 14 (by decide) (by kernel_rfl)
            clear hF hD
            have hxq := hA wq hC
            clear hA hC hI HO
            simp only [Nat.reduceAdd, Nat.zero_add] at hoq
            obtain ⟨B9, cb9, e14, _⟩ := own_form hoq
            rw [e14] at hoq
            dsimp only
            rw [e14]
            clear e14
            go_wp2_with fail
            refine ⟨⟨j + 1, B9, cb9, by omega, by go_num, rfl, Lib.hid ?_, hxq⟩, by simp [intOf]; omega⟩
            rw [HTS.out, List.map_append, ats_append]
            exact hoq
          · obtain rfl : j = L.length := by omega
            have hxf := hxp.tr hxr
            obtain ⟨z0, z1⟩ := (bO.ext hxr).c2
            replace bb3 := bb3.ext hxr
            have hzp := hxp.size
            obtain ⟨y0, y1⟩ := bb3.c2
            have n0 := bb3.frozen 0
            have n1 := bb3.frozen 1
            have T1 := Sits.of_own (own_ext ho6 hxr)
            have T2 := Sits.of_own (own_ext ho10 hxr)
            have hHO := HO.out
            rw [List.take_length] at hHO
            go_wp2_with fail
            obtain ⟨d0, d1⟩ := (bb3.set2 (.slice A1 a c1) (.slice A2 s c2)).c2
            have hll : (CL.says p q).length = L.length := by rw [HDEF.out, List.length_map]
            obtain ⟨_, cb', hB, hcb, _⟩ := own_form hHO
            injection hB with _ _ hB
            subst hB
            refine bodyPost_ret (v := .tuple #[.agg #[.slice A1 a c1, .slice A2 s c2], .slice B L.length cb, .int .i64 0]) (by simp [results, Try.results24, go_sem, d0, d1]) rfl ?_
            unfold UndoPost
            rw [HF.out]
            dsimp only
            have hbb := b3l
            have hx2s := hx2.size
            have hxw : Ext w ((wr.setCell ⟨w.heap.size + 1, 0, none⟩ (.slice A1 a c1)).setCell ⟨w.heap.size + 1, 1, none⟩ (.slice A2 s c2)) := ((hxf.setCell (p := ⟨w.heap.size + 1, 0, none⟩) (by simp only; omega) _).setCell (p := ⟨w.heap.size + 1, 1, none⟩) (by simp only; omega) _)
            have hw26 : w2.heap.size ≤ w6.heap.size := Nat.le_trans hA2.size hx6.size
            refine ⟨_, B, cb, by rw [hll], ⟨A1, c1, A2, c2, by rw [hce, hpl, hcs, hsl], ?_, ?_, by rw [hce, hpl]; exact hc1, by rw [hcs, hsl]; exact hc2⟩, ?_, by rw [hll]; exact hcb, hxw⟩
            · rw [hce]; exact T1.set2Other (fun b o e => by have := (ho6.lt b (by rw [e]; rfl)).1; omega)
            · rw [hcs]; exact T2.set2Other (fun b o e => by have := (ho10.lt b (by rw [e]; rfl)).1; omega)
            · rw [HDEF.out]
              exact (Sits.of_own hHO).set2Other (fun b o e => by have := (hHO.lt b (by rw [e]; rfl)).1; omega)
set_option maxHeartbeats 3200000 in
set_option maxRecDepth 100000 in
theorem clusterlocksref14.Count_c (x : CL.Lg) (lb : Int) (v : Value) (w : World) (hv : LgV w v x) (hf : Fine x) :
    Calls Try.prog 27 #[v, .int .i64 lb] w fun r w' => r = .returned (.int .i64 (CL.cnt x lb)) ∧ Ext w w' := by
  have UX := Lib.hid (fun W' (h : Ext w W') => clusterlocksref14.Undo_c x lb v W' (hv.ext h) hf)
  obtain ⟨A, c, A', c', rfl, h1, h2, h3, h4⟩ := hv
  obtain ⟨k1, k2, k3⟩ := hf
  go_enter Try.func27, Try.ntmps27
  go_wp2_with fail
  obtain ⟨b1, hx0⟩ := box1 w #[.slice A x.es.length c, .slice A' x.ss.length c'] 31
  generalize (w.alloc (.cells #[.slice A x.es.length c, .slice A' x.ss.length c'] 31)) = W at *
  obtain ⟨e0, e1⟩ := b1.c2
  have HC := Lib.hid (show CL.cnt x lb = if (CL.und x lb).2.2 = 0 then (x.es.length : Int) - (CL.und x lb).1.es.length else -1 from rfl)
  have hul := CL.und_len x lb
  generalize CL.und x lb = y at *
  obtain ⟨y1, y2, y3⟩ := y
  have hk1 : IntKind.i64.wrap ((x.es.length : Int) - (y1.es.length : Int)) = (x.es.length : Int) - (y1.es.length : Int) := IntWalk.i64_in _ (by simp only at hul; omega)
  go_wp2_with (first
    | (go_at_call 24; (with_reducible refine (UX.out _ hx0).mono ?_); rintro r w2 ⟨v2, B, cb, rfl, ⟨A1, c1, A2, c2, rfl, S1, S2, hc1, hc2⟩, S3, hcb, hx2⟩; (have bb1 := b1.ext hx2); (obtain ⟨a0, a1⟩ := (bb1.alloc (.cells #[.slice A1 y1.es.length c1, .slice A2 y1.ss.length c2] 31)).c2))
    | go_in)
  · rename_i hb
    have hy : ¬ y3 = 0 := by simpa using hb
    go_ret
    exact ⟨ret_int (by rw [HC.out, if_neg hy]), (hx0.tr hx2).tr (Ext.new _ _)⟩
  · rename_i hb
    have hy : y3 = 0 := by simpa using hb
    go_ret
    exact ⟨ret_int (by rw [HC.out, if_pos hy]), (hx0.tr hx2).tr (Ext.new _ _)⟩
end Go.Proofs.Ytaebindbadfaaaa
