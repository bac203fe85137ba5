
/- Ledger: the walk of Undo (printed by tools/genLu.py). -/
import Derived.Test.YtaebindbadfaaaaSo
import Derived.IntWalk
namespace Go.Proofs.Ytaebindbadfaaaa
open Go.RowKit
set_option linter.unusedVariables false
set_option linter.unusedSimpArgs false
def UndoPost (y : CL.Lg × List CL.At × Int) (w : World) (r : Ending) (w' : World) : Prop := ∃ v A c, r = .returned (.tuple #[v, .slice A y.2.1.length c, .int .i64 y.2.2]) ∧ LgV w' v y.1 ∧ Sits w' A (ats y.2.1) ∧ y.2.1.length ≤ c ∧ Ext w w'
theorem ledger.sums_l (l : List CL.En) (A : Option Addr) (n c : Nat) (w : World) (hn : n = l.length) (hl : l.length ≤ 100) (hnm : ∀ e ∈ l, e.n.length ≤ maxLen) (hr : Sits w A (ens l)) :
    Calls Try.prog 48 #[.slice A n c] w (SumPost l w) := by
  subst hn; exact ledger.sums_c l A c w hl hnm hr
theorem Sits.set2Other {w : World} {A : Option Addr} {xs : List Value} (h : Sits w A xs) {g : Nat} {u v : Value} (hne : ∀ b o, A = some ⟨b, o, none⟩ → b ≠ g) : Sits ((w.setCell ⟨g, 0, none⟩ u).setCell ⟨g, 1, none⟩ v) A xs := fun hn => by
  obtain ⟨b, o, rfl, hc⟩ := h hn
  refine ⟨b, o, rfl, fun j y hy => ?_⟩
  have h1 := hc j y hy
  have h2 := (World.cell?_setCell_far w ⟨g, 0, none⟩ ⟨b, o + j, none⟩ u (Ne.symm (hne b o rfl))).trans h1
  exact (World.cell?_setCell_far _ ⟨g, 1, none⟩ ⟨b, o + j, none⟩ v (Ne.symm (hne b o rfl))).trans h2
theorem rangeLeft_kept {w w' : World} {b r : Nat} {row : Option Nat} (hg : w.grownBy w' row) (hb : b < w.heap.size) (hr : r < w.heap.size) (h1 : some b ≠ row) (h2 : some r ≠ row) : w'.rangeLeft b r = w.rangeLeft b r := by
  unfold World.rangeLeft
  rw [hg.block b hb h1, hg.block r hr h2]
theorem nodup_le {α : Type} [DecidableEq α] : ∀ {l r : List α}, l.Nodup → (∀ x ∈ l, x ∈ r) → l.length ≤ r.length
  | [], _, _, _ => by simp
  | a :: l, r, hn, hs => by
    obtain ⟨ha, hl⟩ := List.nodup_cons.1 hn
    have h1 := nodup_le (l := l) (r := r.erase a) hl (fun x hx => (List.mem_erase_of_ne (fun e => ha (by rw [← e]; exact hx))).2 (hs x (by simp [hx])))
    have h2 := List.length_erase_of_mem (hs a (by simp))
    have h3 : 0 < r.length := List.length_pos_of_mem (hs a (by simp))
    simp only [List.length_cons]
    omega
theorem low_en (l : List CL.En) (A : Option Addr) (c k : Nat) (hk : k ≤ l.length) (hc : l.length ≤ c) : ∃ A2 c2, (∀ W, (Instr.slice 28 (.slice A l.length c) (some (.int .i64 (k : Int))) none none).run Try.prog W = .ok (.slice A2 (l.length - k) c2) W) ∧ (∀ W, Sits W A (ens l) → Sits W A2 (ens (l.drop k))) := by
  obtain ⟨i, hi, hi5⟩ := en_inf
  cases A with
  | some a =>
    obtain ⟨b, o, pl⟩ := a
    refine ⟨some (if k = c then ⟨b, o, pl⟩ else (⟨b, o, pl⟩ : Addr).add (k * 5)), c - k, fun W => ?_, fun W h => ?_⟩
    · have h1 : (k : Int) ≤ (l.length : Int) := by omega
      simp [Instr.slice, run_underlying Try.underlying28, Instr.sliceBounds, go_sem, h1, sizeOf, typeInfo, hi, hi5]
      by_cases h2 : k = c
      · simp [h2]
      · simp [h2, Ne.symm h2]
    · by_cases h2 : k = c
      · rw [if_pos h2]
        have : l.drop k = [] := List.drop_eq_nil_of_le (by omega)
        rw [this]
        exact Sits.nil
      · rw [if_neg h2]
        by_cases hl : l = []
        · subst hl; simp [ens]; exact Sits.nil
        · obtain ⟨b', o', e, _⟩ := h (by intro e; have := congrArg List.length e; rw [ens_len] at this; cases l <;> simp_all)
          injection e with e
          injection e with e1 e2 e3
          subst e1 e2 e3
          rw [Addr.add_lit]
          have h3 : ens l = ens (l.take k) ++ ens (l.drop k) := by rw [← ens_append, List.take_append_drop]
          rw [h3] at h
          have h4 := h.right
          have h5 : (ens (l.take k)).length = k * 5 := by rw [ens_len, List.length_take, Nat.min_eq_left hk]
          rw [h5] at h4
          exact h4
  | none =>
    refine ⟨none, c - k, fun W => ?_, fun W h => ?_⟩
    · have h1 : (k : Int) ≤ (l.length : Int) := by omega
      simp [Instr.slice, run_underlying Try.underlying28, Instr.sliceBounds, go_sem, h1, sizeOf, typeInfo, hi]
    · intro hn
      have hl : l ≠ [] := by rintro rfl; simp [ens] at hn
      obtain ⟨b, o, e, _⟩ := h (by intro e; have := congrArg List.length e; rw [ens_len] at this; cases l <;> simp_all)
      cases e
set_option maxHeartbeats 3200000 in
set_option maxRecDepth 100000 in
theorem ledger.Undo_c (x : CL.Lg) (lb : Int) (v : Value) (w : World) (hv : LgV w v x) (hf : Fine x) :
    Calls Try.prog 23 #[v, .int .i64 lb] w (UndoPost (CL.und x lb) w) := by
  have hf' := hf
  obtain ⟨A, c, A', c', rfl, h1, h2, h3, h4⟩ := hv
  obtain ⟨k1, k2, k3⟩ := hf
  go_enter Try.func23, Try.ntmps23
  go_wp2_with fail
  obtain ⟨b1, b3, hx0⟩ := two_rows w #[.slice A x.es.length c, .slice A' x.ss.length c'] 31 #[.slice none 0 0, .slice none 0 0] 31
  have hz := hx0.size
  have b3l := b3.lt
  generalize ((w.alloc (.cells #[.slice A x.es.length c, .slice A' x.ss.length c'] 31)).alloc (.cells #[.slice none 0 0, .slice none 0 0] 31)) = W at *
  obtain ⟨e0, e1⟩ := b1.c2
  have VX := Lib.hid (fun W' (h : Ext w W') => ledger.Valid_l x A x.es.length c A' x.ss.length c' W' rfl rfl (h1.ext h) (h2.ext h) h3 h4 hf')
  have PX := Lib.hid (fun W' (h : Ext w W') => ledger.place_c x.ss lb A' c' W' (by unfold maxLen; omega) (h2.ext h))
  cases hval : CL.lval x
  · have HF := Lib.hid (show CL.und x lb = (CL.noLg, [], 2) by simp [CL.und, hval])
    go_wp2_with (go_at_call 36; (with_reducible refine (VX.out _ hx0).mono ?_); rintro r w2 ⟨rfl, hx2⟩; (have bb3 := b3.ext hx2); (have bb1 := b1.ext hx2); (obtain ⟨a0, a1⟩ := bb1.c2); (obtain ⟨g0, g1⟩ := bb3.c2); (have n0 := bb3.frozen 0); (have n1 := bb3.frozen 1); (have hxp := hx0.tr hx2))
    obtain ⟨d0, d1⟩ := (bb3.set2 (.slice none 0 0) (.slice none 0 0)).c2
    refine bodyPost_ret (v := .tuple #[.agg #[.slice none 0 0, .slice none 0 0], .slice none 0 0, .int .i64 2]) (by simp [results, Try.results23, go_sem, d0, d1]) rfl ?_
    unfold UndoPost
    rw [HF.out]
    exact ⟨_, none, 0, rfl, LgV.zero _, Sits.nil, Nat.le_refl _, ((hxp.setCell (p := ⟨w.heap.size + 1, 0, none⟩) (by simp only; omega) _).setCell (p := ⟨w.heap.size + 1, 1, none⟩) (by simp only; omega) _)⟩
  · by_cases hlb : lb = 0
    · subst hlb
      obtain ⟨a, haz⟩ : ∃ a : Nat, a = 0 := ⟨0, rfl⟩
      obtain ⟨s, hsz⟩ : ∃ s : Nat, s = 0 := ⟨0, rfl⟩
      have ha : a ≤ x.es.length := by omega
      have hs : s ≤ x.ss.length := by omega
      have az : ((a : Nat) : Int) = 0 := by omega
      have sz : ((s : Nat) : Int) = 0 := by omega
      have HF := Lib.hid (show CL.und x 0 = (CL.cutL x a s, CL.says (x.es.take a) (x.es.drop a), 0) by simp [CL.und, CL.back, hval, haz, hsz])
      have CX := (fun W' (h : Ext w W') => ledger.cut_c x a s (.agg #[.slice A x.es.length c, .slice A' x.ss.length c']) W' ⟨A, c, A', c', rfl, h1.ext h, h2.ext h, h3, h4⟩ (by omega) (by omega) ha hs)
      have FP : ∀ e ∈ x.es.take a, e.n.length ≤ maxLen := fun e he => k3 e (List.take_subset _ _ he)
      have FQ : ∀ e ∈ x.es.drop a, e.n.length ≤ maxLen := fun e he => k3 e (List.drop_subset _ _ he)
      have hce : (CL.cutL x a s).es = x.es.take a := rfl
      have hcs : (CL.cutL x a s).ss = x.ss.take s := rfl
      have hpl : (x.es.take a).length = a := by simp; omega
      have hsl : (x.ss.take s).length = s := by simp; omega
      have hql : (x.es.drop a).length = x.es.length - a := by simp
      obtain ⟨A8, c8, hlo, hlS⟩ := low_en x.es A c a ha h3
      have SX := Lib.hid (fun W' (h : Ext w W') => ledger.sums_l (x.es.drop a) A8 (x.es.length - a) c8 W' hql.symm (by omega) FQ (hlS _ (h1.ext h)))
      have SP := Lib.hid (fun A1 c1 W' h => ledger.sums_l (x.es.take a) A1 a c1 W' hpl.symm (by omega) FP h)
      simp only [az, sz] at CX hlo
      clear haz hsz az sz
      replace CX := Lib.hid CX
      generalize hq : x.es.drop a = q at *
      generalize hp : x.es.take a = p at *
      generalize hsv : x.ss.take s = sv at *
      have HQ := Lib.hid hq
      have HP := Lib.hid hp
      have HSV := Lib.hid hsv
      clear hq hp hsv
      go_wp2_with (first
        | (go_at_call 36; (with_reducible refine (VX.out _ hx0).mono ?_); rintro r w2 ⟨rfl, hx2⟩; (have bb3 := b3.ext hx2); (have bb1 := b1.ext hx2); (obtain ⟨a0, a1⟩ := bb1.c2); (obtain ⟨g0, g1⟩ := bb3.c2); (have n0 := bb3.frozen 0); (have n1 := bb3.frozen 1); (have hxp := hx0.tr hx2))

        | (go_at_call 45; (with_reducible refine (CX.out _ hxp).mono ?_); rintro r w3 ⟨v3, rfl, hl3, hx3⟩; (obtain ⟨A1, c1, A2, c2, rfl, ho1, ho2, hc1, hc2⟩ := hl3); (rw [hce, hpl] at ho1); (rw [hcs, hsl] at ho2); (rw [hce, hpl] at hc1); (rw [hcs, hsl] at hc2); (simp only [hce, hcs, hpl, hsl]);
           (have hx3 := (show Ext _ w3 from hx3).tr (Ext.new w3 (.cells #[.slice A1 a c1, .slice A2 s c2] 31)));
           (have bO := Blk.new w3 31 #[.slice A1 a c1, .slice A2 s c2]);
           (have S1 := Sits.of_own (ho1.alloc (.cells #[.slice A1 a c1, .slice A2 s c2] 31)));
           (have S2 := Sits.of_own (ho2.alloc (.cells #[.slice A1 a c1, .slice A2 s c2] 31)));
           (replace bb1 := bb1.ext hx3); (replace bb3 := bb3.ext hx3); (have hx4 := hxp.tr hx3); (obtain ⟨a0, a1⟩ := bb1.c2))
        | (go_at_call 48; (with_reducible refine (SP.out _ _ _ S1).mono ?_); rintro r w5 ⟨m1, rfl, hm1, hx5, hm1l⟩; (replace bO := bO.ext hx5); (replace S1 := S1.ext hx5); (replace S2 := S2.ext hx5); (replace bb1 := bb1.ext hx5); (replace bb3 := bb3.ext hx5); (replace hx5 := hx4.tr hx5); (obtain ⟨a0, a1⟩ := bb1.c2))
        | (go_at_call 48; (with_reducible refine (SX.out _ hx5).mono ?_); rintro r w6 ⟨m2, rfl, hm2, hx6, hm2l⟩; (replace bO := bO.ext hx6); (replace S1 := S1.ext hx6); (replace S2 := S2.ext hx6); (replace bb3 := bb3.ext hx6); (replace hm1 := hm1.ext hx6); (replace hx6 := hx5.tr hx6))
        | (at_range; refine wpList_range_am _ rfl _ rfl m2 q rfl hm2 ?_; intro w7 hr7 hx7 hz7)
        | go_in)
      go_frame
      have hb6 := bb3.lt
      have hm2s := hm2.lt
      have hne1 : ∀ b o, A1 = some ⟨b, o, none⟩ → b ≠ w.heap.size + 1 := fun b o e => by have := (ho1.lt b (by rw [e]; rfl)).1; have := hx2.size;  omega
      have hne2 : ∀ b o, A2 = some ⟨b, o, none⟩ → b ≠ w.heap.size + 1 := fun b o e => by have := (ho2.lt b (by rw [e]; rfl)).1; have := hx2.size;  omega
      have HN1 := Lib.hid hne1
      have HN2 := Lib.hid hne2
      clear hne1 hne2
      have hx67 := hx7
      go_loopw [12, 13] (fun rest _ wr => ∃ (vs : List (List UInt8)) (B : Option Addr) (cb : Nat), rest = .slice B vs.length cb ∧ MapRg wr m2 w6.heap.size q vs ∧ wr.ownsRow (w6.heap.size + 1) 56 3 (.slice B vs.length cb) vs.length (ats (vs.map fun s => ⟨s, CL.held p s⟩)) ∧ Ext w6 wr) (fun _ _ wr => wr.rangeLeft m2 w6.heap.size)
      case atStart => exact ⟨[], none, 0, rfl, hr7, nil_own _ _ _ _, hx7⟩
      case round =>
        obtain ⟨vs, B, cb, rfl, hrg, hown, hxr⟩ := hrel
        have HO := Lib.hid hown
        clear hown
        have hrl := hrg.lt
        have hvl : vs.length ≤ 100 := by
          obtain ⟨D, left, cc, _, _, _, hnd, hsub⟩ := hrg
          have := nodup_le hnd hsub
          have := CL.dn_le q
          omega
        have hsz6 := hxr.size
        go_wp2_with (first
          | (at_next; refine wpList_next_am _ rfl _ rfl m2 w6.heap.size q vs rfl hrg ?_ ?_)
          | go_in)
        · intro hperm
          have hown := HO.out
          have SA := SortAts_c (vs.map fun s => ⟨s, CL.held p s⟩) B cb (w6.heap.size + 1) wr (by simpa using hown) (by simpa using (show vs.length ≤ 1000 by omega))
          rw [List.length_map] at SA
          have HSA := Lib.hid SA
          have HPM := Lib.hid hperm
          clear SA hown hperm
          go_wp2_with (first
            | (go_at_call 49; (with_reducible refine HSA.out.mono ?_); rintro r w8 ⟨rfl, l', hlp, hls, S8, hg8⟩;
               (have hx8 : Ext w6 w8 := hxr.trans (grown_below hg8 hsz6 (fun g hg => by have := (HO.out.lt g (by cases B <;> exact hg)).1; omega)));
               (have bO8 := bO.ext hx8); (have bb8 := bb3.ext hx8); (have T1 := S1.ext hx8); (have T2 := S2.ext hx8); (obtain ⟨z0, z1⟩ := bO8.c2); (obtain ⟨y0, y1⟩ := bb8.c2); (have n0 := bb8.frozen 0); (have n1 := bb8.frozen 1))
            | go_in)
          obtain ⟨d0, d1⟩ := (bb8.set2 (.slice A1 a c1) (.slice A2 s c2)).c2
          have hl' : l' = CL.says p q := CL.says_sorted HPM.out hlp hls
          have hll : (CL.says p q).length = vs.length := by rw [← hl', hlp.length_eq, List.length_map]
          obtain ⟨_, cb', hB, hcb, _⟩ := own_form HO.out
          injection hB with _ _ hB
          subst hB
          refine bodyPost_ret (v := .tuple #[.agg #[.slice A1 a c1, .slice A2 s c2], .slice B vs.length cb, .int .i64 0]) (by simp [results, Try.results23, go_sem, d0, d1]) rfl ?_
          unfold UndoPost
          rw [HF.out]
          dsimp only
          have hxf : Ext w ((w8.setCell ⟨w.heap.size + 1, 0, none⟩ (.slice A1 a c1)).setCell ⟨w.heap.size + 1, 1, none⟩ (.slice A2 s c2)) := (((hx6.tr hx8).setCell (p := ⟨w.heap.size + 1, 0, none⟩) (by simp only; omega) _).setCell (p := ⟨w.heap.size + 1, 1, none⟩) (by simp only; omega) _)
          refine ⟨_, B, cb, by rw [hll], ⟨A1, c1, A2, c2, by rw [hce, hpl, hcs, hsl], ?_, ?_, by rw [hce, hpl]; exact hc1, by rw [hcs, hsl]; exact hc2⟩, ?_, by rw [hll]; exact hcb, hxf⟩
          · rw [hce]; exact T1.set2Other HN1.out
          · rw [hcs]; exact T2.set2Other HN2.out
          · rw [← hl']
            exact S8.set2Other (fun b o e => by have := (HO.out.lt b (by rw [e]; rfl)).1; omega)
        · intro s' w8 hs1 hs2 hsl' hrg8 hlt8 ho8 hsz8 hen8
          have hx8 : Ext w6 w8 := hxr.only ho8 (Nat.le_refl _)
          have HSZ := Lib.hid hsz8
          clear hsz8
          have hlk := (hm1.ext hx8).look s' hsl'
          have hown := own_only HO.out ho8 (fun e => by have := (HO.out.lt _ e).1; omega)
          go_wp2_with (first
            | (at_builtin; refine wpList_append_sits _ rfl (.tmp 52) (.tmp 58) _ rfl (w6.heap.size + 1) 56 3 32 _ Try.underlying41 at_info rfl (by omega) _ _ _ rfl (hown.alloc _) _ _ _ [.string ⟨s'.toArray⟩, .int .i64 (CL.held p s').m, .int .i64 (CL.held p s').u] rfl rfl (Sits.new _ _ _) (atc_one ⟨s', CL.held p s'⟩) (by unfold maxLen; omega) (by omega) (by have := HSZ.out; simp; omega) ?_; intro v9 w9 ho9 hb9 hg9; (obtain ⟨B9, cb9, rfl, hc9, _⟩ := own_form ho9))
            | go_in)
          have hrow : ∀ g, (Value.slice B vs.length cb).ownBlock = some g → w6.heap.size + 1 ≤ g := fun g hg => (hown.lt g hg).1
          have hgr : w8.grownBy w9 (Value.slice B vs.length cb).ownBlock := grown_tr (grown_ext (Ext.new _ _)) hg9 (.inl rfl)
          have hm2n : some m2 ≠ (Value.slice B vs.length cb).ownBlock := fun e => by have := hrow m2 e.symm; omega
          have hrn : some w6.heap.size ≠ (Value.slice B vs.length cb).ownBlock := fun e => by have := hrow _ e.symm; omega
          refine ⟨⟨vs ++ [s'], B9, cb9, by simp, hrg8.kept hgr hm2n hrn, ?_, hx8.trans (grown_below hgr (by have := HSZ.out; omega) (fun g hg => by have := hrow g hg; omega))⟩, ?_⟩
          · rw [List.map_append, ats_append, List.length_append]
            exact ho9
          · rw [rangeLeft_kept hgr hrg8.owns.lt hrg8.lt hm2n hrn]
            exact hlt8
    · have hlb1 : (lb == 0) = false := beq_eq_false_iff_ne.2 hlb
      have HLB := Lib.hid hlb
      have hnz : (decide (lb = 0)) = false := decide_eq_false hlb
      clear hlb
      cases hplo : CL.plo x.ss lb with
      | none =>
        have HF := Lib.hid (show CL.und x lb = (CL.noLg, [], 10) by simp [CL.und, CL.back, hval, HLB.out, hplo])
        have hpv : CL.plc x.ss lb = -1 := by simp [CL.plc, hplo]
        rw [hpv] at PX
        clear hpv hplo
        go_wp2_with (first
          | (go_at_call 36; (with_reducible refine (VX.out _ hx0).mono ?_); rintro r w2 ⟨rfl, hx2⟩; (have bb3 := b3.ext hx2); (have bb1 := b1.ext hx2); (obtain ⟨a0, a1⟩ := bb1.c2); (obtain ⟨g0, g1⟩ := bb3.c2); (have n0 := bb3.frozen 0); (have n1 := bb3.frozen 1); (have hxp := hx0.tr hx2))
          | (go_at_call 46; (with_reducible refine (PX.out _ hxp).mono ?_); rintro r w2p ⟨rfl, hx2p⟩; (replace bb3 := bb3.ext hx2p); (replace bb1 := bb1.ext hx2p); (obtain ⟨a0, a1⟩ := bb1.c2); (obtain ⟨g0, g1⟩ := bb3.c2); (have n0 := bb3.frozen 0); (have n1 := bb3.frozen 1); (replace hxp := hxp.tr hx2p)))
        obtain ⟨d0, d1⟩ := (bb3.set2 (.slice none 0 0) (.slice none 0 0)).c2
        refine bodyPost_ret (v := .tuple #[.agg #[.slice none 0 0, .slice none 0 0], .slice none 0 0, .int .i64 10]) (by simp [results, Try.results23, go_sem, d0, d1]) rfl ?_
        unfold UndoPost
        rw [HF.out]
        exact ⟨_, none, 0, rfl, LgV.zero _, Sits.nil, Nat.le_refl _, ((hxp.setCell (p := ⟨w.heap.size + 1, 0, none⟩) (by simp only; omega) _).setCell (p := ⟨w.heap.size + 1, 1, none⟩) (by simp only; omega) _)⟩
      | some i =>
        obtain ⟨hi, _, _⟩ := CL.plo_some hplo
        obtain ⟨_, hsv, hsv2⟩ := CL.lval_get hval
        obtain ⟨_, _, ⟨ht0, htn⟩, _⟩ := hsv2 i hi hi
        have HF := Lib.hid (show CL.und x lb = (CL.cutL x (x.ss[i].t.toNat) (i + 1), CL.says (x.es.take x.ss[i].t.toNat) (x.es.drop x.ss[i].t.toNat), 0) by simp [CL.und, CL.back, hval, HLB.out, hplo, List.getD, hi])
        have hpv : CL.plc x.ss lb = (i : Nat) := by simp [CL.plc, hplo]
        rw [hpv] at PX
        clear hpv hplo hsv hsv2
        obtain ⟨bs, os, hA', c0, c1⟩ := h2.svl hi
        subst hA'
        obtain ⟨a, haa⟩ : ∃ a : Nat, x.ss[i].t = (a : Int) := ⟨x.ss[i].t.toNat, by omega⟩
        rw [haa] at c1 ht0 htn HF
        rw [Int.toNat_natCast] at HF
        clear haa
        obtain ⟨s, hss⟩ : ∃ s : Nat, s = i + 1 := ⟨i + 1, rfl⟩
        rw [← hss] at HF
        have ha : a ≤ x.es.length := by omega
        have hs : s ≤ x.ss.length := by omega
        have si : (s : Int) = (i : Int) + 1 := by omega
        have hw1 : IntKind.i64.wrap ((i : Int) + 1) = (i : Int) + 1 := IntWalk.i64_in _ (by omega)
        have hi1 : (i : Int) < (x.ss.length : Int) := by omega
        have CX := (fun W' (h : Ext w W') => ledger.cut_c x a s (.agg #[.slice A x.es.length c, .slice (some ⟨bs, os, none⟩) x.ss.length c']) W' ⟨A, c, (some ⟨bs, os, none⟩), c', rfl, h1.ext h, h2.ext h, h3, h4⟩ (by omega) (by omega) ha hs)
        have FP : ∀ e ∈ x.es.take a, e.n.length ≤ maxLen := fun e he => k3 e (List.take_subset _ _ he)
        have FQ : ∀ e ∈ x.es.drop a, e.n.length ≤ maxLen := fun e he => k3 e (List.drop_subset _ _ he)
        have hce : (CL.cutL x a s).es = x.es.take a := rfl
        have hcs : (CL.cutL x a s).ss = x.ss.take s := rfl
        have hpl : (x.es.take a).length = a := by simp; omega
        have hsl : (x.ss.take s).length = s := by simp; omega
        have hql : (x.es.drop a).length = x.es.length - a := by simp
        obtain ⟨A8, c8, hlo, hlS⟩ := low_en x.es A c a ha h3
        have SX := Lib.hid (fun W' (h : Ext w W') => ledger.sums_l (x.es.drop a) A8 (x.es.length - a) c8 W' hql.symm (by omega) FQ (hlS _ (h1.ext h)))
        have SP := Lib.hid (fun A1 c1 W' h => ledger.sums_l (x.es.take a) A1 a c1 W' hpl.symm (by omega) FP h)
        simp only [si] at CX
        clear si hss
        replace CX := Lib.hid CX
        generalize hq : x.es.drop a = q at *
        generalize hp : x.es.take a = p at *
        generalize hsv : x.ss.take s = sv at *
        have HQ := Lib.hid hq
        have HP := Lib.hid hp
        have HSV := Lib.hid hsv
        clear hq hp hsv
        go_wp2_with (first
          | (go_at_call 36; (with_reducible refine (VX.out _ hx0).mono ?_); rintro r w2 ⟨rfl, hx2⟩; (have bb3 := b3.ext hx2); (have bb1 := b1.ext hx2); (obtain ⟨a0, a1⟩ := bb1.c2); (obtain ⟨g0, g1⟩ := bb3.c2); (have n0 := bb3.frozen 0); (have n1 := bb3.frozen 1); (have hxp := hx0.tr hx2))
          | (go_at_call 46; (with_reducible refine (PX.out _ hxp).mono ?_); rintro r w2p ⟨rfl, hx2p⟩; (replace bb3 := bb3.ext hx2p); (replace bb1 := bb1.ext hx2p); (obtain ⟨a0, a1⟩ := bb1.c2); (obtain ⟨g0, g1⟩ := bb3.c2); (have n0 := bb3.frozen 0); (have n1 := bb3.frozen 1); (replace hxp := hxp.tr hx2p); (have c0p := hxp.cell c0); (have c1p := hxp.cell c1))
          | (go_at_call 45; (with_reducible refine (CX.out _ hxp).mono ?_); rintro r w3 ⟨v3, rfl, hl3, hx3⟩; (obtain ⟨A1, c1, A2, c2, rfl, ho1, ho2, hc1, hc2⟩ := hl3); (rw [hce, hpl] at ho1); (rw [hcs, hsl] at ho2); (rw [hce, hpl] at hc1); (rw [hcs, hsl] at hc2); (simp only [hce, hcs, hpl, hsl]);
             (have hx3 := (show Ext _ w3 from hx3).tr (Ext.new w3 (.cells #[.slice A1 a c1, .slice A2 s c2] 31)));
             (have bO := Blk.new w3 31 #[.slice A1 a c1, .slice A2 s c2]);
             (have S1 := Sits.of_own (ho1.alloc (.cells #[.slice A1 a c1, .slice A2 s c2] 31)));
             (have S2 := Sits.of_own (ho2.alloc (.cells #[.slice A1 a c1, .slice A2 s c2] 31)));
             (replace bb1 := bb1.ext hx3); (replace bb3 := bb3.ext hx3); (have hx4 := hxp.tr hx3); (obtain ⟨a0, a1⟩ := bb1.c2))
          | (go_at_call 48; (with_reducible refine (SP.out _ _ _ S1).mono ?_); rintro r w5 ⟨m1, rfl, hm1, hx5, hm1l⟩; (replace bO := bO.ext hx5); (replace S1 := S1.ext hx5); (replace S2 := S2.ext hx5); (replace bb1 := bb1.ext hx5); (replace bb3 := bb3.ext hx5); (replace hx5 := hx4.tr hx5); (obtain ⟨a0, a1⟩ := bb1.c2))
          | (go_at_call 48; (with_reducible refine (SX.out _ hx5).mono ?_); rintro r w6 ⟨m2, rfl, hm2, hx6, hm2l⟩; (replace bO := bO.ext hx6); (replace S1 := S1.ext hx6); (replace S2 := S2.ext hx6); (replace bb3 := bb3.ext hx6); (replace hm1 := hm1.ext hx6); (replace hx6 := hx5.tr hx6))
          | (at_range; refine wpList_range_am _ rfl _ rfl m2 q rfl hm2 ?_; intro w7 hr7 hx7 hz7)
          | go_in)
        go_frame
        have hb6 := bb3.lt
        have hm2s := hm2.lt
        have hne1 : ∀ b o, A1 = some ⟨b, o, none⟩ → b ≠ w.heap.size + 1 := fun b o e => by have := (ho1.lt b (by rw [e]; rfl)).1; have := hx2.size; have := hx2p.size; omega
        have hne2 : ∀ b o, A2 = some ⟨b, o, none⟩ → b ≠ w.heap.size + 1 := fun b o e => by have := (ho2.lt b (by rw [e]; rfl)).1; have := hx2.size; have := hx2p.size; omega
        have HN1 := Lib.hid hne1
        have HN2 := Lib.hid hne2
        clear hne1 hne2
        have hx67 := hx7
        go_loopw [12, 13] (fun rest _ wr => ∃ (vs : List (List UInt8)) (B : Option Addr) (cb : Nat), rest = .slice B vs.length cb ∧ MapRg wr m2 w6.heap.size q vs ∧ wr.ownsRow (w6.heap.size + 1) 56 3 (.slice B vs.length cb) vs.length (ats (vs.map fun s => ⟨s, CL.held p s⟩)) ∧ Ext w6 wr) (fun _ _ wr => wr.rangeLeft m2 w6.heap.size)
        case atStart => exact ⟨[], none, 0, rfl, hr7, nil_own _ _ _ _, hx7⟩
        case round =>
          obtain ⟨vs, B, cb, rfl, hrg, hown, hxr⟩ := hrel
          have HO := Lib.hid hown
          clear hown
          have hrl := hrg.lt
          have hvl : vs.length ≤ 100 := by
            obtain ⟨D, left, cc, _, _, _, hnd, hsub⟩ := hrg
            have := nodup_le hnd hsub
            have := CL.dn_le q
            omega
          have hsz6 := hxr.size
          go_wp2_with (first
            | (at_next; refine wpList_next_am _ rfl _ rfl m2 w6.heap.size q vs rfl hrg ?_ ?_)
            | go_in)
          · intro hperm
            have hown := HO.out
            have SA := SortAts_c (vs.map fun s => ⟨s, CL.held p s⟩) B cb (w6.heap.size + 1) wr (by simpa using hown) (by simpa using (show vs.length ≤ 1000 by omega))
            rw [List.length_map] at SA
            have HSA := Lib.hid SA
            have HPM := Lib.hid hperm
            clear SA hown hperm
            go_wp2_with (first
              | (go_at_call 49; (with_reducible refine HSA.out.mono ?_); rintro r w8 ⟨rfl, l', hlp, hls, S8, hg8⟩;
                 (have hx8 : Ext w6 w8 := hxr.trans (grown_below hg8 hsz6 (fun g hg => by have := (HO.out.lt g (by cases B <;> exact hg)).1; omega)));
                 (have bO8 := bO.ext hx8); (have bb8 := bb3.ext hx8); (have T1 := S1.ext hx8); (have T2 := S2.ext hx8); (obtain ⟨z0, z1⟩ := bO8.c2); (obtain ⟨y0, y1⟩ := bb8.c2); (have n0 := bb8.frozen 0); (have n1 := bb8.frozen 1))
              | go_in)
            obtain ⟨d0, d1⟩ := (bb8.set2 (.slice A1 a c1) (.slice A2 s c2)).c2
            have hl' : l' = CL.says p q := CL.says_sorted HPM.out hlp hls
            have hll : (CL.says p q).length = vs.length := by rw [← hl', hlp.length_eq, List.length_map]
            obtain ⟨_, cb', hB, hcb, _⟩ := own_form HO.out
            injection hB with _ _ hB
            subst hB
            refine bodyPost_ret (v := .tuple #[.agg #[.slice A1 a c1, .slice A2 s c2], .slice B vs.length cb, .int .i64 0]) (by simp [results, Try.results23, go_sem, d0, d1]) rfl ?_
            unfold UndoPost
            rw [HF.out]
            dsimp only
            have hxf : Ext w ((w8.setCell ⟨w.heap.size + 1, 0, none⟩ (.slice A1 a c1)).setCell ⟨w.heap.size + 1, 1, none⟩ (.slice A2 s c2)) := (((hx6.tr hx8).setCell (p := ⟨w.heap.size + 1, 0, none⟩) (by simp only; omega) _).setCell (p := ⟨w.heap.size + 1, 1, none⟩) (by simp only; omega) _)
            refine ⟨_, B, cb, by rw [hll], ⟨A1, c1, A2, c2, by rw [hce, hpl, hcs, hsl], ?_, ?_, by rw [hce, hpl]; exact hc1, by rw [hcs, hsl]; exact hc2⟩, ?_, by rw [hll]; exact hcb, hxf⟩
            · rw [hce]; exact T1.set2Other HN1.out
            · rw [hcs]; exact T2.set2Other HN2.out
            · rw [← hl']
              exact S8.set2Other (fun b o e => by have := (HO.out.lt b (by rw [e]; rfl)).1; omega)
          · intro s' w8 hs1 hs2 hsl' hrg8 hlt8 ho8 hsz8 hen8
            have hx8 : Ext w6 w8 := hxr.only ho8 (Nat.le_refl _)
            have HSZ := Lib.hid hsz8
            clear hsz8
            have hlk := (hm1.ext hx8).look s' hsl'
            have hown := own_only HO.out ho8 (fun e => by have := (HO.out.lt _ e).1; omega)
            go_wp2_with (first
              | (at_builtin; refine wpList_append_sits _ rfl (.tmp 52) (.tmp 58) _ rfl (w6.heap.size + 1) 56 3 32 _ Try.underlying41 at_info rfl (by omega) _ _ _ rfl (hown.alloc _) _ _ _ [.string ⟨s'.toArray⟩, .int .i64 (CL.held p s').m, .int .i64 (CL.held p s').u] rfl rfl (Sits.new _ _ _) (atc_one ⟨s', CL.held p s'⟩) (by unfold maxLen; omega) (by omega) (by have := HSZ.out; simp; omega) ?_; intro v9 w9 ho9 hb9 hg9; (obtain ⟨B9, cb9, rfl, hc9, _⟩ := own_form ho9))
              | go_in)
            have hrow : ∀ g, (Value.slice B vs.length cb).ownBlock = some g → w6.heap.size + 1 ≤ g := fun g hg => (hown.lt g hg).1
            have hgr : w8.grownBy w9 (Value.slice B vs.length cb).ownBlock := grown_tr (grown_ext (Ext.new _ _)) hg9 (.inl rfl)
            have hm2n : some m2 ≠ (Value.slice B vs.length cb).ownBlock := fun e => by have := hrow m2 e.symm; omega
            have hrn : some w6.heap.size ≠ (Value.slice B vs.length cb).ownBlock := fun e => by have := hrow _ e.symm; omega
            refine ⟨⟨vs ++ [s'], B9, cb9, by simp, hrg8.kept hgr hm2n hrn, ?_, hx8.trans (grown_below hgr (by have := HSZ.out; omega) (fun g hg => by have := hrow g hg; omega))⟩, ?_⟩
            · rw [List.map_append, ats_append, List.length_append]
              exact ho9
            · rw [rangeLeft_kept hgr hrg8.owns.lt hrg8.lt hm2n hrn]
              exact hlt8
end Go.Proofs.Ytaebindbadfaaaa
