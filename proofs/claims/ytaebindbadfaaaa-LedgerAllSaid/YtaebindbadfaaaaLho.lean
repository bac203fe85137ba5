
/- Ledger: the walk of Holdings. -/
import Derived.Test.YtaebindbadfaaaaLu
namespace Go.Proofs.Ytaebindbadfaaaa
open Go.RowKit
set_option linter.unusedVariables false
set_option linter.unusedSimpArgs false
def HoldPost (l : List CL.En) (w : World) (r : Ending) (w' : World) : Prop := ∃ A c, r = .returned (.slice A (CL.hold l).length c) ∧ Sits w' A (ats (CL.hold l)) ∧ (CL.hold l).length ≤ c ∧ Ext w w'
theorem am_ne0 (a b : Int) (W : World) : (binOp .neq 23 (.agg #[.int .i64 a, .int .i64 b]) (.agg #[.int .i64 0, .int .i64 0])).run Try.prog W = .ok (.bool (!CL.zer ⟨a, b⟩)) W := am_neq a b 0 0 W
def hfs (l : List CL.En) (vs : List (List UInt8)) : List CL.At := (vs.filter (fun s => !CL.zer (CL.held l s))).map (fun s => ⟨s, CL.held l s⟩)
theorem hfs_snoc (l : List CL.En) (vs : List (List UInt8)) (s : List UInt8) : hfs l (vs ++ [s]) = if CL.zer (CL.held l s) = true then hfs l vs else hfs l vs ++ [⟨s, CL.held l s⟩] := by
  unfold hfs
  rw [List.filter_append, List.map_append]
  cases h : CL.zer (CL.held l s) <;> simp [h]
theorem hfs_len (l : List CL.En) (vs : List (List UInt8)) : (hfs l vs).length ≤ vs.length := by
  unfold hfs
  rw [List.length_map]
  exact List.length_filter_le _ _
set_option maxHeartbeats 3200000 in
set_option maxRecDepth 100000 in
theorem ledger.Holdings_c (x : CL.Lg) (v : Value) (w : World) (hv : LgV w v x) (hf : Fine x) :
    Calls Try.prog 37 #[v] w (HoldPost x.es w) := by
  obtain ⟨A, c, A', c', rfl, h1, h2, h3, h4⟩ := hv
  obtain ⟨k1, k2, k3⟩ := hf
  go_enter Try.func37, Try.ntmps37
  go_wp2_with fail
  obtain ⟨b1, hx0⟩ := box1 w #[.slice A x.es.length c, .slice A' x.ss.length c'] 31
  generalize (w.alloc (.cells #[.slice A x.es.length c, .slice A' x.ss.length c'] 31)) = W at *
  obtain ⟨e0, e1⟩ := b1.c2
  generalize x.es = q at *
  have SX := Lib.hid (fun W' (h : Ext w W') => ledger.sums_c q A c W' k1 k3 (h1.ext h))
  go_wp2_with (first
    | (go_at_call 48; (with_reducible refine (SX.out _ hx0).mono ?_); rintro r w6 ⟨m2, rfl, hm2, hx6, hm2l⟩; (replace hx6 := hx0.tr hx6))
    | (at_range; refine wpList_range_am _ rfl _ rfl m2 q rfl hm2 ?_; intro w7 hr7 hx7 hz7)
    | go_in)
  go_frame
  have hm2s := hm2.lt
  have hx67 := hx7
  go_loopw [3, 4] (fun out _ wr => ∃ (vs : List (List UInt8)) (B : Option Addr) (n cb : Nat), out = .slice B n cb ∧ MapRg wr m2 w6.heap.size q vs ∧ Hid (n = (hfs q vs).length) ∧ wr.ownsRow (w6.heap.size + 1) 56 3 (.slice B n cb) n (ats (hfs q vs)) ∧ Ext w6 wr) (fun _ _ wr => wr.rangeLeft m2 w6.heap.size)
  case atStart => exact ⟨[], none, 0, 0, rfl, hr7, Lib.hid rfl, nil_own _ _ _ _, hx7⟩
  case round =>
    obtain ⟨vs, B, n, cb, rfl, hrg, HN, hown, hxr⟩ := hrel
    have HO := Lib.hid hown
    clear hown
    have hrl := hrg.lt
    have hvl : vs.length ≤ 100 := by
      obtain ⟨D, left, cc, _, _, _, hnd, hsub⟩ := hrg
      have := nodup_le hnd hsub
      have := CL.dn_le q
      omega
    have hnl : n ≤ 100 := by have := HN.out; have := hfs_len q vs; omega
    have hsz6 := hxr.size
    go_wp2_with (first
      | (at_next; refine wpList_next_am _ rfl _ rfl m2 w6.heap.size q vs rfl hrg ?_ ?_)
      | go_in)
    · intro hperm
      have hown := HO.out
      have SA := SortAts_c (hfs q vs) B cb (w6.heap.size + 1) wr (by rw [← HN.out]; exact hown) (by rw [← HN.out]; omega)
      rw [← HN.out] at SA
      have HSA := Lib.hid SA
      have HPM := Lib.hid hperm
      clear SA hown hperm
      go_wp2_with (first
        | (go_at_call 49; (with_reducible refine HSA.out.mono ?_); rintro r w8 ⟨rfl, l', hlp, hls, S8, hg8⟩;
           (have hx8 : Ext w6 w8 := hxr.trans (grown_below hg8 hsz6 (fun g hg => by have := (HO.out.lt g (by cases B <;> exact hg)).1; omega))))
        | go_in)
      have hl' : l' = CL.hold q := CL.hold_sorted HPM.out hlp hls
      have hll : (CL.hold q).length = n := by rw [← hl', hlp.length_eq]; exact HN.out.symm
      obtain ⟨_, cb', hB, hcb, _⟩ := own_form HO.out
      injection hB with _ _ hB
      subst hB
      go_ret
      exact ⟨B, cb, by rw [hll]; rfl, by rw [← hl']; exact S8, by rw [hll]; exact hcb, hx6.tr hx8⟩
    · intro s' w8 hs1 hs2 hsl' hrg8 hlt8 ho8 hsz8 hen8
      have hx8 : Ext w6 w8 := hxr.only ho8 (Nat.le_refl _)
      have HSZ := Lib.hid hsz8
      clear hsz8
      have hown := own_only HO.out ho8 (fun e => by have := (HO.out.lt _ e).1; omega)
      have HFS := Lib.hid (hfs_snoc q vs s')
      have hne0 := am_ne0 (CL.held q s').m (CL.held q s').u
      have bA := Blk.new w8 23 #[.int .i64 (CL.held q s').m, .int .i64 (CL.held q s').u]
      obtain ⟨a0, a1⟩ := bA.c2
      cases hz : CL.zer (CL.held q s')
      · have hz' : CL.zer ⟨(CL.held q s').m, (CL.held q s').u⟩ = false := hz
        have SN := Sits.new (w8.alloc (.cells #[.int .i64 (CL.held q s').m, .int .i64 (CL.held q s').u] 23)) [.string ⟨s'.toArray⟩, .int .i64 (CL.held q s').m, .int .i64 (CL.held q s').u] 56
        rw [World.size_alloc] at SN
        rw [hz'] at hne0
        go_wp2_with (first
          | (at_builtin; refine wpList_append_sits _ rfl (.tmp 18) (.tmp 22) _ rfl (w6.heap.size + 1) 56 3 32 _ Try.underlying41 at_info rfl (by omega) _ _ _ rfl ((hown.alloc _).alloc _) _ _ _ [.string ⟨s'.toArray⟩, .int .i64 (CL.held q s').m, .int .i64 (CL.held q s').u] rfl rfl SN (atc_one ⟨s', CL.held q s'⟩) (by unfold maxLen; omega) (by omega) (by have := HSZ.out; simp; omega) ?_; intro v9 w9 ho9 hb9 hg9; (obtain ⟨B9, cb9, rfl, hc9, _⟩ := own_form ho9))
          | go_in)
        have hrow : ∀ g, (Value.slice B n cb).ownBlock = some g → w6.heap.size + 1 ≤ g := fun g hg => (hown.lt g hg).1
        have hgr : w8.grownBy w9 (Value.slice B n cb).ownBlock := grown_tr (grown_ext ((Ext.new _ _).tr (Ext.new _ _))) hg9 (.inl rfl)
        have hm2n : some m2 ≠ (Value.slice B n cb).ownBlock := fun e => by have := hrow m2 e.symm; omega
        have hrn : some w6.heap.size ≠ (Value.slice B n cb).ownBlock := fun e => by have := hrow _ e.symm; omega
        refine ⟨⟨vs ++ [s'], B9, n + 1, cb9, rfl, hrg8.kept hgr hm2n hrn, Lib.hid ?_, ?_, hx8.trans (grown_below hgr (by have := HSZ.out; omega) (fun g hg => by have := hrow g hg; omega))⟩, ?_⟩
        · rw [HFS.out, if_neg (by rw [hz]; decide), List.length_append, HN.out]; rfl
        · rw [HFS.out, if_neg (by rw [hz]; decide), ats_append]
          exact ho9
        · rw [rangeLeft_kept hgr hrg8.owns.lt hrg8.lt hm2n hrn]
          exact hlt8
      · have hz' : CL.zer ⟨(CL.held q s').m, (CL.held q s').u⟩ = true := hz
        rw [hz'] at hne0
        go_wp2_with fail
        have hgr : w8.grownBy _ none := grown_ext (Ext.new w8 (.cells #[.int .i64 (CL.held q s').m, .int .i64 (CL.held q s').u] 23))
        refine ⟨⟨vs ++ [s'], B, n, cb, rfl, hrg8.kept hgr (by simp) (by simp), Lib.hid ?_, ?_, hx8.tr (Ext.new _ _)⟩, ?_⟩
        · rw [HFS.out, if_pos hz]; exact HN.out
        · rw [HFS.out, if_pos hz]; exact hown.alloc _
        · rw [rangeLeft_kept hgr hrg8.owns.lt hrg8.lt (by simp) (by simp)]
          exact hlt8
end Go.Proofs.Ytaebindbadfaaaa
