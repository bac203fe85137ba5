
/- The walks of the reference's text, FormatExpr, Format. -/
import Derived.Test.YtlfnpkjfnafeaaaDoorDc
import Derived.Test.YtlfnpkjfnafeaaaDoorZ10
namespace Go.Proofs.YtlfnpkjfnafeaaaDoor
open Go.RowKit
set_option linter.unusedVariables false
set_option linter.unusedSimpArgs false
set_option maxRecDepth 100000
theorem bytes_add (a b : List UInt8) : (⟨a.toArray⟩ : ByteArray) ++ ⟨b.toArray⟩ = ⟨(a ++ b).toArray⟩ := bytes_append a b
set_option maxHeartbeats 1600000 in
theorem clusterlocksref07.text_atom (a : CL.At) (w : World) (A : Option Addr) (c : Nat) (hv : CL.vatom a = true) :
    Calls Tryd.prog 48 #[.agg #[.int .i64 0, .string ⟨a.n.toArray⟩, .int .i64 a.a.m, .int .i64 a.a.u, .slice A 0 c]] w fun r w' => r = .returned (.string ⟨(CL.atxt a).toArray⟩) ∧ Ext w w' := by
  have hlen : a.n.length ≤ 12 := by
    simp only [CL.vatom, Bool.and_eq_true] at hv
    cases hx : a.n with
    | nil => simp
    | cons c r => have := hv.1; rw [hx] at this; simp only [CL.vname, Bool.and_eq_true, decide_eq_true_eq] at this; simp only [List.length_cons]; omega
  simp only [CL.vatom, Bool.and_eq_true] at hv
  have huse := CL.usable_cases hv.2
  obtain ⟨nm, m, u⟩ := a
  simp only at hlen huse
  obtain ⟨bE, hx0⟩ := box1 w #[.int .i64 0, .string ⟨nm.toArray⟩, .int .i64 m, .int .i64 u, .slice A 0 c] 28
  obtain ⟨e0, e1, e2, e3, e4⟩ := bE.c5
  rcases huse with ⟨h1, h2, rfl⟩ | ⟨rfl, h2, h3⟩
  · have hm0 : (m == 0) = false := by simpa using h2
    have hft : CL.fmtA ⟨m, 0⟩ = CL.nm m := fmtA_m (by simp [CL.zer, h2])
    have hX : CL.atxt ⟨nm, ⟨m, 0⟩⟩ = nm ++ 58 :: CL.nm m := by unfold CL.atxt; rw [if_pos h2]
    have hnl : (CL.nm m).length ≤ 3 := by
      unfold CL.nm
      repeat' split
      all_goals simp
    have hX := Lib.hid hX
    go_enter Tryd.func48, Tryd.ntmps48
    go_wp2_with fail
    generalize (w.alloc (.cells #[.int .i64 0, .string ⟨nm.toArray⟩, .int .i64 m, .int .i64 0, .slice A 0 c] 28)) = W at *
    have q1 := ExtOf.cell e1
    have q2 := ExtOf.cell e2
    have q3 := ExtOf.cell e3
    have HC := Lib.hid (fun x : ExtOf W => clusterlocksref04.Format_c m 0 x.val)
    rw [hft] at HC
    generalize CL.nm m = t at *
    have g1 : ¬ (9223372036854775807 < nm.length + 1) := by omega
    have g2 : ¬ (9223372036854775807 < nm.length + 1 + t.length) := by omega
    have a1 : (⟨nm.toArray⟩ : ByteArray) ++ ⟨#[58]⟩ = ⟨(nm ++ [58]).toArray⟩ := bytes_add nm [58]
    have a2 : (⟨(nm ++ [58]).toArray⟩ : ByteArray) ++ ⟨t.toArray⟩ = ⟨(nm ++ [58] ++ t).toArray⟩ := bytes_add _ _
    refine wp_region_ext_lit (by kernel_rfl) (by kernel_rfl) ?_
    repeat (go_big_quiet_step ((go_at_call 79; exact xqX (HC.out _))))
    refine wpQuiet_nil ?_
    intro wq hw'
    obtain ⟨⟨wq', hxq⟩, hw''⟩ := hw'
    subst hw''
    go_wp2
    go_ret
    refine ⟨?_, hx0.tr hxq⟩
    rw [hX.out]; simp
  · have hft : CL.fmtA ⟨0, u⟩ = 42 :: CL.dg1 u := fmtA_u (by simp [CL.zer]; omega) (by omega) h2 h3
    have hX : CL.atxt ⟨nm, ⟨0, u⟩⟩ = nm ++ 42 :: CL.dg1 u := by unfold CL.atxt; rw [if_neg (by simp)]
    have hX := Lib.hid hX
    go_enter Tryd.func48, Tryd.ntmps48
    go_wp2_with fail
    generalize (w.alloc (.cells #[.int .i64 0, .string ⟨nm.toArray⟩, .int .i64 0, .int .i64 u, .slice A 0 c] 28)) = W at *
    have q1 := ExtOf.cell e1
    have q2 := ExtOf.cell e2
    have q3 := ExtOf.cell e3
    have HC := Lib.hid (fun x : ExtOf W => clusterlocksref04.Format_c 0 u x.val)
    rw [hft] at HC
    have hl1 : (42 :: CL.dg1 u).length = 2 := rfl
    generalize 42 :: CL.dg1 u = t at *
    have g2 : ¬ (9223372036854775807 < nm.length + t.length) := by omega
    have a2 : (⟨nm.toArray⟩ : ByteArray) ++ ⟨t.toArray⟩ = ⟨(nm ++ t).toArray⟩ := bytes_add _ _
    refine wp_region_ext_lit (by kernel_rfl) (by kernel_rfl) ?_
    repeat (go_big_quiet_step ((go_at_call 79; exact xqX (HC.out _))))
    refine wpQuiet_nil ?_
    intro wq hw'
    obtain ⟨⟨wq', hxq⟩, hw''⟩ := hw'
    subst hw''
    go_wp2
    go_ret
    refine ⟨?_, hx0.tr hxq⟩
    rw [hX.out]; try simp
set_option maxHeartbeats 3200000 in
theorem clusterlocksref07.text_c (e : CL.Ex) (hw : CL.Wf e) : ∀ (w : World) (B : Nat) (cs : List Value), Rd w B e cs → B ≤ w.heap.size → 20 * CL.size e ≤ 100000 →
    Calls Tryd.prog 48 #[.agg cs.toArray] w fun r w' => r = .returned (.string ⟨(CL.fmtE e).toArray⟩) ∧ Ext w w' := by
  induction hw with
  | atom a ha =>
    intro w B cs hR hB hl
    obtain ⟨A, c, rfl, hn, _, _, _⟩ := hR.inv
    simp only [CL.fmtE, if_true]
    exact clusterlocksref07.text_atom a w A c ha
  | group k kids hne h1 h2 h3 hkids ih =>
    intro w B cs hR hB hl
    obtain ⟨A, c, rfl, hn, _, _, hK⟩ := hR.inv
    simp only [CL.size] at hl
    obtain ⟨bE, hx0⟩ := box1 w #[.int .i64 k, .string ⟨#[]⟩, .int .i64 0, .int .i64 0, .slice A kids.length c] 28
    obtain ⟨e0, e1, e2, e3, e4⟩ := bE.c5
    have hIH := Lib.hid ih
    have hgl := ghead_len k kids.length h1 (by omega)
    have hz0 := hx0.size
    have hD := fun w' => clusterlocksref02.Decimal_c k (by omega) (by omega) w'
    have hdl : (CL.digits k.toNat).length ≤ 4 := digits_len (by omega) (by omega)
    have hk0 : (k == 0) = false := beq_eq_false_iff_ne.2 (by omega)
    clear ih hR
    simp only [CL.noAt] at *
    have g1 : ¬ (9223372036854775807 < (CL.digits k.toNat).length + 5) := by omega
    have a1 : (⟨(CL.digits k.toNat).toArray⟩ : ByteArray) ++ ⟨#[32, 111, 102, 32, 40]⟩ = ⟨(CL.digits k.toNat ++ [32, 111, 102, 32, 40]).toArray⟩ := bytes_add _ _
    by_cases hka : k = (kids.length : Int)
    · subst hka
      have hg : CL.ghead (kids.length : Int) kids.length = [97, 108, 108, 40] := if_pos rfl
      go_enter Tryd.func48, Tryd.ntmps48
      go_wp2_with (go_at_call 49; refine (hD _).mono ?_; rintro r w1 ⟨rfl, hx1⟩; have HS := Lib.hid (Ext.rfl' (a := w1)); replace hx0 := hx0.tr hx1; replace bE := bE.ext hx1; clear e0 e1 e2 e3 e4; obtain ⟨e0, e1, e2, e3, e4⟩ := bE.c5)
      have HG := Lib.hid hg
      clear hg
      go_loopw [3, 4] (fun s i wr => ∃ j : Nat, j ≤ kids.length ∧ i = .int .i64 j ∧ s = .string ⟨(CL.ghead (kids.length : Int) kids.length ++ CL.sj ((kids.take j).map CL.fmtE)).toArray⟩ ∧ Ext w1 wr) (fun _ i _ => kids.length - (intOf i).toNat)
      case atStart => exact ⟨0, by omega, rfl, by rw [HG.out]; simp [CL.sj], HS.out⟩
      case round =>
        obtain ⟨j, hj, rfl, rfl, hx⟩ := hrel
        have e4 : wr.cell? ⟨w.heap.size, 4, none⟩ = some (.slice A kids.length c) := (bE.ext hx).cell 4
        have hw1 := hx0.size
        have hwr := hx.size
        have hbs := (bE.ext hx).lt
        have hwfk := sj_take_len hkids j
        have hall := sizeL_all kids j
        by_cases hlt : j < kids.length
        · have hKr := hK.below ((hx0.tr hx).mono hB)
          obtain ⟨b, o, k1, s1, m1, u1, A1, l1, x1, rfl, hbB, hR, c0, c1, c2, c3, c4⟩ := hKr.get hlt
          have hst := sizeL_take kids hlt
          have hm := List.getElem_mem hlt
          have hlk := CL.fmtE_len (hkids _ hm)
          have hsn : kids.take (j + 1) = kids.take j ++ [kids[j]] := List.take_succ_eq_append_getElem hlt
          have hIHe := fun w' (hx' : Ext wr w') => hIH.out kids[j] hm w' B _ (hR.ext hx' (by omega)) (by have := hx'.size; omega) (by omega)
          have hsj : CL.sj ((kids.take (j + 1)).map CL.fmtE) = CL.sj ((kids.take j).map CL.fmtE) ++ ((if (kids.take j).map CL.fmtE = [] then [] else [44, 32]) ++ CL.fmtE kids[j]) := by
            rw [hsn, List.map_append, List.map_cons, List.map_nil, CL.sj_snoc]
          have hlts : (j : Int) < (kids.length : Int) := by omega
          generalize kids[j] = ek at *
          have hgl' := hgl
          by_cases hj0 : j = 0
          · subst hj0
            simp only [Nat.zero_mul, Nat.add_zero] at c0 c1 c2 c3 c4
            simp only [List.take_zero, List.map_nil, CL.sj, if_true, List.nil_append, List.append_nil, List.length_nil] at hsj hwfk hst ⊢
            have hsj := Lib.hid hsj
            generalize CL.ghead (kids.length : Int) kids.length = gh at *
            generalize CL.fmtE ek = tk at *
            have g1 : ¬ (9223372036854775807 < gh.length + tk.length) := by omega
            have a1 : (⟨gh.toArray⟩ : ByteArray) ++ ⟨tk.toArray⟩ = ⟨(gh ++ tk).toArray⟩ := bytes_add _ _
            go_wp2_with (go_at_call 48; refine (hIHe _ Ext.rfl').mono ?_; rintro r w3 ⟨rfl, hx3⟩)
            go_roundw
            case rel => exact ⟨1, by omega, by simp, by rw [hsj.out], hx.tr hx3⟩
            case measure => simp [intOf]; omega
          · have hj1 : 0 < j := by omega
            have hnn : (kids.take j).map CL.fmtE ≠ [] := by
              intro he
              have := congrArg List.length he
              simp only [List.length_map, List.length_take, List.length_nil] at this
              omega
            rw [if_neg hnn] at hsj
            have hsj := Lib.hid hsj
            have hjd : decide (0 < j) = true := by simp; omega
            generalize hghd : CL.ghead (kids.length : Int) kids.length ++ CL.sj ((kids.take j).map CL.fmtE) = gh at *
            have hghl : gh.length ≤ 100 + 20 * CL.sizeL kids := by rw [← hghd]; simp only [List.length_append]; omega
            have hghd := Lib.hid hghd
            generalize CL.fmtE ek = tk at *
            have g1 : ¬ (9223372036854775807 < gh.length + 2) := by omega
            have g2 : ¬ (9223372036854775807 < gh.length + 2 + tk.length) := by omega
            have a1 : (⟨gh.toArray⟩ : ByteArray) ++ ⟨#[44, 32]⟩ = ⟨(gh ++ [44, 32]).toArray⟩ := bytes_add _ [44, 32]
            have a2 : (⟨(gh ++ [44, 32]).toArray⟩ : ByteArray) ++ ⟨tk.toArray⟩ = ⟨(gh ++ [44, 32] ++ tk).toArray⟩ := bytes_add _ _
            go_wp2_with (go_at_call 48; refine (hIHe _ Ext.rfl').mono ?_; rintro r w3 ⟨rfl, hx3⟩)
            go_roundw
            case rel => exact ⟨j + 1, by omega, by simp, by rw [hsj.out, ← List.append_assoc, hghd.out]; simp, hx.tr hx3⟩
            case measure => simp [intOf]; omega
        · have hlts : decide ((j : Int) < (kids.length : Int)) = false := by simp; omega
          obtain rfl : j = kids.length := by omega
          rw [List.take_length] at hwfk ⊢
          have hE := Lib.hid (show CL.fmtE (.mk (kids.length : Int) ⟨[], ⟨0, 0⟩⟩ kids) = CL.ghead (kids.length : Int) kids.length ++ CL.sj (kids.map CL.fmtE) ++ [41] by simp only [CL.fmtE, if_neg hne, CL.fmtK_map])
          generalize hghd : CL.ghead (kids.length : Int) kids.length ++ CL.sj (kids.map CL.fmtE) = gh at *
          have hghl : gh.length ≤ 100 + 20 * CL.sizeL kids := by rw [← hghd]; simp only [List.length_append]; omega
          have g1 : ¬ (9223372036854775807 < gh.length + 1) := by omega
          have a1 : (⟨gh.toArray⟩ : ByteArray) ++ ⟨#[41]⟩ = ⟨(gh ++ [41]).toArray⟩ := bytes_add _ [41]
          go_wp2
          go_ret
          refine ⟨?_, hx0.tr hx⟩
          rw [hE.out]
          try simp
    · by_cases hkb : k = 1
      · subst hkb
        have hg : CL.ghead 1 kids.length = [97, 110, 121, 40] := (if_neg hka).trans (if_pos rfl)
        have hka' : ((1 : Int) == (kids.length : Int)) = false := by simpa using hka
        go_enter Tryd.func48, Tryd.ntmps48
        go_wp2_with (go_at_call 49; refine (hD _).mono ?_; rintro r w1 ⟨rfl, hx1⟩; have HS := Lib.hid (Ext.rfl' (a := w1)); replace hx0 := hx0.tr hx1; replace bE := bE.ext hx1; clear e0 e1 e2 e3 e4; obtain ⟨e0, e1, e2, e3, e4⟩ := bE.c5)
        have HG := Lib.hid hg
        clear hg
        go_loopw [3, 4] (fun s i wr => ∃ j : Nat, j ≤ kids.length ∧ i = .int .i64 j ∧ s = .string ⟨(CL.ghead 1 kids.length ++ CL.sj ((kids.take j).map CL.fmtE)).toArray⟩ ∧ Ext w1 wr) (fun _ i _ => kids.length - (intOf i).toNat)
        case atStart => exact ⟨0, by omega, rfl, by rw [HG.out]; simp [CL.sj], HS.out⟩
        case round =>
          obtain ⟨j, hj, rfl, rfl, hx⟩ := hrel
          have e4 : wr.cell? ⟨w.heap.size, 4, none⟩ = some (.slice A kids.length c) := (bE.ext hx).cell 4
          have hw1 := hx0.size
          have hwr := hx.size
          have hbs := (bE.ext hx).lt
          have hwfk := sj_take_len hkids j
          have hall := sizeL_all kids j
          by_cases hlt : j < kids.length
          · have hKr := hK.below ((hx0.tr hx).mono hB)
            obtain ⟨b, o, k1, s1, m1, u1, A1, l1, x1, rfl, hbB, hR, c0, c1, c2, c3, c4⟩ := hKr.get hlt
            have hst := sizeL_take kids hlt
            have hm := List.getElem_mem hlt
            have hlk := CL.fmtE_len (hkids _ hm)
            have hsn : kids.take (j + 1) = kids.take j ++ [kids[j]] := List.take_succ_eq_append_getElem hlt
            have hIHe := fun w' (hx' : Ext wr w') => hIH.out kids[j] hm w' B _ (hR.ext hx' (by omega)) (by have := hx'.size; omega) (by omega)
            have hsj : CL.sj ((kids.take (j + 1)).map CL.fmtE) = CL.sj ((kids.take j).map CL.fmtE) ++ ((if (kids.take j).map CL.fmtE = [] then [] else [44, 32]) ++ CL.fmtE kids[j]) := by
              rw [hsn, List.map_append, List.map_cons, List.map_nil, CL.sj_snoc]
            have hlts : (j : Int) < (kids.length : Int) := by omega
            generalize kids[j] = ek at *
            have hgl' := hgl
            by_cases hj0 : j = 0
            · subst hj0
              simp only [Nat.zero_mul, Nat.add_zero] at c0 c1 c2 c3 c4
              simp only [List.take_zero, List.map_nil, CL.sj, if_true, List.nil_append, List.append_nil, List.length_nil] at hsj hwfk hst ⊢
              have hsj := Lib.hid hsj
              generalize CL.ghead 1 kids.length = gh at *
              generalize CL.fmtE ek = tk at *
              have g1 : ¬ (9223372036854775807 < gh.length + tk.length) := by omega
              have a1 : (⟨gh.toArray⟩ : ByteArray) ++ ⟨tk.toArray⟩ = ⟨(gh ++ tk).toArray⟩ := bytes_add _ _
              go_wp2_with (go_at_call 48; refine (hIHe _ Ext.rfl').mono ?_; rintro r w3 ⟨rfl, hx3⟩)
              go_roundw
              case rel => exact ⟨1, by omega, by simp, by rw [hsj.out], hx.tr hx3⟩
              case measure => simp [intOf]; omega
            · have hj1 : 0 < j := by omega
              have hnn : (kids.take j).map CL.fmtE ≠ [] := by
                intro he
                have := congrArg List.length he
                simp only [List.length_map, List.length_take, List.length_nil] at this
                omega
              rw [if_neg hnn] at hsj
              have hsj := Lib.hid hsj
              have hjd : decide (0 < j) = true := by simp; omega
              generalize hghd : CL.ghead 1 kids.length ++ CL.sj ((kids.take j).map CL.fmtE) = gh at *
              have hghl : gh.length ≤ 100 + 20 * CL.sizeL kids := by rw [← hghd]; simp only [List.length_append]; omega
              have hghd := Lib.hid hghd
              generalize CL.fmtE ek = tk at *
              have g1 : ¬ (9223372036854775807 < gh.length + 2) := by omega
              have g2 : ¬ (9223372036854775807 < gh.length + 2 + tk.length) := by omega
              have a1 : (⟨gh.toArray⟩ : ByteArray) ++ ⟨#[44, 32]⟩ = ⟨(gh ++ [44, 32]).toArray⟩ := bytes_add _ [44, 32]
              have a2 : (⟨(gh ++ [44, 32]).toArray⟩ : ByteArray) ++ ⟨tk.toArray⟩ = ⟨(gh ++ [44, 32] ++ tk).toArray⟩ := bytes_add _ _
              go_wp2_with (go_at_call 48; refine (hIHe _ Ext.rfl').mono ?_; rintro r w3 ⟨rfl, hx3⟩)
              go_roundw
              case rel => exact ⟨j + 1, by omega, by simp, by rw [hsj.out, ← List.append_assoc, hghd.out]; simp, hx.tr hx3⟩
              case measure => simp [intOf]; omega
          · have hlts : decide ((j : Int) < (kids.length : Int)) = false := by simp; omega
            obtain rfl : j = kids.length := by omega
            rw [List.take_length] at hwfk ⊢
            have hE := Lib.hid (show CL.fmtE (.mk 1 ⟨[], ⟨0, 0⟩⟩ kids) = CL.ghead 1 kids.length ++ CL.sj (kids.map CL.fmtE) ++ [41] by simp only [CL.fmtE, if_neg hne, CL.fmtK_map])
            generalize hghd : CL.ghead 1 kids.length ++ CL.sj (kids.map CL.fmtE) = gh at *
            have hghl : gh.length ≤ 100 + 20 * CL.sizeL kids := by rw [← hghd]; simp only [List.length_append]; omega
            have g1 : ¬ (9223372036854775807 < gh.length + 1) := by omega
            have a1 : (⟨gh.toArray⟩ : ByteArray) ++ ⟨#[41]⟩ = ⟨(gh ++ [41]).toArray⟩ := bytes_add _ [41]
            go_wp2
            go_ret
            refine ⟨?_, hx0.tr hx⟩
            rw [hE.out]
            try simp
      · have hg : CL.ghead k kids.length = CL.digits k.toNat ++ [32, 111, 102, 32, 40] := (if_neg hka).trans (if_neg hkb)
        have hka' : (k == (kids.length : Int)) = false := by simpa using hka
        have hkb' : (k == 1) = false := by simpa using hkb
        go_enter Tryd.func48, Tryd.ntmps48
        go_wp2_with (go_at_call 49; refine (hD _).mono ?_; rintro r w1 ⟨rfl, hx1⟩; have HS := Lib.hid (Ext.rfl' (a := w1)); replace hx0 := hx0.tr hx1; replace bE := bE.ext hx1; clear e0 e1 e2 e3 e4; obtain ⟨e0, e1, e2, e3, e4⟩ := bE.c5)
        have HG := Lib.hid hg
        clear hg
        go_loopw [3, 4] (fun s i wr => ∃ j : Nat, j ≤ kids.length ∧ i = .int .i64 j ∧ s = .string ⟨(CL.ghead k kids.length ++ CL.sj ((kids.take j).map CL.fmtE)).toArray⟩ ∧ Ext w1 wr) (fun _ i _ => kids.length - (intOf i).toNat)
        case atStart => exact ⟨0, by omega, rfl, by rw [HG.out]; simp [CL.sj], HS.out⟩
        case round =>
          obtain ⟨j, hj, rfl, rfl, hx⟩ := hrel
          have e4 : wr.cell? ⟨w.heap.size, 4, none⟩ = some (.slice A kids.length c) := (bE.ext hx).cell 4
          have hw1 := hx0.size
          have hwr := hx.size
          have hbs := (bE.ext hx).lt
          have hwfk := sj_take_len hkids j
          have hall := sizeL_all kids j
          by_cases hlt : j < kids.length
          · have hKr := hK.below ((hx0.tr hx).mono hB)
            obtain ⟨b, o, k1, s1, m1, u1, A1, l1, x1, rfl, hbB, hR, c0, c1, c2, c3, c4⟩ := hKr.get hlt
            have hst := sizeL_take kids hlt
            have hm := List.getElem_mem hlt
            have hlk := CL.fmtE_len (hkids _ hm)
            have hsn : kids.take (j + 1) = kids.take j ++ [kids[j]] := List.take_succ_eq_append_getElem hlt
            have hIHe := fun w' (hx' : Ext wr w') => hIH.out kids[j] hm w' B _ (hR.ext hx' (by omega)) (by have := hx'.size; omega) (by omega)
            have hsj : CL.sj ((kids.take (j + 1)).map CL.fmtE) = CL.sj ((kids.take j).map CL.fmtE) ++ ((if (kids.take j).map CL.fmtE = [] then [] else [44, 32]) ++ CL.fmtE kids[j]) := by
              rw [hsn, List.map_append, List.map_cons, List.map_nil, CL.sj_snoc]
            have hlts : (j : Int) < (kids.length : Int) := by omega
            generalize kids[j] = ek at *
            have hgl' := hgl
            by_cases hj0 : j = 0
            · subst hj0
              simp only [Nat.zero_mul, Nat.add_zero] at c0 c1 c2 c3 c4
              simp only [List.take_zero, List.map_nil, CL.sj, if_true, List.nil_append, List.append_nil, List.length_nil] at hsj hwfk hst ⊢
              have hsj := Lib.hid hsj
              generalize CL.ghead k kids.length = gh at *
              generalize CL.fmtE ek = tk at *
              have g1 : ¬ (9223372036854775807 < gh.length + tk.length) := by omega
              have a1 : (⟨gh.toArray⟩ : ByteArray) ++ ⟨tk.toArray⟩ = ⟨(gh ++ tk).toArray⟩ := bytes_add _ _
              go_wp2_with (go_at_call 48; refine (hIHe _ Ext.rfl').mono ?_; rintro r w3 ⟨rfl, hx3⟩)
              go_roundw
              case rel => exact ⟨1, by omega, by simp, by rw [hsj.out], hx.tr hx3⟩
              case measure => simp [intOf]; omega
            · have hj1 : 0 < j := by omega
              have hnn : (kids.take j).map CL.fmtE ≠ [] := by
                intro he
                have := congrArg List.length he
                simp only [List.length_map, List.length_take, List.length_nil] at this
                omega
              rw [if_neg hnn] at hsj
              have hsj := Lib.hid hsj
              have hjd : decide (0 < j) = true := by simp; omega
              generalize hghd : CL.ghead k kids.length ++ CL.sj ((kids.take j).map CL.fmtE) = gh at *
              have hghl : gh.length ≤ 100 + 20 * CL.sizeL kids := by rw [← hghd]; simp only [List.length_append]; omega
              have hghd := Lib.hid hghd
              generalize CL.fmtE ek = tk at *
              have g1 : ¬ (9223372036854775807 < gh.length + 2) := by omega
              have g2 : ¬ (9223372036854775807 < gh.length + 2 + tk.length) := by omega
              have a1 : (⟨gh.toArray⟩ : ByteArray) ++ ⟨#[44, 32]⟩ = ⟨(gh ++ [44, 32]).toArray⟩ := bytes_add _ [44, 32]
              have a2 : (⟨(gh ++ [44, 32]).toArray⟩ : ByteArray) ++ ⟨tk.toArray⟩ = ⟨(gh ++ [44, 32] ++ tk).toArray⟩ := bytes_add _ _
              go_wp2_with (go_at_call 48; refine (hIHe _ Ext.rfl').mono ?_; rintro r w3 ⟨rfl, hx3⟩)
              go_roundw
              case rel => exact ⟨j + 1, by omega, by simp, by rw [hsj.out, ← List.append_assoc, hghd.out]; simp, hx.tr hx3⟩
              case measure => simp [intOf]; omega
          · have hlts : decide ((j : Int) < (kids.length : Int)) = false := by simp; omega
            obtain rfl : j = kids.length := by omega
            rw [List.take_length] at hwfk ⊢
            have hE := Lib.hid (show CL.fmtE (.mk k ⟨[], ⟨0, 0⟩⟩ kids) = CL.ghead k kids.length ++ CL.sj (kids.map CL.fmtE) ++ [41] by simp only [CL.fmtE, if_neg hne, CL.fmtK_map])
            generalize hghd : CL.ghead k kids.length ++ CL.sj (kids.map CL.fmtE) = gh at *
            have hghl : gh.length ≤ 100 + 20 * CL.sizeL kids := by rw [← hghd]; simp only [List.length_append]; omega
            have g1 : ¬ (9223372036854775807 < gh.length + 1) := by omega
            have a1 : (⟨gh.toArray⟩ : ByteArray) ++ ⟨#[41]⟩ = ⟨(gh ++ [41]).toArray⟩ := bytes_add _ [41]
            go_wp2
            go_ret
            refine ⟨?_, hx0.tr hx⟩
            rw [hE.out]
            try simp
end Go.Proofs.YtlfnpkjfnafeaaaDoor
