
/- The walks of the lexer, fifth part: all tokens, by the program and by the reference. -/
import Derived.Test.YtklpfhkcbhkofaaLw4
import Derived.Test.YtklpfhkcbhkofaaLx2
namespace Go.Proofs.Ytklpfhkcbhkofaa
open Go.RowKit
/-- what Tokens leaves -/
def TokPost (s : List UInt8) (w : World) (e : Ending) (w' : World) : Prop :=
  ∃ v, e = .returned (.tuple #[v, .int .i64 (CL.tokens s).2.1, .int .i64 (CL.tokens s).2.2]) ∧ w'.ownsRow w.heap.size 32 4 v (CL.tokens s).1.length (tks (CL.tokens s).1) ∧ Ext w w'
theorem tokPost_err {s : List UInt8} {w w' : World} {a k : Int} (h : CL.tokens s = ([], a, k)) (hx : Ext w w') : TokPost s w (.returned (.tuple #[.slice none 0 0, .int .i64 a, .int .i64 k])) w' := by
  unfold TokPost; rw [h]; exact ⟨_, rfl, World.ownsRow_nil _ _ _ _, hx⟩
theorem tokPost_ok {s : List UInt8} {w w' : World} {acc : List CL.Tk} {v : Value} {tok : CL.Tk} (h : CL.tokens s = (acc ++ [tok], 0, 0)) (ho : w'.ownsRow w.heap.size 32 4 v (acc.length + 1) (tks acc ++ tkc tok)) (hx : Ext w w') :
    TokPost s w (.returned (.tuple #[v, .int .i64 0, .int .i64 0])) w' := by
  unfold TokPost; rw [h]; exact ⟨_, rfl, by rw [tks_snoc, List.length_append]; exact ho, hx⟩
set_option maxHeartbeats 1600000 in
theorem Tokens_c (s : List UInt8) (w : World) (hs : s.length ≤ maxLen) : Calls Try.prog 9 #[.string ⟨s.toArray⟩] w (TokPost s w) := by
  unfold maxLen at hs
  by_cases hlong : 1024 < s.length
  · have HT := Lib.hid (show CL.tokens s = ([], 0, 3) by simp [CL.tokens, hlong])
    go_enter Try.func9, Try.ntmps9
    go_wp2
    go_ret3
    exact tokPost_err HT.out (Below.refl _ _)
  · have HT := Lib.hid (show CL.tokens s = CL.tokF s 0 [] by simp [CL.tokens, hlong])
    have hs1 : s.length ≤ 1024 := by omega
    go_enter Try.func9, Try.ntmps9
    go_wp2
    go_loopw [] (fun wr => ∃ (i : Nat) (acc : List CL.Tk) (tv : Value), i ≤ s.length ∧ acc.length ≤ i ∧ Blk wr w.heap.size 39 (cur s i [tv]) ∧ wr.ownsRow w.heap.size 32 4 tv acc.length (tks acc) ∧ Below w.heap.size w wr ∧ Hid (CL.tokens s = CL.tokF s i acc))
      (fun wr => match wr.cell? ⟨w.heap.size, 1, none⟩ with | some (.int _ n) => s.length - n.toNat | _ => 0)
    case atStart => exact ⟨0, [], .slice none 0 0, by omega, by simp, Blk.new _ _ _, World.ownsRow_nil _ _ _ _, (Below.refl _ _).alloc (Nat.le_refl _) _, HT⟩
    case round =>
      obtain ⟨i, acc, tv, hi, ha, hb, hown, hx, HI⟩ := hrel
      obtain ⟨wo, rfl⟩ : ∃ wo : World, wo = wr := ⟨_, rfl⟩
      have h1 : wo.cell? ⟨w.heap.size, 1, none⟩ = some (.int .i64 i) := hb.cell 1
      have HH := Lib.hid h1
      have hsp := CL.spanN_le CL.spc (s.drop i)
      simp only [List.length_drop] at hsp
      have HI2 : CL.tokens s = CL.tokF s (i + CL.spanN CL.spc (s.drop i)) acc := HI.out.trans (CL.tokF_skip (by omega) (by omega) (fun k h1 h2 h3 => CL.span_in h1 h2 h3))
      have HST := Lib.hid (@CL.span_stop CL.spc s i)
      clear h1
      go_wp2_with fail
      refine (run_Space w.heap.size 39 s i [tv] _ (by unfold maxLen; omega) hi hb).mono ?_
      rintro e w1 ⟨rfl, hb1, ho1⟩
      have hown1 := own_only hown ho1 (own_ne hown hb (by decide))
      have hx1 := below_only hx ho1 (Nat.le_refl _) hx.size
      generalize CL.spanN CL.spc (s.drop i) = n at *
      generalize hj : i + n = j at *
      have HJ := Lib.hid hj
      have HI3 := Lib.hid HI2
      have hij : i ≤ j := by omega
      have hjl : j ≤ s.length := by omega
      clear hj HI2 HI hb hown ho1 hx
      by_cases hlt : j < s.length
      · have hnsp := HST.out hlt
        have e1 : w1.cell? ⟨w.heap.size, 1, none⟩ = some (.int .i64 j) := hb1.cell 1
        go_wp2_with fail
        refine (more_c w.heap.size 39 s j [tv] _ hb1).mono ?_
        rintro e w2 ⟨rfl, m, rfl⟩
        rw [decide_eq_true hlt]
        go_wp2_with fail
        refine (scan_c w.heap.size w.heap.size 39 s j tv acc _ hs1 hlt (by decide) (Nat.le_refl _) (hb1.drewN m) (own_drewN hown1 m) (by omega)).mono ?_
        rintro e w3 ⟨rfl, hok, hbel⟩
        have hx3 := (below_drewN hx1 m).trans hbel
        by_cases ho : (CL.one (s.drop j) j).1 = 0
        · have hoB : ((CL.one (s.drop j) j).1 != 0) = false := by simp [ho]
          obtain ⟨tv', hb3, hown3, _⟩ := hok ho
          have hlen := CL.one_len ho
          simp only [List.length_drop] at hlen
          have HT2 := Lib.hid (HI3.out.trans (CL.tokF_tok hlt hnsp ho))
          have hz : (CL.one (s.drop j) j).1 = 0 := ho
          rw [hz] at *
          clear ho hok hz
          generalize (CL.one (s.drop j) j).2.2 = n2 at *
          generalize (CL.one (s.drop j) j).2.1 = tok at *
          have h3 : w3.cell? ⟨w.heap.size, 1, none⟩ = some (.int .i64 ((j + n2 : Nat) : Int)) := hb3.cell 1
          have H3 := Lib.hid h3
          clear h3
          go_wp2
          refine ⟨⟨j + n2, acc ++ [tok], tv', by omega, by simp; omega, hb3, hown3, hx3, HT2⟩, ?_⟩
          rw [H3.out, HH.out]
          simp; omega
        · have hoB : ((CL.one (s.drop j) j).1 != 0) = true := by simpa using ho
          have HT2 := Lib.hid (HI3.out.trans (CL.tokF_err hlt hnsp ho))
          clear hok
          generalize (CL.one (s.drop j) j).1 = k at *
          clear ho
          go_wp2
          go_ret3
          exact tokPost_err HT2.out hx3
      · obtain rfl : j = s.length := by omega
        have HT2 := Lib.hid (HI3.out.trans (CL.tokF_end rfl))
        go_wp2_with fail
        refine (more_f w.heap.size 39 s s.length [tv] _ (by omega) hb1).mono ?_
        rintro e w2 ⟨rfl, m, rfl⟩
        have e2 : w1.cell? ⟨w.heap.size, 2, none⟩ = some tv := hb1.cell 2
        have hl1 := hx1.size
        go_wp2_with (at_builtin; refine wpList_append_sits _ rfl (.tmp 28) (.tmp 32) _ rfl w.heap.size 32 4 40 _ Try.underlying22 tok_info rfl (by omega) _ _ _ rfl ((own_drewN hown1 m).alloc _) _ _ _ [.int .i64 5, .string ⟨#[]⟩, .int .i64 0, .int .i64 s.length] rfl rfl ?_ ?_ ?_ ?_ ?_ ?_)
        · exact Sits.new (w1.drewN m) _ _
        · simp [Value.oneCell']
        · simp only [maxLen]; omega
        · omega
        · simp; omega
        · intro v' w' hown' hb' _
          have hx4 := ((below_drewN hx1 m).alloc hl1 (.cells #[.int .i64 5, .string ⟨#[]⟩, .int .i64 0, .int .i64 s.length] 32)).trans hb'
          clear hb'
          go_wp2
          go_ret3
          exact tokPost_ok HT2.out hown' hx4
theorem tks_get {l : List CL.Tk} {k : Nat} (h : k < l.length) (j : Nat) (hj : j < 4) : (tks l)[k * 4 + j]? = (tkc l[k])[j]? := by
  unfold tks
  induction l generalizing k with
  | nil => simp at h
  | cons t l ih =>
    cases k with
    | zero =>
      rw [List.flatMap_cons, List.getElem?_append_left (by simp [tkc]; omega)]; simp
    | succ k =>
      rw [List.flatMap_cons, List.getElem?_append_right (by simp [tkc]; omega)]
      have := ih (k := k) (by simpa using h)
      simp only [List.getElem_cons_succ, tkc, List.length_cons, List.length_nil] at this ⊢
      rw [← this]; congr 1; omega
theorem tok_cells {w : World} {l : List CL.Tk} {p o k : Nat} (hc : ∀ j u, (tks l)[j]? = some u → w.cell? ⟨p, o + j, none⟩ = some u) (h : k < l.length) :
    w.cell? ⟨p, o + k * 4, none⟩ = some (.int .i64 l[k].kind) ∧ w.cell? ⟨p, o + k * 4 + 1, none⟩ = some (.string ⟨l[k].text.toArray⟩) ∧ w.cell? ⟨p, o + k * 4 + 2, none⟩ = some (.int .i64 l[k].num) ∧ w.cell? ⟨p, o + k * 4 + 3, none⟩ = some (.int .i64 l[k].pos) := by
  refine ⟨?_, ?_, ?_, ?_⟩
  · exact hc (k * 4 + 0) _ (tks_get h 0 (by omega))
  · exact hc (k * 4 + 1) _ (tks_get h 1 (by omega))
  · exact hc (k * 4 + 2) _ (tks_get h 2 (by omega))
  · exact hc (k * 4 + 3) _ (tks_get h 3 (by omega))
theorem tok_eqIn (x y : CL.Tk) (W : World) : (Op.equalIn 10000 32 (.agg #[.int .i64 x.kind, .string ⟨x.text.toArray⟩, .int .i64 x.num, .int .i64 x.pos]) (.agg #[.int .i64 y.kind, .string ⟨y.text.toArray⟩, .int .i64 y.num, .int .i64 y.pos])).run Try.prog W = .ok (decide (x = y)) W := by
  have h1 : Try.prog.stoodInHeld 32 = false := by kernel_rfl
  rw [run_equalIn_struct (d := 9999) _ _ _ _ (by simp [Program.fieldsOf, Try.underlying32]) h1]
  simp [Program.fieldsOf, Try.underlying32, Op.eqFields, go_sem, Try.underlying3, Try.underlying9]
  obtain ⟨k, t, n, p⟩ := x
  obtain ⟨k', t', n', p'⟩ := y
  by_cases e1 : k = k' <;> by_cases e2 : t = t' <;> by_cases e3 : n = n' <;> by_cases e4 : p = p' <;> simp [e1, e2, e3, e4]
theorem tok_neq (x y : CL.Tk) (W : World) : (binOp .neq 32 (.agg #[.int .i64 x.kind, .string ⟨x.text.toArray⟩, .int .i64 x.num, .int .i64 x.pos]) (.agg #[.int .i64 y.kind, .string ⟨y.text.toArray⟩, .int .i64 y.num, .int .i64 y.pos])).run Try.prog W = .ok (.bool (!decide (x = y))) W := by
  rw [run_neq_struct, tok_eqIn]; rfl
theorem tok_eql (x y : CL.Tk) (W : World) : (binOp .eql 32 (.agg #[.int .i64 x.kind, .string ⟨x.text.toArray⟩, .int .i64 x.num, .int .i64 x.pos]) (.agg #[.int .i64 y.kind, .string ⟨y.text.toArray⟩, .int .i64 y.num, .int .i64 y.pos])).run Try.prog W = .ok (.bool (decide (x = y))) W := by
  rw [run_eql_struct, tok_eqIn]; rfl
theorem tok_guard : Try.prog.eqGuardType Try.prog.depth 32 = false := by kernel_rfl
theorem Same_c (a b : List CL.Tk) (A B : Option Addr) (c d : Nat) (w : World) (ha : a.length ≤ 2048) (hb : b.length ≤ 2048) (hA : Sits w A (tks a)) (hB : Sits w B (tks b)) :
    Calls Try.prog 12 #[.slice A a.length c, .slice B b.length d] w fun e w' => e = .returned (.bool (decide (a = b))) ∧ Ext w w' := by
  by_cases hl : a.length = b.length
  · have h1 : ((a.length : Int) != (b.length : Int)) = false := by simp [hl]
    go_enter Try.func12, Try.ntmps12
    go_wp2
    go_loopw [5] (fun i wr => ∃ k : Nat, k ≤ a.length ∧ i = .int .i64 k ∧ a.take k = b.take k ∧ Ext w wr) (fun i _ => a.length - (intOf i).toNat)
    case atStart => exact ⟨0, by omega, rfl, rfl, Ext.rfl'⟩
    case round =>
      obtain ⟨k, hk, rfl, he, hx⟩ := hrel
      obtain ⟨wo, rfl⟩ : ∃ wo : World, wo = wr := ⟨_, rfl⟩
      by_cases hlt : k < a.length
      · have hlt2 : k < b.length := by omega
        obtain ⟨p, o, rfl, hc⟩ := (hA.ext hx).get (by rw [tks_len]; omega)
        obtain ⟨p', o', rfl, hc'⟩ := (hB.ext hx).get (by rw [tks_len]; omega)
        obtain ⟨a0, a1, a2, a3⟩ := tok_cells hc hlt
        obtain ⟨b0, b1, b2, b3⟩ := tok_cells hc' hlt2
        have HE := Lib.hid he
        clear hc hc' he hA hB
        generalize hta : a[k] = x at *
        generalize htb : b[k] = y at *
        have HTA := Lib.hid hta
        have HTB := Lib.hid htb
        have HL := Lib.hid hl
        clear hta htb hl
        have hq := tok_neq x y
        have hgd := tok_guard
        by_cases hxy : x = y
        · have hd : decide (x = y) = true := by simpa using hxy
          have HXY := Lib.hid hxy
          clear hxy
          go_wp2_with fail
          go_quiet (fail)
          go_wp2
          go_roundw
          case rel =>
            refine ⟨k + 1, by omega, by go_num, ?_, hx.drewN _⟩
            rw [List.take_succ_eq_append_getElem hlt, List.take_succ_eq_append_getElem hlt2, HE.out, HTA.out, HTB.out, HXY.out]
          case measure => simp [intOf]; omega
        · have hd : decide (x = y) = false := by simpa using hxy
          have HN := Lib.hid (show decide (a = b) = false by
            simp only [decide_eq_false_iff_not]
            rintro rfl
            exact hxy (HTA.out.symm.trans HTB.out))
          clear hxy
          go_wp2_with fail
          go_quiet (fail)
          go_wp2
          go_ret
          exact ⟨ret_bool HN.out.symm, hx.drewN _⟩
      · have HN := Lib.hid (show decide (a = b) = true by
          simp only [decide_eq_true_eq]
          rw [List.take_of_length_le (by omega), List.take_of_length_le (by omega)] at he
          exact he)
        go_wp2
        go_ret
        exact ⟨ret_bool HN.out.symm, hx⟩
  · have h1 : ((a.length : Int) != (b.length : Int)) = true := by simp; omega
    have hne := Lib.hid (show decide (a = b) = false by simp; intro e; exact hl (by rw [e]))
    clear hl
    go_enter Try.func12, Try.ntmps12
    go_wp2
    go_ret
    exact ⟨ret_bool hne.out.symm, Below.refl _ _⟩
end Go.Proofs.Ytklpfhkcbhkofaa
