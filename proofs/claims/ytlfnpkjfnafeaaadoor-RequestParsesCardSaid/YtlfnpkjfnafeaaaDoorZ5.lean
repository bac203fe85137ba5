/-  -/
import Derived.Test.YtlfnpkjfnafeaaaDoorZ4
import Derived.Test.YtlfnpkjfnafeaaaDoorZ2
import Derived.Test.YtlfnpkjfnafeaaaDoorZ3
import Derived.Test.YtlfnpkjfnafeaaaDoorZ1
import Derived.Lib.LaidTab
/- The walks of the program's printer: write, FormatExpr, Format. -/
namespace Go.Proofs.YtlfnpkjfnafeaaaDoor
open Go.RowKit
set_option linter.unusedVariables false
set_option linter.unusedSimpArgs false
set_option maxRecDepth 100000
/-- a builder that holds the bytes l -/
def Bld (w : World) (B b : Nat) (l : List UInt8) : Prop := Lib.IsBuilderF 82 5 B b (Lib.byteCells l) w
/-- what a writer leaves: nothing below B has changed, nor any block but the builder's and rows of bytes -/
structure Wr (B b : Nat) (w w' : World) : Prop where
  below : Below B w w'
  kept : Lib.OthersKept 5 (some b) w w'
theorem Wr.rf {B b : Nat} {w : World} : Wr B b w w := ⟨Below.refl _ _, Lib.OthersKept.refl _ _ _⟩
theorem Wr.tr {B b : Nat} {a c d : World} (h : Wr B b a c) (k : Wr B b c d) : Wr B b a d := ⟨h.below.trans k.below, h.kept.trans k.kept⟩
theorem Wr.ext {B b : Nat} {w w' : World} (h : Ext w w') (hB : B ≤ w.heap.size) : Wr B b w w' := ⟨h.mono hB, fun k o hk _ _ => by
  have hlt := (Array.getElem?_eq_some_iff.1 hk).1
  rw [h.block k hlt]; exact hk⟩
theorem Wr.blk {B b : Nat} {w w' : World} (h : Wr B b w w') {p : Nat} {T : TypeId} {cs : Array Value} (hb : Blk w p T cs) (hp : p ≠ b) (hT : T ≠ 5) : Blk w' p T cs := h.kept p _ hb (fun e => by injection e with e; exact hp e) (fun c fz e => by injection e with _ e; exact hT e)
theorem Bld.ext {B b : Nat} {l : List UInt8} {w w' : World} (h : Bld w B b l) (hx : Ext w w') : Bld w' B b l := by
  have key : ∀ p, Lib.BuilderAtF 82 5 B b p (Lib.byteCells l) w → Lib.BuilderAtF 82 5 B b p (Lib.byteCells l) w' := by
    rintro p ⟨hB, v, hb, hown, hne⟩
    refine ⟨hB, v, ?_, ⟨hown.1, ?_⟩, hne⟩
    · rw [hx.block b (Array.getElem?_eq_some_iff.1 hb).1]; exact hb
    · rcases hown.2 with hn | ⟨g, cap, cur, fz, hv, hg, hh, r⟩
      · exact .inl hn
      · exact .inr ⟨g, cap, cur, fz, hv, hg, by rw [hx.block g (Array.getElem?_eq_some_iff.1 hh).1]; exact hh, r⟩
  exact h.imp (key _) (key _)
theorem Builder.put_c (B b : Nat) (l t : List UInt8) (w : World) (h : Bld w B b l) (hlen : l.length + t.length ≤ 1000000) (hBw : B ≤ w.heap.size) :
    Calls Tryd.prog 43 #[.pointer (some ⟨b, 0, none⟩), .string ⟨t.toArray⟩] w fun e w' => (∃ v, e = .returned v) ∧ Bld w' B b (l ++ t) ∧ Wr B b w w' := by
  refine (Builder.WriteString_c B b (Lib.byteCells l) ⟨t.toArray⟩ w h (by rw [Lib.byteCells_length]; have : (⟨t.toArray⟩ : ByteArray).size = t.length := by simp [ByteArray.size]
                                                                          omega) hBw).mono ?_
  rintro e w' ⟨rfl, h1, h2, h3⟩
  refine ⟨⟨_, rfl⟩, .inr ?_, h2, h3⟩
  rw [Lib.byteCells_append]
  exact h1
/-- what write does -/
def WritePost (w : World) (B b : Nat) (l t : List UInt8) (r : Ending) (w' : World) : Prop := r = .returned (.tuple #[]) ∧ Bld w' B b (l ++ t) ∧ Wr B b w w'
set_option maxHeartbeats 1600000 in
theorem request.write_atom (a : CL.At) (w : World) (B b : Nat) (l : List UInt8) (A : Option Addr) (c : Nat) (hv : CL.vatom a = true) (hb : Bld w B b l) (hbB : b < w.heap.size) (hB : B ≤ w.heap.size) (hl : l.length ≤ 100000) :
    Calls Tryd.prog 42 #[.pointer (some ⟨b, 0, none⟩), .agg #[.int .i64 0, .string ⟨a.n.toArray⟩, .int .i64 a.a.m, .int .i64 a.a.u, .slice A 0 c]] w (WritePost w B b l (CL.atxt a)) := by
  have hlen : a.n.length ≤ 12 := by
    simp only [CL.vatom, Bool.and_eq_true] at hv
    cases hx : a.n with
    | nil => simp
    | cons c r => have := hv.1; rw [hx] at this; simp only [CL.vname, Bool.and_eq_true, decide_eq_true_eq] at this; simp only [List.length_cons]; omega
  simp only [CL.vatom, Bool.and_eq_true] at hv
  have huse := CL.usable_cases hv.2
  obtain ⟨nm, m, u⟩ := a
  simp only at hlen huse
  have hx0 := Ext.new w (.cells #[.int .i64 0, .string ⟨nm.toArray⟩, .int .i64 m, .int .i64 u, .slice A 0 c] 28)
  have bE := Blk.new w 28 #[.int .i64 0, .string ⟨nm.toArray⟩, .int .i64 m, .int .i64 u, .slice A 0 c]
  have hne : w.heap.size ≠ b := by omega
  have hb0 := hb.ext hx0
  have hz0 : B ≤ (w.alloc (.cells #[.int .i64 0, .string ⟨nm.toArray⟩, .int .i64 m, .int .i64 u, .slice A 0 c] 28)).heap.size := by simp only [World.size_alloc]; omega
  have P1 := Builder.put_c B b l nm _ hb0 (by omega) hz0
  rcases huse with ⟨h1, h2, rfl⟩ | ⟨rfl, h2, h3⟩
  · have hm0 : (m == 0) = false := by simpa using h2
    have hft : CL.fmtA ⟨m, 0⟩ = CL.nm m := fmtA_m (by simp [CL.zer, h2])
    have hnl : (CL.nm m).length ≤ 3 := by
      unfold CL.nm
      repeat' split
      all_goals simp
    go_enter Tryd.func42, Tryd.ntmps42
    go_wp2_with (first
      | (go_at_call 43; refine P1.mono ?_; rintro e w1 ⟨⟨v1, rfl⟩, hb1, hw1⟩; obtain ⟨e0, e1, e2, e3, e4⟩ := (hw1.blk bE hne (by decide)).c5; clear P1)
      | (go_at_call 43; refine (Builder.put_c B b _ [58] _ hb1 (by simp; omega) (by have := hw1.below.size; omega)).mono ?_; rintro e w2 ⟨⟨v2, rfl⟩, hb2, hw2⟩; replace hw2 := hw1.tr hw2; obtain ⟨e0, e1, e2, e3, e4⟩ := (hw2.blk bE hne (by decide)).c5; clear hb1)
      | (go_at_call 74; refine (amount.Format_c _ _ _).mono ?_; rintro e w3 ⟨rfl, hx3⟩; have hb3 := hb2.ext hx3; have hw3 := hw2.tr (Wr.ext hx3 (by have := hw2.below.size; omega)))
      | (go_at_call 43; refine (Builder.put_c B b _ (CL.nm m) _ hb3 (by simp; omega) (by have := hw3.below.size; omega)).mono ?_; rintro e w4 ⟨⟨v4, rfl⟩, hb4, hw4⟩; replace hw4 := hw3.tr hw4))
    go_end0
    refine ⟨rfl, ?_, (Wr.ext hx0 hB).tr hw4⟩
    unfold CL.atxt
    rw [if_pos h2]
    simpa using hb4
  · have hft : CL.fmtA ⟨0, u⟩ = 42 :: CL.dg1 u := fmtA_u (by simp [CL.zer]; omega) (by omega) h2 h3
    go_enter Tryd.func42, Tryd.ntmps42
    go_wp2_with (first
      | (go_at_call 43; refine P1.mono ?_; rintro e w1 ⟨⟨v1, rfl⟩, hb1, hw1⟩; obtain ⟨e0, e1, e2, e3, e4⟩ := (hw1.blk bE hne (by decide)).c5; clear P1)
      | (go_at_call 74; refine (amount.Format_c _ _ _).mono ?_; rintro e w3 ⟨rfl, hx3⟩; have hb3 := hb1.ext hx3; have hw3 := hw1.tr (Wr.ext hx3 (by have := hw1.below.size; omega)))
      | (go_at_call 43; refine (Builder.put_c B b _ (42 :: CL.dg1 u) _ hb3 (by simp [CL.dg1]; omega) (by have := hw3.below.size; omega)).mono ?_; rintro e w4 ⟨⟨v4, rfl⟩, hb4, hw4⟩; replace hw4 := hw3.tr hw4))
    go_end0
    refine ⟨rfl, ?_, (Wr.ext hx0 hB).tr hw4⟩
    unfold CL.atxt
    rw [if_neg (by simp)]
    simpa using hb4
theorem dec100 : ∀ i : Nat, i < 100 → Lib.decDigits i = CL.digits i := by decide +kernel
theorem Itoa_few (k : Int) (h1 : 0 ≤ k) (h2 : k < 100) (w : World) : Calls Tryd.prog 44 #[.int .i64 k] w fun e w' => e = .returned (.string ⟨(CL.digits k.toNat).toArray⟩) ∧ w = w' := by
  obtain ⟨i, rfl⟩ := Int.eq_ofNat_of_zero_le h1
  refine (Any.strconv_Itoa_small { itoaL with } i (by omega) w).mono ?_
  rintro e w' ⟨rfl, rfl⟩
  refine ⟨?_, rfl⟩
  rw [dec100 i (by omega)]; rfl
theorem sizeL_take (kids : List CL.Ex) {j : Nat} (hj : j < kids.length) : CL.sizeL (kids.take j) + CL.size kids[j] ≤ CL.sizeL kids := by
  induction kids generalizing j with
  | nil => simp at hj
  | cons e kids ih =>
    cases j with
    | zero => simp [CL.sizeL]
    | succ j =>
      have := ih (j := j) (by simpa using hj)
      simp only [List.take_succ_cons, CL.sizeL, List.getElem_cons_succ]; omega
theorem sj_take_len {kids : List CL.Ex} (h : ∀ e ∈ kids, CL.Wf e) (j : Nat) : (CL.sj ((kids.take j).map CL.fmtE)).length ≤ 20 * CL.sizeL (kids.take j) := by
  have h' : ∀ e ∈ kids.take j, CL.Wf e := fun e he => h e (List.take_subset _ _ he)
  generalize kids.take j = ks at *
  cases ks with
  | nil => simp [CL.sj]
  | cons e ks =>
    have e1 := CL.fmtE_len (h' e (by simp))
    have e2 := CL.sj_len ks (fun x hx => CL.fmtE_len (h' x (by simp [hx])))
    simp only [List.map_cons, CL.sj, List.flatMap_map, List.length_append, CL.sizeL] at *
    omega
theorem sizeL_all (kids : List CL.Ex) (j : Nat) : CL.sizeL (kids.take j) ≤ CL.sizeL kids := by
  by_cases hj : j < kids.length
  · have := sizeL_take kids hj; omega
  · rw [List.take_of_length_le (by omega)]; omega
theorem ghead_len (k : Int) (n : Nat) (h1 : 1 ≤ k) (h2 : k ≤ 24) : (CL.ghead k n).length ≤ 9 := by
  unfold CL.ghead
  split
  · simp
  · split
    · simp
    · have : (CL.digits k.toNat).length ≤ 4 := by
        unfold CL.digits
        split
        · simp
        · exact CL.D_len_le 6 _ 4 (by omega)
      simp; omega
/-- the loop of write -/
def WRel (w : World) (B b : Nat) (l : List UInt8) (k : Int) (kids : List CL.Ex) (i : Value) (wr : World) : Prop := ∃ j : Nat, j ≤ kids.length ∧ i = .int .i64 j ∧ Bld wr B b (l ++ (CL.ghead k kids.length ++ CL.sj ((kids.take j).map CL.fmtE))) ∧ Wr B b w wr
set_option maxHeartbeats 3200000 in
theorem request.write_c (e : CL.Ex) (hw : CL.Wf e) : ∀ (w : World) (Be B b : Nat) (cs : List Value) (l : List UInt8), Rd w Be e cs → Be ≤ B → Bld w B b l → b < w.heap.size → B ≤ w.heap.size → l.length + 20 * CL.size e ≤ 100000 →
    Calls Tryd.prog 42 #[.pointer (some ⟨b, 0, none⟩), .agg cs.toArray] w (WritePost w B b l (CL.fmtE e)) := by
  induction hw with
  | atom a ha =>
    intro w Be B b cs l hR hBe hb hbB hB hl
    obtain ⟨A, c, rfl, hn, _, _, _⟩ := hR.inv
    simp only [CL.fmtE, if_true]
    exact request.write_atom a w B b l A c ha hb hbB hB (by simp only [CL.size] at hl; omega)
  | group k kids hne h1 h2 h3 hkids ih =>
    intro w Be B b cs l hR hBe hb hbB hB hl
    obtain ⟨A, c, rfl, hn, _, _, hK⟩ := hR.inv
    simp only [CL.size] at hl
    have hx0 := Ext.new w (.cells #[.int .i64 k, .string ⟨#[]⟩, .int .i64 0, .int .i64 0, .slice A kids.length c] 28)
    have bE := Blk.new w 28 #[.int .i64 k, .string ⟨#[]⟩, .int .i64 0, .int .i64 0, .slice A kids.length c]
    have hneb : w.heap.size ≠ b := by omega
    have hb0 := hb.ext hx0
    have hz0 : B ≤ (w.alloc (.cells #[.int .i64 k, .string ⟨#[]⟩, .int .i64 0, .int .i64 0, .slice A kids.length c] 28)).heap.size := by simp only [World.size_alloc]; omega
    have hl0 : ((kids.length : Int) == 0) = false := beq_eq_false_iff_ne.2 (fun h => hne (List.eq_nil_of_length_eq_zero (by omega)))
    have hIH := Lib.hid ih
    have hW0 : Wr B b w (w.alloc (.cells #[.int .i64 k, .string ⟨#[]⟩, .int .i64 0, .int .i64 0, .slice A kids.length c] 28)) := Wr.ext hx0 hB
    have hfin : ∀ w1 : World, Bld w1 B b (l ++ CL.ghead k kids.length) → Wr B b w w1 → WRel w B b l k kids (.int .i64 0) w1 := fun w1 h1 h2 => ⟨0, by omega, rfl, by simpa [CL.sj] using h1, h2⟩
    have hfin := Lib.hid hfin
    have hgl := ghead_len k kids.length h1 (by omega)
    clear ih hb
    simp only [CL.noAt] at *
    by_cases hka : k = (kids.length : Int)
    · subst hka
      have hg : CL.ghead (kids.length : Int) kids.length = [97, 108, 108, 40] := if_pos rfl
      have P1 := Builder.put_c B b l [97, 108, 108, 40] _ hb0 (by simp; omega) hz0
      go_enter Tryd.func42, Tryd.ntmps42
      go_wp2_with (go_at_call 43; refine P1.mono ?_; rintro e w1 ⟨⟨v1, rfl⟩, hb1, hw1⟩; obtain ⟨e0, e1, e2, e3, e4⟩ := (hw1.blk bE hneb (by decide)).c5; have hF := Lib.hid (hfin.out _ (by rw [hg]; exact hb1) (hW0.tr hw1)); clear P1 hb1)
      go_loopw [50] (fun i wr => WRel w B b l (kids.length : Int) kids i wr) (fun i _ => kids.length - (intOf i).toNat)
      case atStart => exact hF.out
      case round =>
        clear hF hw1 hb0 hz0 hl0 bE hx0 hfin hW0 e0 e1 e2 e3 e4
        obtain ⟨j, hj, rfl, hbr, hWr⟩ := hrel
        have hzr := hWr.below.size
        have hwfk := sj_take_len hkids j
        have hall := sizeL_all kids j
        by_cases hlt : j < kids.length
        · have hKr := hK.below (hWr.below.mono hBe)
          obtain ⟨p, o, k1, s1, m1, u1, A1, l1, x1, rfl, hpB, hR, c0, c1, c2, c3, c4⟩ := hKr.get hlt
          have hst := sizeL_take kids hlt
          have hm := List.getElem_mem hlt
          have hsn : kids.take (j + 1) = kids.take j ++ [kids[j]] := List.take_succ_eq_append_getElem hlt
          have hIHe := hIH.out kids[j] hm
          have hpz : p < wr.heap.size := by omega
          have hlts : (j : Int) < (kids.length : Int) := by omega
          have hgj : IntKind.i64.wrap ((j : Int) + 1) = (j : Int) + 1 := IntWalk.i64_in _ (by omega)
          generalize kids[j] = ek at *
          have hxk := Ext.new wr (.cells #[.int .i64 k1, .string s1, .int .i64 m1, .int .i64 u1, .slice A1 l1 x1] 28)
          have bK := Blk.new wr 28 #[.int .i64 k1, .string s1, .int .i64 m1, .int .i64 u1, .slice A1 l1 x1]
          have hbk := hbr.ext hxk
          have hWk := hWr.tr (Wr.ext (b := b) hxk (by omega))
          have hRk := hR.ext hxk (by omega)
          have hzk : B ≤ (wr.alloc (.cells #[.int .i64 k1, .string s1, .int .i64 m1, .int .i64 u1, .slice A1 l1 x1] 28)).heap.size := by simp only [World.size_alloc]; omega
          have hzk2 : b < (wr.alloc (.cells #[.int .i64 k1, .string s1, .int .i64 m1, .int .i64 u1, .slice A1 l1 x1] 28)).heap.size := by simp only [World.size_alloc]; omega
          have hfk : ∀ w9 l9, Bld w9 B b (l9 ++ CL.fmtE ek) → l9 = l ++ (CL.ghead (kids.length : Int) kids.length ++ (CL.sj ((kids.take j).map CL.fmtE) ++ (if (kids.take j).map CL.fmtE = [] then [] else [44, 32]))) → Wr B b w w9 → WRel w B b l (kids.length : Int) kids (.int .i64 ((j : Int) + 1)) w9 := by
            intro w9 l9 h9 e9 hW9
            refine ⟨j + 1, by omega, by simp, ?_, hW9⟩
            rw [hsn, List.map_append, List.map_cons, List.map_nil, CL.sj_snoc]
            rw [e9] at h9
            simpa using h9
          have hfk := Lib.hid hfk
          have hbnd : (CL.sj ((kids.take j).map CL.fmtE)).length + 20 * CL.size ek ≤ 20 * CL.sizeL kids := by omega
          have hse := CL.size_pos ek
          clear hbr hxk hR hKr hWr hall
          have hL : (l ++ (CL.ghead (kids.length : Int) kids.length ++ CL.sj ((kids.take j).map CL.fmtE))).length + 20 * CL.size ek ≤ 99999 := by simp only [List.length_append]; omega
          by_cases hj0 : j = 0
          · have hj1 : decide (0 < j) = false := by simp; omega
            have HJ0 := Lib.hid hj0
            clear hj0
            go_wp2_with (go_at_call 42; refine (hIHe _ Be B b [.int .i64 k1, .string s1, .int .i64 m1, .int .i64 u1, .slice A1 l1 x1] _ hRk hBe hbk hzk2 hzk (by omega)).mono ?_; rintro e w3 ⟨rfl, hb3, hw3⟩; have hG := Lib.hid (hfk.out w3 _ hb3 (by simp [HJ0.out]) (hWk.tr hw3)); clear hb3 hw3)
            go_roundw
            case rel => exact hG.out
            case measure => simp [intOf]; omega
          · have hj1 : 0 < j := by omega
            have hnn : (kids.take j).map CL.fmtE ≠ [] := by
              intro he
              have := congrArg List.length he
              simp only [List.length_map, List.length_take, List.length_nil] at this
              omega
            have P2 := Builder.put_c B b _ [44, 32] _ hbk (by simp only [List.length_cons, List.length_nil]; omega) hzk
            have P3 : ∀ w2 : World, Bld w2 B b ((l ++ (CL.ghead (kids.length : Int) kids.length ++ CL.sj ((kids.take j).map CL.fmtE))) ++ [44, 32]) → Wr B b (wr.alloc (.cells #[.int .i64 k1, .string s1, .int .i64 m1, .int .i64 u1, .slice A1 l1 x1] 28)) w2 →
                Calls Tryd.prog 42 #[.pointer (some ⟨b, 0, none⟩), .agg #[.int .i64 k1, .string s1, .int .i64 m1, .int .i64 u1, .slice A1 l1 x1]] w2 (WritePost w2 B b ((l ++ (CL.ghead (kids.length : Int) kids.length ++ CL.sj ((kids.take j).map CL.fmtE))) ++ [44, 32]) (CL.fmtE ek)) := by
              intro w2 hb2 hw2
              have hz2 := hw2.below.size
              exact hIHe _ Be B b [.int .i64 k1, .string s1, .int .i64 m1, .int .i64 u1, .slice A1 l1 x1] _ (hRk.kept (hw2.below.mono hBe)) hBe hb2 (by omega) (by omega) (by simp only [List.length_append, List.length_cons, List.length_nil] at hL ⊢; omega)
            have hbz : b ≠ wr.heap.size := by omega
            go_wp2_with (first
              | (go_at_call 43; refine P2.mono ?_; rintro e w2 ⟨⟨v2, rfl⟩, hb2, hw2⟩; obtain ⟨f0, f1, f2, f3, f4⟩ := (hw2.blk bK (Ne.symm hbz) (by decide)).c5; have P4 := P3 _ hb2 hw2; have hW2 := hWk.tr hw2; clear P2 hw2)
              | (go_at_call 42; refine P4.mono ?_; rintro e w3 ⟨rfl, hb3, hw3⟩; have hG := Lib.hid (hfk.out w3 _ hb3 (by rw [if_neg hnn]; simp only [List.append_assoc]) (hW2.tr hw3)); clear hb3 hw3))
            go_roundw
            case rel => exact hG.out
            case measure => simp [intOf]; omega
        · have hlts : decide ((j : Int) < (kids.length : Int)) = false := by simp; omega
          obtain rfl : j = kids.length := by omega
          rw [List.take_length] at hbr hwfk
          have P3 := Builder.put_c B b _ [41] _ hbr (by simp only [List.length_append, List.length_cons, List.length_nil]; omega) (by omega)
          go_wp2_with (go_at_call 43; refine P3.mono ?_; rintro e w2 ⟨⟨v2, rfl⟩, hb2, hw2⟩)
          go_end0
          refine ⟨rfl, ?_, hWr.tr hw2⟩
          simp only [CL.fmtE, if_neg hne, CL.fmtK_map]
          simpa using hb2
    · by_cases hkb : k = 1
      · subst hkb
        have hg : CL.ghead 1 kids.length = [97, 110, 121, 40] := (if_neg hka).trans (if_pos rfl)
        have hka' : ((1 : Int) == (kids.length : Int)) = false := by simpa using hka
        have P1 := Builder.put_c B b l [97, 110, 121, 40] _ hb0 (by simp; omega) hz0
        go_enter Tryd.func42, Tryd.ntmps42
        go_wp2_with (go_at_call 43; refine P1.mono ?_; rintro e w1 ⟨⟨v1, rfl⟩, hb1, hw1⟩; obtain ⟨e0, e1, e2, e3, e4⟩ := (hw1.blk bE hneb (by decide)).c5; have hF := Lib.hid (hfin.out _ (by rw [hg]; exact hb1) (hW0.tr hw1)); clear P1 hb1)
        go_loopw [50] (fun i wr => WRel w B b l 1 kids i wr) (fun i _ => kids.length - (intOf i).toNat)
        case atStart => exact hF.out
        case round =>
          clear hF hw1 hb0 hz0 hl0 bE hx0 hfin hW0 e0 e1 e2 e3 e4
          obtain ⟨j, hj, rfl, hbr, hWr⟩ := hrel
          have hzr := hWr.below.size
          have hwfk := sj_take_len hkids j
          have hall := sizeL_all kids j
          by_cases hlt : j < kids.length
          · have hKr := hK.below (hWr.below.mono hBe)
            obtain ⟨p, o, k1, s1, m1, u1, A1, l1, x1, rfl, hpB, hR, c0, c1, c2, c3, c4⟩ := hKr.get hlt
            have hst := sizeL_take kids hlt
            have hm := List.getElem_mem hlt
            have hsn : kids.take (j + 1) = kids.take j ++ [kids[j]] := List.take_succ_eq_append_getElem hlt
            have hIHe := hIH.out kids[j] hm
            have hpz : p < wr.heap.size := by omega
            have hlts : (j : Int) < (kids.length : Int) := by omega
            have hgj : IntKind.i64.wrap ((j : Int) + 1) = (j : Int) + 1 := IntWalk.i64_in _ (by omega)
            generalize kids[j] = ek at *
            have hxk := Ext.new wr (.cells #[.int .i64 k1, .string s1, .int .i64 m1, .int .i64 u1, .slice A1 l1 x1] 28)
            have bK := Blk.new wr 28 #[.int .i64 k1, .string s1, .int .i64 m1, .int .i64 u1, .slice A1 l1 x1]
            have hbk := hbr.ext hxk
            have hWk := hWr.tr (Wr.ext (b := b) hxk (by omega))
            have hRk := hR.ext hxk (by omega)
            have hzk : B ≤ (wr.alloc (.cells #[.int .i64 k1, .string s1, .int .i64 m1, .int .i64 u1, .slice A1 l1 x1] 28)).heap.size := by simp only [World.size_alloc]; omega
            have hzk2 : b < (wr.alloc (.cells #[.int .i64 k1, .string s1, .int .i64 m1, .int .i64 u1, .slice A1 l1 x1] 28)).heap.size := by simp only [World.size_alloc]; omega
            have hfk : ∀ w9 l9, Bld w9 B b (l9 ++ CL.fmtE ek) → l9 = l ++ (CL.ghead 1 kids.length ++ (CL.sj ((kids.take j).map CL.fmtE) ++ (if (kids.take j).map CL.fmtE = [] then [] else [44, 32]))) → Wr B b w w9 → WRel w B b l 1 kids (.int .i64 ((j : Int) + 1)) w9 := by
              intro w9 l9 h9 e9 hW9
              refine ⟨j + 1, by omega, by simp, ?_, hW9⟩
              rw [hsn, List.map_append, List.map_cons, List.map_nil, CL.sj_snoc]
              rw [e9] at h9
              simpa using h9
            have hfk := Lib.hid hfk
            have hbnd : (CL.sj ((kids.take j).map CL.fmtE)).length + 20 * CL.size ek ≤ 20 * CL.sizeL kids := by omega
            have hse := CL.size_pos ek
            clear hbr hxk hR hKr hWr hall
            have hL : (l ++ (CL.ghead 1 kids.length ++ CL.sj ((kids.take j).map CL.fmtE))).length + 20 * CL.size ek ≤ 99999 := by simp only [List.length_append]; omega
            by_cases hj0 : j = 0
            · have hj1 : decide (0 < j) = false := by simp; omega
              have HJ0 := Lib.hid hj0
              clear hj0
              go_wp2_with (go_at_call 42; refine (hIHe _ Be B b [.int .i64 k1, .string s1, .int .i64 m1, .int .i64 u1, .slice A1 l1 x1] _ hRk hBe hbk hzk2 hzk (by omega)).mono ?_; rintro e w3 ⟨rfl, hb3, hw3⟩; have hG := Lib.hid (hfk.out w3 _ hb3 (by simp [HJ0.out]) (hWk.tr hw3)); clear hb3 hw3)
              go_roundw
              case rel => exact hG.out
              case measure => simp [intOf]; omega
            · have hj1 : 0 < j := by omega
              have hnn : (kids.take j).map CL.fmtE ≠ [] := by
                intro he
                have := congrArg List.length he
                simp only [List.length_map, List.length_take, List.length_nil] at this
                omega
              have P2 := Builder.put_c B b _ [44, 32] _ hbk (by simp only [List.length_cons, List.length_nil]; omega) hzk
              have P3 : ∀ w2 : World, Bld w2 B b ((l ++ (CL.ghead 1 kids.length ++ CL.sj ((kids.take j).map CL.fmtE))) ++ [44, 32]) → Wr B b (wr.alloc (.cells #[.int .i64 k1, .string s1, .int .i64 m1, .int .i64 u1, .slice A1 l1 x1] 28)) w2 →
                  Calls Tryd.prog 42 #[.pointer (some ⟨b, 0, none⟩), .agg #[.int .i64 k1, .string s1, .int .i64 m1, .int .i64 u1, .slice A1 l1 x1]] w2 (WritePost w2 B b ((l ++ (CL.ghead 1 kids.length ++ CL.sj ((kids.take j).map CL.fmtE))) ++ [44, 32]) (CL.fmtE ek)) := by
                intro w2 hb2 hw2
                have hz2 := hw2.below.size
                exact hIHe _ Be B b [.int .i64 k1, .string s1, .int .i64 m1, .int .i64 u1, .slice A1 l1 x1] _ (hRk.kept (hw2.below.mono hBe)) hBe hb2 (by omega) (by omega) (by simp only [List.length_append, List.length_cons, List.length_nil] at hL ⊢; omega)
              have hbz : b ≠ wr.heap.size := by omega
              go_wp2_with (first
                | (go_at_call 43; refine P2.mono ?_; rintro e w2 ⟨⟨v2, rfl⟩, hb2, hw2⟩; obtain ⟨f0, f1, f2, f3, f4⟩ := (hw2.blk bK (Ne.symm hbz) (by decide)).c5; have P4 := P3 _ hb2 hw2; have hW2 := hWk.tr hw2; clear P2 hw2)
                | (go_at_call 42; refine P4.mono ?_; rintro e w3 ⟨rfl, hb3, hw3⟩; have hG := Lib.hid (hfk.out w3 _ hb3 (by rw [if_neg hnn]; simp only [List.append_assoc]) (hW2.tr hw3)); clear hb3 hw3))
              go_roundw
              case rel => exact hG.out
              case measure => simp [intOf]; omega
          · have hlts : decide ((j : Int) < (kids.length : Int)) = false := by simp; omega
            obtain rfl : j = kids.length := by omega
            rw [List.take_length] at hbr hwfk
            have P3 := Builder.put_c B b _ [41] _ hbr (by simp only [List.length_append, List.length_cons, List.length_nil]; omega) (by omega)
            go_wp2_with (go_at_call 43; refine P3.mono ?_; rintro e w2 ⟨⟨v2, rfl⟩, hb2, hw2⟩)
            go_end0
            refine ⟨rfl, ?_, hWr.tr hw2⟩
            simp only [CL.fmtE, if_neg hne, CL.fmtK_map]
            simpa using hb2
      · have hg : CL.ghead k kids.length = CL.digits k.toNat ++ [32, 111, 102, 32, 40] := (if_neg hka).trans (if_neg hkb)
        have hka' : (k == (kids.length : Int)) = false := by simpa using hka
        have hkb' : (k == 1) = false := by simpa using hkb
        have hgl2 := hgl
        rw [hg] at hgl2
        simp only [List.length_append] at hgl2
        have P1 := fun w1 hb1 hz1 => Builder.put_c B b l (CL.digits k.toNat ++ [32, 111, 102, 32, 40]) w1 hb1 (by simp only [List.length_append]; omega) hz1
        go_enter Tryd.func42, Tryd.ntmps42
        go_wp2_with (first
          | (go_at_call 44; refine (Itoa_few k (by omega) (by omega) _).mono ?_; rintro e w1 ⟨rfl, rfl⟩)
          | (go_at_call 43; refine (P1 _ hb0 hz0).mono ?_; rintro e w1 ⟨⟨v1, rfl⟩, hb1, hw1⟩; obtain ⟨e0, e1, e2, e3, e4⟩ := (hw1.blk bE hneb (by decide)).c5; have hF := Lib.hid (hfin.out _ (by rw [hg]; exact hb1) (hW0.tr hw1)); clear P1 hb1))
        go_loopw [50] (fun i wr => WRel w B b l k kids i wr) (fun i _ => kids.length - (intOf i).toNat)
        case atStart => exact hF.out
        case round =>
          clear hF hw1 hb0 hz0 hl0 bE hx0 hfin hW0 e0 e1 e2 e3 e4
          obtain ⟨j, hj, rfl, hbr, hWr⟩ := hrel
          have hzr := hWr.below.size
          have hwfk := sj_take_len hkids j
          have hall := sizeL_all kids j
          by_cases hlt : j < kids.length
          · have hKr := hK.below (hWr.below.mono hBe)
            obtain ⟨p, o, k1, s1, m1, u1, A1, l1, x1, rfl, hpB, hR, c0, c1, c2, c3, c4⟩ := hKr.get hlt
            have hst := sizeL_take kids hlt
            have hm := List.getElem_mem hlt
            have hsn : kids.take (j + 1) = kids.take j ++ [kids[j]] := List.take_succ_eq_append_getElem hlt
            have hIHe := hIH.out kids[j] hm
            have hpz : p < wr.heap.size := by omega
            have hlts : (j : Int) < (kids.length : Int) := by omega
            have hgj : IntKind.i64.wrap ((j : Int) + 1) = (j : Int) + 1 := IntWalk.i64_in _ (by omega)
            generalize kids[j] = ek at *
            have hxk := Ext.new wr (.cells #[.int .i64 k1, .string s1, .int .i64 m1, .int .i64 u1, .slice A1 l1 x1] 28)
            have bK := Blk.new wr 28 #[.int .i64 k1, .string s1, .int .i64 m1, .int .i64 u1, .slice A1 l1 x1]
            have hbk := hbr.ext hxk
            have hWk := hWr.tr (Wr.ext (b := b) hxk (by omega))
            have hRk := hR.ext hxk (by omega)
            have hzk : B ≤ (wr.alloc (.cells #[.int .i64 k1, .string s1, .int .i64 m1, .int .i64 u1, .slice A1 l1 x1] 28)).heap.size := by simp only [World.size_alloc]; omega
            have hzk2 : b < (wr.alloc (.cells #[.int .i64 k1, .string s1, .int .i64 m1, .int .i64 u1, .slice A1 l1 x1] 28)).heap.size := by simp only [World.size_alloc]; omega
            have hfk : ∀ w9 l9, Bld w9 B b (l9 ++ CL.fmtE ek) → l9 = l ++ (CL.ghead k kids.length ++ (CL.sj ((kids.take j).map CL.fmtE) ++ (if (kids.take j).map CL.fmtE = [] then [] else [44, 32]))) → Wr B b w w9 → WRel w B b l k kids (.int .i64 ((j : Int) + 1)) w9 := by
              intro w9 l9 h9 e9 hW9
              refine ⟨j + 1, by omega, by simp, ?_, hW9⟩
              rw [hsn, List.map_append, List.map_cons, List.map_nil, CL.sj_snoc]
              rw [e9] at h9
              simpa using h9
            have hfk := Lib.hid hfk
            have hbnd : (CL.sj ((kids.take j).map CL.fmtE)).length + 20 * CL.size ek ≤ 20 * CL.sizeL kids := by omega
            have hse := CL.size_pos ek
            clear hbr hxk hR hKr hWr hall
            have hL : (l ++ (CL.ghead k kids.length ++ CL.sj ((kids.take j).map CL.fmtE))).length + 20 * CL.size ek ≤ 99999 := by simp only [List.length_append]; omega
            by_cases hj0 : j = 0
            · have hj1 : decide (0 < j) = false := by simp; omega
              have HJ0 := Lib.hid hj0
              clear hj0
              go_wp2_with (go_at_call 42; refine (hIHe _ Be B b [.int .i64 k1, .string s1, .int .i64 m1, .int .i64 u1, .slice A1 l1 x1] _ hRk hBe hbk hzk2 hzk (by omega)).mono ?_; rintro e w3 ⟨rfl, hb3, hw3⟩; have hG := Lib.hid (hfk.out w3 _ hb3 (by simp [HJ0.out]) (hWk.tr hw3)); clear hb3 hw3)
              go_roundw
              case rel => exact hG.out
              case measure => simp [intOf]; omega
            · have hj1 : 0 < j := by omega
              have hnn : (kids.take j).map CL.fmtE ≠ [] := by
                intro he
                have := congrArg List.length he
                simp only [List.length_map, List.length_take, List.length_nil] at this
                omega
              have P2 := Builder.put_c B b _ [44, 32] _ hbk (by simp only [List.length_cons, List.length_nil]; omega) hzk
              have P3 : ∀ w2 : World, Bld w2 B b ((l ++ (CL.ghead k kids.length ++ CL.sj ((kids.take j).map CL.fmtE))) ++ [44, 32]) → Wr B b (wr.alloc (.cells #[.int .i64 k1, .string s1, .int .i64 m1, .int .i64 u1, .slice A1 l1 x1] 28)) w2 →
                  Calls Tryd.prog 42 #[.pointer (some ⟨b, 0, none⟩), .agg #[.int .i64 k1, .string s1, .int .i64 m1, .int .i64 u1, .slice A1 l1 x1]] w2 (WritePost w2 B b ((l ++ (CL.ghead k kids.length ++ CL.sj ((kids.take j).map CL.fmtE))) ++ [44, 32]) (CL.fmtE ek)) := by
                intro w2 hb2 hw2
                have hz2 := hw2.below.size
                exact hIHe _ Be B b [.int .i64 k1, .string s1, .int .i64 m1, .int .i64 u1, .slice A1 l1 x1] _ (hRk.kept (hw2.below.mono hBe)) hBe hb2 (by omega) (by omega) (by simp only [List.length_append, List.length_cons, List.length_nil] at hL ⊢; omega)
              have hbz : b ≠ wr.heap.size := by omega
              go_wp2_with (first
                | (go_at_call 43; refine P2.mono ?_; rintro e w2 ⟨⟨v2, rfl⟩, hb2, hw2⟩; obtain ⟨f0, f1, f2, f3, f4⟩ := (hw2.blk bK (Ne.symm hbz) (by decide)).c5; have P4 := P3 _ hb2 hw2; have hW2 := hWk.tr hw2; clear P2 hw2)
                | (go_at_call 42; refine P4.mono ?_; rintro e w3 ⟨rfl, hb3, hw3⟩; have hG := Lib.hid (hfk.out w3 _ hb3 (by rw [if_neg hnn]; simp only [List.append_assoc]) (hW2.tr hw3)); clear hb3 hw3))
              go_roundw
              case rel => exact hG.out
              case measure => simp [intOf]; omega
          · have hlts : decide ((j : Int) < (kids.length : Int)) = false := by simp; omega
            obtain rfl : j = kids.length := by omega
            rw [List.take_length] at hbr hwfk
            have P3 := Builder.put_c B b _ [41] _ hbr (by simp only [List.length_append, List.length_cons, List.length_nil]; omega) (by omega)
            go_wp2_with (go_at_call 43; refine P3.mono ?_; rintro e w2 ⟨⟨v2, rfl⟩, hb2, hw2⟩)
            go_end0
            refine ⟨rfl, ?_, hWr.tr hw2⟩
            simp only [CL.fmtE, if_neg hne, CL.fmtK_map]
            simpa using hb2
end Go.Proofs.YtlfnpkjfnafeaaaDoor
/- The walks that list the atoms of a valid expression. -/
namespace Go.Proofs.YtlfnpkjfnafeaaaDoor
open Go.RowKit
set_option maxRecDepth 100000
set_option linter.unusedVariables false
def ixo (l : List CL.At) (a : CL.At) : Option Nat := l.findIdx? (fun b => decide (b = a))
def ixi (l : List CL.At) (a : CL.At) : Int := match ixo l a with | none => -1 | some i => (i : Int)
theorem ixo_hit {l : List CL.At} {a : CL.At} {j : Nat} (h : a ∉ l.take j) (hj : j < l.length) (e : a = l[j]) : ixo l a = some j := by
  unfold ixo
  rw [List.findIdx?_eq_some_iff_getElem]
  refine ⟨hj, by simp [e], fun i hi => ?_⟩
  simp only [decide_eq_true_eq]
  intro he
  refine h ?_
  rw [List.mem_take_iff_getElem]
  exact ⟨i, by omega, he⟩
theorem ixo_none {l : List CL.At} {a : CL.At} (h : a ∉ l) : ixo l a = none := by
  unfold ixo
  rw [List.findIdx?_eq_none_iff]
  intro x hx
  simp only [decide_eq_false_iff_not]
  intro e; subst e; exact h hx
theorem ixi_hit {l : List CL.At} {a : CL.At} {j : Nat} (h : a ∉ l.take j) (hj : j < l.length) (e : a = l[j]) : ixi l a = j := by unfold ixi; rw [ixo_hit h hj e]
theorem ixi_none {l : List CL.At} {a : CL.At} {j : Nat} (h : a ∉ l.take j) (hj : l.length ≤ j) : ixi l a = -1 := by
  rw [List.take_of_length_le hj] at h
  unfold ixi; rw [ixo_none h]
theorem out_step {l : List CL.At} {a : CL.At} {j : Nat} (h : a ∉ l.take j) (hj : j < l.length) (e : ¬ a = l[j]) : a ∉ l.take (j + 1) := by
  rw [List.take_succ_eq_append_getElem hj]
  simp only [List.mem_append, List.mem_singleton, not_or]
  exact ⟨h, e⟩
theorem ixi_mem (l : List CL.At) (a : CL.At) : decide (0 ≤ ixi l a) = decide (a ∈ l) := by
  by_cases h : a ∈ l
  · obtain ⟨i, hi, e⟩ : ∃ i, ixo l a = some i ∧ True := by
      cases hh : ixo l a with
      | none =>
        unfold ixo at hh
        rw [List.findIdx?_eq_none_iff] at hh
        simpa using hh a h
      | some i => exact ⟨i, rfl, trivial⟩
    simp [ixi, hi, h]
  · simp [ixi, ixo_none h, h]
theorem ixi_lt (l : List CL.At) (a : CL.At) : ixi l a < l.length := by
  unfold ixi
  split
  · omega
  · rename_i i h
    unfold ixo at h
    rw [List.findIdx?_eq_some_iff_getElem] at h
    obtain ⟨h, _⟩ := h; omega
/-- the list that a walk gives back, a row of its own -/
def OwnAts (base : Nat) (l : List CL.At) (w : World) (r : Ending) (w' : World) : Prop := ∃ v, r = .returned v ∧ w'.ownsRow base 25 3 v l.length (ats l) ∧ Below base w w'
theorem collL_step {kids : List CL.Ex} {j : Nat} {l : List CL.At} (hj : j < kids.length) : CL.collL (kids.drop j) l = CL.collL (kids.drop (j + 1)) (CL.coll kids[j] l) := by
  rw [List.drop_eq_getElem_cons hj]; simp only [CL.collL]
theorem collL_end {kids : List CL.Ex} {j : Nat} {l : List CL.At} (hj : kids.length ≤ j) : CL.collL (kids.drop j) l = l := by
  rw [List.drop_eq_nil_of_le hj]; simp only [CL.collL]
theorem coll_mono (e : CL.Ex) : ∀ l : List CL.At, l.length ≤ (CL.coll e l).length := by
  induction e using CL.Ex.ind with
  | h k a kids ih =>
    have hL : ∀ (ks : List CL.Ex), (∀ e ∈ ks, ∀ l : List CL.At, l.length ≤ (CL.coll e l).length) → ∀ l : List CL.At, l.length ≤ (CL.collL ks l).length := by
      intro ks
      induction ks with
      | nil => intro _ l; simp [CL.collL]
      | cons e ks ihk =>
        intro hk l
        simp only [CL.collL]
        exact Nat.le_trans (hk e (by simp) l) (ihk (fun x hx => hk x (by simp [hx])) _)
    intro l
    simp only [CL.coll]
    split
    · split <;> simp
    · exact hL kids ih l
theorem collL_mono (ks : List CL.Ex) : ∀ l : List CL.At, l.length ≤ (CL.collL ks l).length := by
  induction ks with
  | nil => intro l; simp [CL.collL]
  | cons e ks ih => intro l; simp only [CL.collL]; exact Nat.le_trans (coll_mono e l) (ih _)
end Go.Proofs.YtlfnpkjfnafeaaaDoor
/- append onto a row of the call's own, with where the new slice lies: in the old row, or in new memory; what such calls leave alone. -/
namespace Go.Proofs.YtlfnpkjfnafeaaaDoor
open Go.RowKit
section
variable {P : Program} (w : World)
theorem run_append_row (ty : TypeId) (t : TypeId) (base : Nat) (e : TypeId) (size bytes : Nat) (z : Value) (ht : P.underlying t = some (.slice e)) (hinfo : (P.info? e).map (fun i => (i.zero, i.size, i.bytes)) = some (some z, size, bytes))
    (hzs : z.cells.size = size) (hsz : 0 < size)
    (v : Value) (n : Nat) (xs : List Value) (hown : w.ownsRow base e size v n xs)
    (A : Option Addr) (m c : Nat) (news : List Value) (hl : news.length = m * size) (hr : Sits w A news) (h1 : ∀ u ∈ news, u.oneCell' = true)
    (h63 : n + m ≤ maxLen) (hbytes : (n + m) * bytes ≤ 140737488355328) (hbase : base ≤ w.heap.size) :
    ∃ v' w', (Builtin.append_ #[t, t] ty #[v, .slice A m c]).run P w = .ok v' w' ∧ w'.ownsRow base e size v' (n + m) (xs ++ news) ∧ Below base w w' ∧ w.grownBy w' v.ownBlock ∧ (v'.ownBlock = v.ownBlock ∨ v'.ownBlock = some w.heap.size) := by
  obtain ⟨i, hi, hz, hsize, hby⟩ := info_parts hinfo
  have hgr : ∀ {w' : World}, w.grownBy w' v.ownBlock → Below base w w' := fun {_} hg =>
    (Below.refl base w).grown hg hbase (fun k hk => (hown.lt k hk).1)
  have hnews : ∀ ad, A = some ad → ∀ j u, news[j]? = some u → w.cell? (ad.add j) = some u := by
    intro ad e j u hu
    obtain ⟨b, off, e', hc⟩ := hr (fun e => by subst e; simp at hu)
    rw [e] at e'
    injection e' with e'
    subst e'
    rw [Addr.add_lit]; exact hc j u hu
  rcases A with _ | ad
  · have hn : news = [] := by
      by_cases hn : news = []
      · exact hn
      · obtain ⟨_, _, e, _⟩ := hr hn
        cases e
    subst hn
    have hm : m = 0 := by
      rcases Nat.eq_zero_or_pos m with h0 | h0
      · exact h0
      · have := Nat.mul_pos h0 hsz; simp at hl; omega
    subst hm
    refine ⟨v, w, ?_, by simpa using hown, Below.refl _ _, World.grownBy.refl _ _, .inl rfl⟩
    rcases hown.2 with ⟨rfl, rfl⟩ | ⟨g, cap, cur, rfl, _, _, hnc, _⟩
    · simp [Builtin.append_, run_underlying ht, sizeOf, typeInfo, hi, Builtin.lenOf, Builtin.firstCells]
    · simp [Builtin.append_, run_underlying ht, sizeOf, typeInfo, hi, Builtin.lenOf, Builtin.firstCells, hnc, storeCells]
  · obtain ⟨v', w', hrun, h2, h3, _, h5⟩ := run_append_own_at (P := P) w base t ty e i z size bytes ht hi hz hsize hby hzs hsz v n xs hown ad m c news hl
      (hnews ad rfl) h1 h63 hbytes hbase
    exact ⟨v', w', hrun, h2, hgr h3, h3, h5⟩
theorem wp_append_row {o : Oper} {a : Act} {K : Act → World → Prop} {Q : Exit → Act → World → Prop} (s x : Operand) (t : TypeId) 
    (ho : o.op = .call { callee := .builtin .append, args := #[s, x], argTypes := #[t, t] }) (base : Nat) (e : TypeId) (size bytes : Nat) (z : Value) (ht : P.underlying t = some (.slice e)) (hinfo : (P.info? e).map (fun i => (i.zero, i.size, i.bytes)) = some (some z, size, bytes))
    (hzs : z.cells.size = size) (hsz : 0 < size)
    (v : Value) (n : Nat) (xs : List Value) (hs : a.eval s = v) (hown : w.ownsRow base e size v n xs)
    (A : Option Addr) (m c : Nat) (news : List Value) (hx : a.eval x = .slice A m c) (hl : news.length = m * size) (hr : Sits w A news) (h1 : ∀ u ∈ news, u.oneCell' = true)
    (h63 : n + m ≤ maxLen) (hbytes : (n + m) * bytes ≤ 140737488355328) (hbase : base ≤ w.heap.size)
    (h : ∀ v' w', w'.ownsRow base e size v' (n + m) (xs ++ news) → Below base w w' → w.grownBy w' v.ownBlock → (v'.ownBlock = v.ownBlock ∨ v'.ownBlock = some w.heap.size) → K (a.put o.dst v') w') : o.wp P a w K Q := by
  obtain ⟨v', w', hrun, h2, h3, h4, h5⟩ := run_append_row (P := P) w o.type t base e size bytes z ht hinfo hzs hsz v n xs hown A m c news hl hr h1 h63 hbytes hbase
  unfold Oper.wp execOp
  simp only [ho, resolve, invoke, builtin, Sem.run_bind, Sem.run_pure, Result.andThen_ok, List.map_toArray, List.map_cons, List.map_nil, hs, hx, hrun]
  exact h v' w' h2 h3 h4 h5
theorem wpList_append_row {ops : Array Oper} {rest : List Oper} {o : Oper} {a : Act} {Q : Exit → Act → World → Prop} (hgd : o.guard = none) (s x : Operand) (t : TypeId) 
    (ho : o.op = .call { callee := .builtin .append, args := #[s, x], argTypes := #[t, t] }) (base : Nat) (e : TypeId) (size bytes : Nat) (z : Value) (ht : P.underlying t = some (.slice e)) (hinfo : (P.info? e).map (fun i => (i.zero, i.size, i.bytes)) = some (some z, size, bytes))
    (hzs : z.cells.size = size) (hsz : 0 < size)
    (v : Value) (n : Nat) (xs : List Value) (hs : a.eval s = v) (hown : w.ownsRow base e size v n xs)
    (A : Option Addr) (m c : Nat) (news : List Value) (hx : a.eval x = .slice A m c) (hl : news.length = m * size) (hr : Sits w A news) (h1 : ∀ u ∈ news, u.oneCell' = true)
    (h63 : n + m ≤ maxLen) (hbytes : (n + m) * bytes ≤ 140737488355328) (hbase : base ≤ w.heap.size)
    (h : ∀ v' w', w'.ownsRow base e size v' (n + m) (xs ++ news) → Below base w w' → w.grownBy w' v.ownBlock → (v'.ownBlock = v.ownBlock ∨ v'.ownBlock = some w.heap.size) → wpList P ops Q rest (a.put o.dst v') w') : wpList P ops Q (o :: rest) a w :=
  wpList_plain hgd fun _ hK => wp_append_row w s x t ho base e size bytes z ht hinfo hzs hsz v n xs hs hown A m c news hx hl hr h1 h63 hbytes hbase fun v' w' h2 h3 h4 h5 => hK _ _ (h v' w' h2 h3 h4 h5)
theorem step_append_row {ops : Array Oper} {o : Oper} {a : Act} {K : Act → World → Prop} {Q : Exit → Act → World → Prop} {E : Prop} (hgd : o.guard = none) (s x : Operand) (t : TypeId) 
    (ho : o.op = .call { callee := .builtin .append, args := #[s, x], argTypes := #[t, t] }) (base : Nat) (e : TypeId) (size bytes : Nat) (z : Value) (ht : P.underlying t = some (.slice e)) (hinfo : (P.info? e).map (fun i => (i.zero, i.size, i.bytes)) = some (some z, size, bytes))
    (hzs : z.cells.size = size) (hsz : 0 < size)
    (v : Value) (n : Nat) (xs : List Value) (hs : a.eval s = v) (hown : w.ownsRow base e size v n xs)
    (A : Option Addr) (m c : Nat) (news : List Value) (hx : a.eval x = .slice A m c) (hl : news.length = m * size) (hr : Sits w A news) (h1 : ∀ u ∈ news, u.oneCell' = true)
    (h63 : n + m ≤ maxLen) (hbytes : (n + m) * bytes ≤ 140737488355328) (hbase : base ≤ w.heap.size)
    (h : ∀ v' w', w'.ownsRow base e size v' (n + m) (xs ++ news) → Below base w w' → w.grownBy w' v.ownBlock → (v'.ownBlock = v.ownBlock ∨ v'.ownBlock = some w.heap.size) → K (a.put o.dst v') w') :
    if Region.wanted o (yielded ops a.tmps) = true then Oper.wp P o a w K Q else E := by
  have hw : Region.wanted o (yielded ops a.tmps) = true := by simp [Region.wanted, hgd]
  rw [if_pos hw]
  exact wp_append_row w s x t ho base e size bytes z ht hinfo hzs hsz v n xs hs hown A m c news hx hl hr h1 h63 hbytes hbase h
end
/-- only the row that v stands in has changed, and what is new -/
theorem grown_tr {a b c : World} {r r2 : Option Nat} (h : a.grownBy b r) (k : b.grownBy c r2) (hr : r2 = r ∨ ∃ g, r2 = some g ∧ a.heap.size ≤ g) : a.grownBy c r :=
  ⟨k.os.trans h.os, k.tape.trans h.tape, k.output.trans h.output, Nat.le_trans h.size k.size, fun i hi hn => by
    refine (k.block i (Nat.lt_of_lt_of_le hi h.size) ?_).trans (h.block i hi hn)
    rcases hr with rfl | ⟨g, rfl, hg⟩
    · exact hn
    · intro e; injection e; omega⟩
theorem grown_ext {a b : World} {r : Option Nat} (h : Ext a b) : a.grownBy b r := ⟨h.os, h.tape, h.output, h.size, fun i hi _ => h.block i hi⟩
theorem grown_below {a b : World} {r : Option Nat} {B : Nat} (h : a.grownBy b r) (hB : B ≤ a.heap.size) (hr : ∀ g, r = some g → B ≤ g) : Below B a b :=
  ⟨h.os, h.tape, h.output, h.size, fun i hi => h.block i (by omega) (fun e => by have := hr i e.symm; omega)⟩
/-- where a value's row lies: as before, or in memory that a did not have -/
def RowIn (a : World) (r : Option Nat) (v : Value) : Prop := v.ownBlock = r ∨ ∃ g, v.ownBlock = some g ∧ a.heap.size ≤ g
theorem RowIn.tr {a b : World} {r : Option Nat} {v v' : Value} (h : RowIn a r v) (hs : a.heap.size ≤ b.heap.size) (k : RowIn b v.ownBlock v') : RowIn a r v' := by
  rcases k with e | ⟨g, e, hg⟩
  · unfold RowIn; rw [e]; exact h
  · exact .inr ⟨g, e, by omega⟩
end Go.Proofs.YtlfnpkjfnafeaaaDoor
/- The walks of the reference that lists the atoms of a valid expression: clusterlocksref07.Add, Atoms, ValidExpr. -/
namespace Go.Proofs.YtlfnpkjfnafeaaaDoor
open Go.RowKit
set_option maxRecDepth 100000
set_option linter.unusedVariables false
theorem raddL_none {kids : List CL.Ex} {j : Nat} {l : List CL.At} (hj : j < kids.length) (h : CL.radd kids[j] l = none) : CL.raddL (kids.drop j) l = none := by
  rw [List.drop_eq_getElem_cons hj]; simp only [CL.raddL, h]
theorem raddL_some {kids : List CL.Ex} {j : Nat} {l x : List CL.At} (hj : j < kids.length) (h : CL.radd kids[j] l = some x) : CL.raddL (kids.drop j) l = CL.raddL (kids.drop (j + 1)) x := by
  rw [List.drop_eq_getElem_cons hj]; simp only [CL.raddL, h]
theorem raddL_end {kids : List CL.Ex} {j : Nat} {l : List CL.At} (hj : kids.length ≤ j) : CL.raddL (kids.drop j) l = some l := by
  rw [List.drop_eq_nil_of_le hj]; simp only [CL.raddL]
theorem sizeL_step {kids : List CL.Ex} {j : Nat} (hj : j < kids.length) : CL.sizeL (kids.drop j) = CL.size kids[j] + CL.sizeL (kids.drop (j + 1)) := by
  rw [List.drop_eq_getElem_cons hj]; simp only [CL.sizeL]
theorem radd_len (e : CL.Ex) : ∀ l x : List CL.At, CL.radd e l = some x → x.length ≤ l.length + CL.size e := by
  induction e using CL.Ex.ind with
  | h k a kids ih =>
    have hL : ∀ (ks : List CL.Ex), (∀ e ∈ ks, ∀ l x : List CL.At, CL.radd e l = some x → x.length ≤ l.length + CL.size e) → ∀ l x : List CL.At, CL.raddL ks l = some x → x.length ≤ l.length + CL.sizeL ks := by
      intro ks
      induction ks with
      | nil => intro _ l x h; simp [CL.raddL] at h; simp [h]
      | cons e ks ihk =>
        intro hk l x h
        simp only [CL.raddL] at h
        split at h
        · cases h
        · rename_i y hy
          have h1 := hk e (by simp) l y hy
          have h2 := ihk (fun x hx => hk x (by simp [hx])) _ _ h
          simp only [CL.sizeL]; omega
    intro l x h
    simp only [CL.radd] at h
    split at h
    · split at h
      · injection h with h
        subst h
        simp only [CL.size]
        split
        · omega
        · simp
      · cases h
    · split at h
      · cases h
      · have := hL kids ih l x h
        simp only [CL.size]; omega
def AddPost (base : Nat) (e : CL.Ex) (l : List CL.At) (r0 : Option Nat) (w : World) (r : Ending) (w' : World) : Prop :=
  (match CL.radd e l with
    | none => ∃ v, r = .returned (.tuple #[v, .bool false])
    | some x => ∃ v, r = .returned (.tuple #[v, .bool true]) ∧ w'.ownsRow base 25 3 v x.length (ats x) ∧ RowIn w r0 v) ∧ w.grownBy w' r0
theorem AddPost.mk_n {base : Nat} {e : CL.Ex} {l : List CL.At} {r0 : Option Nat} {w w' : World} {v : Value} (h : CL.radd e l = none) (hg : w.grownBy w' r0) : AddPost base e l r0 w (.returned (.tuple #[v, .bool false])) w' := by
  unfold AddPost; rw [h]; exact ⟨⟨v, rfl⟩, hg⟩
theorem AddPost.mk_s {base : Nat} {e : CL.Ex} {l x : List CL.At} {r0 : Option Nat} {w w' : World} {v : Value} (h : CL.radd e l = some x) (ho : w'.ownsRow base 25 3 v x.length (ats x)) (hr : RowIn w r0 v) (hg : w.grownBy w' r0) : AddPost base e l r0 w (.returned (.tuple #[v, .bool true])) w' := by
  unfold AddPost; rw [h]; exact ⟨⟨v, rfl, ho, hr⟩, hg⟩
theorem AddPost.un_n {base : Nat} {e : CL.Ex} {l : List CL.At} {r0 : Option Nat} {w w' : World} {r : Ending} (h : CL.radd e l = none) (hp : AddPost base e l r0 w r w') : ∃ v, r = .returned (.tuple #[v, .bool false]) ∧ w.grownBy w' r0 := by
  unfold AddPost at hp; rw [h] at hp; obtain ⟨⟨v, hv⟩, hg⟩ := hp; exact ⟨v, hv, hg⟩
theorem AddPost.un_s {base : Nat} {e : CL.Ex} {l x : List CL.At} {r0 : Option Nat} {w w' : World} {r : Ending} (h : CL.radd e l = some x) (hp : AddPost base e l r0 w r w') : ∃ v, r = .returned (.tuple #[v, .bool true]) ∧ w'.ownsRow base 25 3 v x.length (ats x) ∧ RowIn w r0 v ∧ w.grownBy w' r0 := by
  unfold AddPost at hp; rw [h] at hp; obtain ⟨⟨v, hv, h1, h2⟩, hg⟩ := hp; exact ⟨v, hv, h1, h2, hg⟩
theorem leaf_n {k : Int} {a : CL.At} {l : List CL.At} (h : ¬ (k = 0 ∧ CL.vatom a = true)) : CL.radd (.mk k a []) l = none := by simp only [CL.radd]; rw [if_pos trivial, if_neg h]
theorem leaf_s {a : CL.At} {l : List CL.At} (h : CL.vatom a = true) : CL.radd (.mk 0 a []) l = some (if a ∈ l then l else l ++ [a]) := by simp [CL.radd, h]
set_option maxHeartbeats 3200000 in
theorem clusterlocksref07.Add_c (e : CL.Ex) : ∀ (w : World) (B : Nat) (cs : List Value) (l : List CL.At) (base : Nat) (A : Option Addr) (c : Nat), Rd w B e cs → B ≤ base → base ≤ w.heap.size → w.ownsRow base 25 3 (.slice A l.length c) l.length (ats l) → l.length + CL.size e ≤ 1000 →
    Calls Tryd.prog 58 #[.slice A l.length c, .agg cs.toArray] w (AddPost base e l (Value.slice A l.length c).ownBlock w) := by
  induction e using CL.Ex.ind with
  | h k a kids ih =>
    intro w B cs l base A0 c0 hR hBb hbs hown h8
    obtain ⟨A, c, rfl, hnm, hkl, hkc, hK⟩ := hR.inv
    obtain ⟨nm, m, u⟩ := a
    have IH := Lib.hid ih
    clear ih hR
    unfold maxLen at hkl
    have hsz : CL.size (.mk k ⟨nm, ⟨m, u⟩⟩ kids) = 1 + CL.sizeL kids := by simp [CL.size]
    obtain ⟨bE, hx0⟩ := box1 w #[.int .i64 k, .string ⟨nm.toArray⟩, .int .i64 m, .int .i64 u, .slice A kids.length c] 28
    have hz0 := hx0.size
    have hbl := bE.lt
    have hg := at_guard
    by_cases hkids : kids = []
    · subst hkids
      simp only [List.length_nil] at bE hx0 hz0 hbl
      by_cases hva : k = 0 ∧ CL.vatom ⟨nm, ⟨m, u⟩⟩ = true
      · obtain ⟨rfl, hva⟩ := hva
        have HP := Lib.hid (leaf_s (l := l) hva)
        have hv1 : CL.vname nm = true := by simp [CL.vatom] at hva; exact hva.1
        have hv2 : CL.usable ⟨m, u⟩ = true := by simp [CL.vatom] at hva; exact hva.2
        clear hva
        have HN : Hid ((⟨nm, ⟨m, u⟩⟩ : CL.At) ∉ l.take 0) := Lib.hid (by simp)
        go_enter Tryd.func58, Tryd.ntmps58
        go_wp2_with (first
          | (go_at_call 84; (with_reducible refine (clusterlocksref05.ValidName_c nm _ hnm).mono ?_); rintro r w' ⟨rfl, rfl⟩)
          | (go_at_call 85; (with_reducible refine (clusterlocksref07.Usable_c m u _).mono ?_); rintro r w' ⟨rfl, hx⟩))
        have hx2 := hx0.tr hx
        have HO := Lib.hid (own_ext hown hx2)
        replace bE := bE.ext hx
        go_loopw [6] (fun i wr => ∃ j : Nat, j ≤ l.length ∧ i = .int .i64 j ∧ Ext w' wr ∧ Hid ((⟨nm, ⟨m, u⟩⟩ : CL.At) ∉ l.take j)) (fun i _ => l.length - (intOf i).toNat)
        case atStart => exact ⟨0, by omega, rfl, Ext.rfl', HN⟩
        case round =>
          obtain ⟨j, hj, rfl, hy, HJ⟩ := hrel
          obtain ⟨wo, rfl⟩ : ∃ wo : World, wo = wr := ⟨_, rfl⟩
          by_cases hlt : j < l.length
          · obtain ⟨b, o, rfl, c0, c1, c2⟩ := ((Sits.of_own hown).ext (hx2.tr hy)).atoms hlt
            have H1 := Lib.hid (List.getElem_mem hlt)
            have H3 := Lib.hid (out_step HJ.out hlt)
            have bEr := bE.ext hy
            have q0 := ExtOf.cell (bEr.cell 1)
            have q1 := ExtOf.cell (bEr.cell 2)
            have q2 := ExtOf.cell (bEr.cell 3)
            generalize l[j] = x at *
            obtain ⟨xn, xm, xu⟩ := x
            simp only at c0 c1 c2
            have q3 := ExtOf.cell c0
            have q4 := ExtOf.cell c1
            have q5 := ExtOf.cell c2
            have hq := at_eql xn nm xm xu m u
            by_cases heq : (⟨xn, ⟨xm, xu⟩⟩ : CL.At) = ⟨nm, ⟨m, u⟩⟩
            · have hmem := H1.out
              rw [heq] at hmem
              rw [decide_eq_true heq] at hq
              have HP2 := Lib.hid (HP.out.trans (by rw [if_pos hmem]))
              clear heq hmem c0 c1 c2
              go_wp2_with fail
              refine wp_region_ext_lit (by kernel_rfl) (by kernel_rfl) ?_
              repeat (go_big_quiet_step (fail))
              refine wpQuiet_nil ?_
              intro wq hw'
              obtain ⟨⟨wq', hxq⟩, hw''⟩ := hw'
              subst hw''
              go_wp2
              go_ret2
              exact AddPost.mk_s HP2.out (own_ext HO.out (hy.tr hxq)) (.inl rfl) (grown_ext (hx2.tr (hy.tr hxq)))
            · have H4 := Lib.hid (H3.out (Ne.symm heq))
              rw [decide_eq_false heq] at hq
              clear heq c0 c1 c2
              go_wp2_with fail
              refine wp_region_ext_lit (by kernel_rfl) (by kernel_rfl) ?_
              repeat (go_big_quiet_step (fail))
              refine wpQuiet_nil ?_
              intro wq hw'
              obtain ⟨⟨wq', hxq⟩, hw''⟩ := hw'
              subst hw''
              go_wp2
              exact ⟨⟨j + 1, by omega, by go_num, hy.tr hxq, H4⟩, by simp [intOf]; omega⟩
          · have hout := HJ.out
            rw [List.take_of_length_le (by omega)] at hout
            have HP2 := Lib.hid (HP.out.trans (by rw [if_neg hout]))
            clear hout
            have hxo := hx2.tr hy
            have hzo := hxo.size
            obtain ⟨e0, e1, e2, e3, e4⟩ := (bE.ext hy).c5
            go_wp2_with (at_builtin; refine wpList_append_row _ rfl (.tmp 46) (.tmp 49) _ rfl base 25 3 32 _ Tryd.underlying60 at_info rfl (by omega) _ _ _ rfl ((own_ext HO.out hy).alloc _) _ _ _ [.string ⟨nm.toArray⟩, .int .i64 m, .int .i64 u] rfl rfl (Sits.new _ _ _) (by simp [Value.oneCell']) (by simp only [maxLen]; omega) (by omega) (by simp; omega) ?_; intro v3 w3 hown3 hb3 hg3 hrow3)
            go_ret2
            refine AddPost.mk_s HP2.out ?_ ?_ ?_
            · rw [ats_snoc, List.length_append]; exact hown3
            · rcases hrow3 with e | e
              · exact .inl e
              · exact .inr ⟨_, e, by simp; omega⟩
            · exact grown_tr (grown_ext (hxo.tr (Ext.new _ _))) hg3 (.inl rfl)
      · have HP := Lib.hid (leaf_n (l := l) hva)
        have hb2 : k ≠ 0 ∨ (k = 0 ∧ CL.vname nm = false) ∨ (k = 0 ∧ CL.vname nm = true ∧ CL.usable ⟨m, u⟩ = false) := by
          by_cases h1 : k = 0
          · by_cases h2 : CL.vname nm = true
            · exact .inr (.inr ⟨h1, h2, by simpa [CL.vatom, h1, h2] using hva⟩)
            · exact .inr (.inl ⟨h1, by simpa using h2⟩)
          · exact .inl h1
        clear hva
        rcases hb2 with h1 | ⟨rfl, h2⟩ | ⟨rfl, h2, h3⟩
        all_goals
          try (have h1' : (k == 0) = false := by simpa using h1)
          go_enter Tryd.func58, Tryd.ntmps58
          go_wp2_with (first
            | (go_at_call 84; (with_reducible refine (clusterlocksref05.ValidName_c nm _ hnm).mono ?_); rintro r w' ⟨rfl, rfl⟩)
            | (go_at_call 85; (with_reducible refine (clusterlocksref07.Usable_c m u _).mono ?_); rintro r w' ⟨rfl, hx⟩))
          go_ret2
          first
            | exact AddPost.mk_n HP.out (grown_ext hx0)
            | exact AddPost.mk_n HP.out (grown_ext (hx0.tr hx))
    · have hkl0 : ((kids.length : Int) == 0) = false := beq_eq_false_iff_ne.2 (fun h => hkids (List.eq_nil_of_length_eq_zero (by omega)))
      by_cases hbad : k < 1 ∨ (kids.length : Int) < k ∨ (⟨nm, ⟨m, u⟩⟩ : CL.At) ≠ CL.noAt
      · have HP := Lib.hid (show CL.radd (.mk k ⟨nm, ⟨m, u⟩⟩ kids) l = none by simp only [CL.radd]; rw [if_neg hkids, if_pos hbad])
        have hb2 : k < 1 ∨ (1 ≤ k ∧ (kids.length : Int) < k) ∨ (1 ≤ k ∧ k ≤ (kids.length : Int) ∧ decide ((⟨nm, ⟨m, u⟩⟩ : CL.At) = CL.noAt) = false) := by
          by_cases h1 : k < 1
          · exact .inl h1
          · by_cases h2 : (kids.length : Int) < k
            · exact .inr (.inl ⟨by omega, h2⟩)
            · exact .inr (.inr ⟨by omega, by omega, by simpa [h1, h2] using hbad⟩)
        clear hbad
        have hq := at_neq0 nm m u
        rcases hb2 with h1 | ⟨h1, h2⟩ | ⟨h1, h2, h3⟩
        all_goals
          try simp only [h3] at hq
          go_enter Tryd.func58, Tryd.ntmps58
          go_wp2
          go_ret2
          exact AddPost.mk_n HP.out (grown_ext hx0)
      · have HP := Lib.hid (show CL.radd (.mk k ⟨nm, ⟨m, u⟩⟩ kids) l = CL.raddL kids l by simp only [CL.radd]; rw [if_neg hkids, if_neg hbad])
        have h1 : 1 ≤ k := by omega
        have h2 : k ≤ (kids.length : Int) := by omega
        have h3 : decide ((⟨nm, ⟨m, u⟩⟩ : CL.At) = CL.noAt) = true := by
          simp only [not_or, ne_eq, Classical.not_not] at hbad
          simpa using hbad.2.2
        clear hbad
        have hq := at_neq0 nm m u
        simp only [h3] at hq
        clear h3
        have HOWN := Lib.hid (own_ext hown hx0)
        have hro : ∀ g, (Value.slice A0 l.length c0).ownBlock = some g → base ≤ g ∧ g < w.heap.size := fun g hg => hown.lt g hg
        have HRO := Lib.hid hro
        have HNE := Lib.hid (show some w.heap.size ≠ (Value.slice A0 l.length c0).ownBlock from fun e => by have := hro _ e.symm; omega)
        clear hro hown
        go_enter Tryd.func58, Tryd.ntmps58
        go_wp2
        generalize hr0 : (Value.slice A0 l.length c0).ownBlock = r0 at *
        generalize (w.alloc (.cells #[.int .i64 k, .string ⟨nm.toArray⟩, .int .i64 m, .int .i64 u, .slice A kids.length c] 28)) = w1 at *
        go_loopw [0, 7] (fun v i wr => ∃ (j : Nat) (l' : List CL.At) (A' : Option Addr) (c' : Nat), j ≤ kids.length ∧ i = .int .i64 j ∧ v = .slice A' l'.length c' ∧ Hid (wr.ownsRow base 25 3 (.slice A' l'.length c') l'.length (ats l')) ∧ Hid (RowIn w1 r0 (.slice A' l'.length c')) ∧ w1.grownBy wr r0 ∧ l'.length + CL.sizeL (kids.drop j) ≤ 1000 ∧ Hid (CL.raddL kids l = CL.raddL (kids.drop j) l')) (fun _ i _ => kids.length - (intOf i).toNat)
        case atStart => exact ⟨0, l, _, _, by omega, rfl, rfl, HOWN, Lib.hid (.inl hr0), World.grownBy.refl _ _, by simp; omega, Lib.hid (by simp)⟩
        case round =>
          obtain ⟨j, l', A', c', hj, rfl, rfl, HO, HRI, hgr, hlen, HL⟩ := hrel
          have hbE := hgr.blk bE HNE.out
          have e4 : wr.cell? ⟨w.heap.size, 4, none⟩ = some (.slice A kids.length c) := hbE.cell 4
          have hsr := hgr.size
          have hbel : Below base w wr := ((hx0.mono hbs).trans (grown_below hgr (by omega) (fun g hg => (HRO.out g hg).1)))
          have hbl2 := hbE.lt
          by_cases hlt : j < kids.length
          · have hKr := hK.below (hbel.mono hBb)
            obtain ⟨b, o, k1, s1, m1, u1, A1, l1, x1, rfl, hbB, hR, c0, c1, c2, c3, c4⟩ := hKr.get hlt
            have hst := sizeL_step hlt
            have HLN := Lib.hid (radd_len kids[j] l')
            have HE := Lib.hid (fun h => raddL_none (l := l') hlt h)
            have HS := Lib.hid (fun x h => raddL_some (l := l') (x := x) hlt h)
            have hm := List.getElem_mem hlt
            generalize kids[j] = e at *
            have hbx : b ≠ wr.heap.size := by omega
            cases hre : CL.radd e l' with
            | none =>
              go_wp2_with (go_at_call 58; (with_reducible refine (IH.out e hm _ B _ l' base A' c' hR hBb (by omega) HO.out (by omega)).mono ?_); intro r w' hp; obtain ⟨v, rfl, hgp⟩ := hp.un_n hre)
              go_ret2
              refine AddPost.mk_n (HP.out.trans (HL.out.trans (HE.out hre))) ?_
              refine grown_tr (grown_ext hx0) (grown_tr hgr hgp ?_) (.inl rfl)
              exact HRI.out
            | some x =>
              have hlx := HLN.out x hre
              go_wp2_with (go_at_call 58; (with_reducible refine (IH.out e hm _ B _ l' base A' c' hR hBb (by omega) HO.out (by omega)).mono ?_); intro r w' hp; obtain ⟨v, rfl, hown', hri', hgp⟩ := hp.un_s hre; obtain ⟨A2, c2, rfl, _, _⟩ := own_form hown')
              exact ⟨⟨j + 1, _, A2, c2, by omega, by go_num, rfl, hown', HRI.out.tr hsr hri', grown_tr hgr hgp HRI.out, by omega, Lib.hid (HL.out.trans (HS.out x hre))⟩, by simp [intOf]; omega⟩
          · go_wp2
            go_ret2
            refine AddPost.mk_s (HP.out.trans (HL.out.trans (raddL_end (by omega)))) HO.out ?_ ?_
            · rcases HRI.out with e | ⟨g, e, hg⟩
              · exact .inl e
              · exact .inr ⟨g, e, by omega⟩
            · exact grown_tr (grown_ext hx0) hgr (.inl rfl)
end Go.Proofs.YtlfnpkjfnafeaaaDoor
/- The walk of clusterlocksref07.Atoms: the atoms of a valid expression, by the reference. -/
namespace Go.Proofs.YtlfnpkjfnafeaaaDoor
open Go.RowKit
set_option maxRecDepth 100000
set_option linter.unusedVariables false
def DiTo (x : List CL.At) (j q : Nat) : Prop := ∀ p, (hp : p < x.length) → p < q → (hj : j < x.length) → x[p].n ≠ x[j].n
theorem DiTo.zero {x : List CL.At} {j : Nat} : DiTo x j 0 := fun p _ h => by omega
theorem DiTo.step {x : List CL.At} {j q : Nat} (h : DiTo x j q) (hq : q < x.length) (hj : j < x.length) (hne : ¬ x[j].n = x[q].n) : DiTo x j (q + 1) := by
  intro p hp h1 hj'
  by_cases e : p = q
  · subst e; exact fun e => hne e.symm
  · exact h p hp (by omega) hj'
theorem DiTo.hit {x : List CL.At} {j q : Nat} (hq : q < j) (hj : j < x.length) (he : x[j].n = x[q].n) : ¬ CL.Dist x := by
  intro hd
  exact (List.pairwise_iff_getElem.1 hd) q j (by omega) hj hq he.symm
theorem DiTo.done {x : List CL.At} {j : Nat} (h : DiTo x j j) (hj : j < x.length) (hd : CL.Dist (x.take j)) : CL.Dist (x.take (j + 1)) := by
  unfold CL.Dist at *
  rw [List.take_succ_eq_append_getElem hj, List.pairwise_append]
  refine ⟨hd, by simp, fun a ha b hb => ?_⟩
  simp at hb; subst hb
  rw [List.mem_take_iff_getElem] at ha
  obtain ⟨p, hp, rfl⟩ := ha
  exact h p (by omega) (by omega) hj
/-- what the reference's list of atoms gives back -/
def RAts (e : CL.Ex) (w : World) (r : Ending) (w' : World) : Prop := ∃ v, r = .returned (.tuple #[v, .bool (CL.valid e)]) ∧ w'.ownsRow w.heap.size 25 3 v (CL.atoms e).length (ats (CL.atoms e)) ∧ Ext w w'
theorem RAts.bad {e : CL.Ex} {w w' : World} (h : CL.valid e = false) (hx : Ext w w') : RAts e w (.returned (.tuple #[.slice none 0 0, .bool false])) w' := by
  refine ⟨.slice none 0 0, by rw [h], ?_, hx⟩
  rw [show CL.atoms e = [] by simp [CL.atoms, h]]
  exact ⟨rfl, .inl ⟨rfl, rfl⟩⟩
theorem RAts.good {e : CL.Ex} {w w' : World} {v : Value} {x : List CL.At} (h : CL.valid e = true ∧ CL.atoms e = x) (ho : w'.ownsRow w.heap.size 25 3 v x.length (ats x)) (hx : Ext w w') : RAts e w (.returned (.tuple #[v, .bool true])) w' :=
  ⟨v, by rw [h.1], by rw [h.2]; exact ho, hx⟩
theorem valid_small {e : CL.Ex} (h : CL.small e = false) : CL.valid e = false := by simp [CL.valid, h]
theorem valid_none {e : CL.Ex} (h : CL.radd e [] = none) : CL.valid e = false := by simp [CL.valid, h]
theorem valid_bad {e : CL.Ex} {x : List CL.At} (h : CL.radd e [] = some x) (hg : ¬ CL.Good x) : CL.valid e = false := by simp [CL.valid, h, hg]
theorem valid_good {e : CL.Ex} {x : List CL.At} (hs : CL.small e = true) (h : CL.radd e [] = some x) (hg : CL.Good x) : CL.valid e = true ∧ CL.atoms e = x := by
  have hv : CL.valid e = true := by simp [CL.valid, h, hg, hs]
  exact ⟨hv, by simp [CL.atoms, hv]; exact (CL.radd_coll e [] x h).symm⟩
theorem Add_0 (e : CL.Ex) (w : World) (B : Nat) (cs : List Value) (base : Nat) (hR : Rd w B e cs) (hB : B ≤ base) (hb : base ≤ w.heap.size) (h8 : CL.size e ≤ 900) :
    Calls Tryd.prog 58 #[.slice none 0 0, .agg cs.toArray] w (AddPost base e [] none w) := clusterlocksref07.Add_c e w B cs [] base none 0 hR hB hb ⟨rfl, .inl ⟨rfl, rfl⟩⟩ (by simp; omega)
set_option maxHeartbeats 1600000 in
theorem clusterlocksref07.Atoms_c (e : CL.Ex) (w : World) (B : Nat) (cs : List Value) (hR : Rd w B e cs) (hB : B ≤ w.heap.size) : Calls Tryd.prog 32 #[.agg cs.toArray] w (RAts e w) := by
  obtain ⟨k, s, m, u, A, l, c, rfl⟩ := hR.shape
  obtain ⟨bE, hx0⟩ := box1 w #[.int .i64 k, .string s, .int .i64 m, .int .i64 u, .slice A l c] 28
  have hz0 := hx0.size
  cases hs : CL.small e
  · have hn : CL.nod e = 0 := by simp [CL.nod, hs]
    have HV := Lib.hid (valid_small hs)
    go_enter Tryd.func32, Tryd.ntmps32
    go_wp2_with (go_at_call 57; (with_reducible refine (clusterlocksref07.Nodes_c e _ B _ (hR.ext hx0 hB) (by omega)).mono ?_); rintro r w' ⟨rfl, hx⟩)
    go_ret2
    exact RAts.bad HV.out (hx0.tr hx)
  · have hsz : CL.size e ≤ 24 := by simp [CL.small] at hs; exact hs.2
    have hn : ((CL.nod e : Int) == 0) = false := by
      have h1 := CL.size_pos e
      have h2 : CL.nod e = CL.size e := by simp [CL.nod, hs]
      exact beq_eq_false_iff_ne.2 (by omega)
    have HS := Lib.hid hs
    clear hs
    cases hr : CL.radd e [] with
    | none =>
      have HV := Lib.hid (valid_none hr)
      go_enter Tryd.func32, Tryd.ntmps32
      go_wp2_with (first
        | (go_at_call 57; (with_reducible refine (clusterlocksref07.Nodes_c e _ B _ (hR.ext hx0 hB) (by omega)).mono ?_); rintro r w' ⟨rfl, hx⟩; obtain ⟨e0, e1, e2, e3, e4⟩ := (bE.ext hx).c5; have hz1 := hx.size)
        | (go_at_call 58; (with_reducible refine (Add_0 e _ B _ w.heap.size ((hR.ext hx0 hB).ext hx (by omega)) hB (by omega) (by omega)).mono ?_); intro r w'' hp; obtain ⟨v, rfl, hgp⟩ := hp.un_n hr))
      all_goals
        go_ret2
        exact RAts.bad HV.out ((hx0.tr hx).trans (grown_below hgp (by omega) (fun g h => by cases h)))
    | some x =>
      go_enter Tryd.func32, Tryd.ntmps32
      go_wp2_with (first
        | (go_at_call 57; (with_reducible refine (clusterlocksref07.Nodes_c e _ B _ (hR.ext hx0 hB) (by omega)).mono ?_); rintro r w' ⟨rfl, hx⟩; obtain ⟨e0, e1, e2, e3, e4⟩ := (bE.ext hx).c5; have hz1 := hx.size)
        | (go_at_call 58; (with_reducible refine (Add_0 e _ B _ w.heap.size ((hR.ext hx0 hB).ext hx (by omega)) hB (by omega) (by omega)).mono ?_); intro r w'' hp; obtain ⟨v, rfl, hown, hri, hgp⟩ := hp.un_s hr; obtain ⟨A2, c2, rfl, hc1, hc2⟩ := own_form hown))
      all_goals have hxx : Ext w w'' := (hx0.tr hx).trans (grown_below hgp (by omega) (fun g h => by cases h))
      · rename_i h9
        go_ret2
        refine RAts.bad (valid_bad hr (fun hg => ?_)) hxx
        have := hg.1
        omega
      · rename_i h9
        have h8 : x.length ≤ 8 := by omega
        have HD : Hid (CL.Dist (x.take 0)) := Lib.hid (by simp [CL.Dist])
        have HOWN := Lib.hid hown
        have hr2 := Sits.of_own hown
        have HR := Lib.hid hr
        have hz2 := hgp.size
        clear hown hr hri hgp
        go_loopw [6, 7] (fun i q wr => ∃ j : Nat, j ≤ x.length ∧ i = .int .i64 j ∧ Ext w'' wr ∧ Hid (CL.Dist (x.take j))) (fun i _ _ => x.length - (intOf i).toNat)
        case atStart => exact ⟨0, by omega, rfl, Ext.rfl', HD⟩
        case round =>
          obtain ⟨j, hj, rfl, hy, HJ⟩ := hrel
          by_cases hlt : j < x.length
          · go_wp2
            go_loopw [7] (fun i2 wr2 => ∃ q : Nat, q ≤ j ∧ i2 = .int .i64 q ∧ Ext w'' wr2 ∧ Hid (DiTo x j q)) (fun i2 _ => j - (intOf i2).toNat)
            case atStart => exact ⟨0, by omega, rfl, hy, Lib.hid DiTo.zero⟩
            case round =>
              obtain ⟨q, hq, rfl, hy2, HQ⟩ := hrel
              by_cases hlt2 : q < j
              · obtain ⟨b, o, e1, c0, c1, c2⟩ := (hr2.ext hy2).atoms hlt
                obtain ⟨b', o', e2, d0, d1, d2⟩ := (hr2.ext hy2).atoms (show q < x.length by omega)
                obtain rfl := e1
                injection e2 with e2
                injection e2 with e2 e3
                subst e2 e3
                have H1 := Lib.hid (DiTo.hit hlt2 hlt)
                have H2 := Lib.hid (HQ.out.step (by omega) hlt)
                clear c1 c2 d1 d2
                generalize x[j].n = n1 at *
                generalize x[q].n = n2 at *
                have q0 := ExtOf.cell c0
                have q1 := ExtOf.cell d0
                have hqi : (q : Int) < (x.length : Int) := by omega
                by_cases heq : n1 = n2
                · have H3 := Lib.hid (H1.out heq)
                  have H4 := Lib.hid (valid_bad HR.out (fun hg => H3.out hg.2))
                  subst heq
                  go_wp2_with fail
                  refine wp_region_ext_lit (by kernel_rfl) (by kernel_rfl) ?_
                  repeat (go_big_quiet_step (fail))
                  refine wpQuiet_nil ?_
                  intro wq hw'
                  obtain ⟨⟨wq', hxq⟩, hw''⟩ := hw'
                  subst hw''
                  go_wp2
                  go_ret2
                  exact RAts.bad H4.out (hxx.tr (hy2.tr hxq))
                · have H3 := Lib.hid (H2.out heq)
                  have hne : (n1 == n2) = false := beq_eq_false_iff_ne.2 heq
                  clear heq
                  go_wp2_with fail
                  refine wp_region_ext_lit (by kernel_rfl) (by kernel_rfl) ?_
                  repeat (go_big_quiet_step (fail))
                  refine wpQuiet_nil ?_
                  intro wq hw'
                  obtain ⟨⟨wq', hxq⟩, hw''⟩ := hw'
                  subst hw''
                  go_wp2
                  exact ⟨⟨q + 1, by omega, by go_num, hy2.tr hxq, H3⟩, by simp [intOf]; omega⟩
              · obtain rfl : q = j := by omega
                have H3 := Lib.hid (HQ.out.done hlt HJ.out)
                go_wp2
                exact ⟨⟨q + 1, by omega, by go_num, hy2, H3⟩, by simp [intOf]; omega⟩
          · have H3 := Lib.hid (valid_good HS.out HR.out ⟨h8, by have := HJ.out; rwa [List.take_of_length_le (by omega)] at this⟩)
            go_wp2
            go_ret2
            exact RAts.good H3.out (own_ext HOWN.out hy) (hxx.tr hy)
theorem clusterlocksref07.ValidExpr_c (e : CL.Ex) (w : World) (B : Nat) (cs : List Value) (hR : Rd w B e cs) (hB : B ≤ w.heap.size) : Calls Tryd.prog 14 #[.agg cs.toArray] w fun r w' => r = .returned (.bool (CL.valid e)) ∧ Ext w w' := by
  obtain ⟨k, s, m, u, A, l, c, rfl⟩ := hR.shape
  have hx0 := Ext.new w (.cells #[.int .i64 k, .string s, .int .i64 m, .int .i64 u, .slice A l c] 28)
  have hz0 := hx0.size
  go_enter Tryd.func14, Tryd.ntmps14
  go_wp2_with (go_at_call 32; (with_reducible refine (clusterlocksref07.Atoms_c e _ B _ (hR.ext hx0 hB) (by omega)).mono ?_); rintro r w' ⟨v, rfl, hown, hx⟩; obtain ⟨A2, c2, rfl, hc1, hc2⟩ := own_form hown)
  go_ret
  exact ⟨rfl, hx0.tr hx⟩
end Go.Proofs.YtlfnpkjfnafeaaaDoor
/- The walks of the program's printer: Valid, FormatExpr, Format; the same of the reference for Valid. -/
namespace Go.Proofs.YtlfnpkjfnafeaaaDoor
open Go.RowKit
set_option linter.unusedVariables false
set_option linter.unusedSimpArgs false
set_option maxRecDepth 100000
/-- the table of the library's that Itoa reads -/
abbrev T10 (w : World) : Prop := Lib.TabIs Tryd.prog w "internal/strconv.uint64pow10" .u64 Lib.pow10Tab
theorem T10.ext {w w' : World} (h : T10 w) (hx : Ext w w') : T10 w' := by
  unfold T10 Lib.TabIs World.var? at *
  obtain ⟨g, hg, hc⟩ := Option.bind_eq_some_iff.1 h
  rw [hg]
  simp only [Option.bind_some]
  have hlt : g < w.heap.size := by
    by_cases hlt : g < w.heap.size
    · exact hlt
    · rw [Array.getElem?_eq_none (by omega)] at hc; cases hc
  rw [hx.block g hlt]; exact hc
theorem itoa1000 : ∀ i : Nat, i < 1001 → Lib.itoa (i : Int) = CL.digits i := by decide +kernel
set_option maxHeartbeats 1600000 in
theorem request.Valid_c (q : CL.Rq) (w : World) (B : Nat) (cs : List Value) (hR : Rd w B q.e cs) (hB : B ≤ w.heap.size) :
    Calls Tryd.prog 15 #[.agg (cs ++ [Value.int .i64 q.p, Value.int .i64 q.m]).toArray] w fun r w' => r = .returned (.bool (CL.validQ q)) ∧ Ext w w' := by
  have HV0 : CL.validQ q = (CL.valid q.e && decide (0 ≤ q.p) && decide (q.p ≤ 7) && decide (0 ≤ q.m) && decide (q.m ≤ 1000)) := by
    simp only [CL.validQ, Bool.and_assoc, Bool.decide_and]
  have HV := Lib.hid HV0
  clear HV0
  obtain ⟨e, p, m0⟩ := q
  simp only at *
  obtain ⟨k, s, m, u, A, l, c, rfl⟩ := hR.shape
  have hx0 := Ext.new w (.cells #[.int .i64 k, .string s, .int .i64 m, .int .i64 u, .slice A l c, .int .i64 p, .int .i64 m0] 30)
  have bE := Blk.new w 30 #[.int .i64 k, .string s, .int .i64 m, .int .i64 u, .slice A l c, .int .i64 p, .int .i64 m0]
  have H := request.ValidExpr_c e _ B _ (hR.ext hx0 hB) (by simp only [World.size_alloc]; omega)
  cases hv : CL.valid e
  · rw [hv] at H
    go_enter Tryd.func15, Tryd.ntmps15
    go_wp2_with (go_at_call 13; refine H.mono ?_; rintro r w1 ⟨rfl, hx1⟩; have e5 := (bE.ext hx1).cell 5; have e6 := (bE.ext hx1).cell 6; simp only [List.getElem?_toArray, List.getElem?_cons_succ, List.getElem?_cons_zero] at e5 e6)
    go_ret
    refine ⟨ret_bool ?_, hx0.tr hx1⟩
    rw [HV.out, hv]; first | (simp_all; done) | (simp_all; intros; omega)
  · rw [hv] at H
    by_cases h1 : 0 ≤ p
    · by_cases h2 : p ≤ 7
      · by_cases h3 : 0 ≤ m0
        · by_cases h4 : m0 ≤ 1000
          · go_enter Tryd.func15, Tryd.ntmps15
            go_wp2_with (go_at_call 13; refine H.mono ?_; rintro r w1 ⟨rfl, hx1⟩; have e5 := (bE.ext hx1).cell 5; have e6 := (bE.ext hx1).cell 6; simp only [List.getElem?_toArray, List.getElem?_cons_succ, List.getElem?_cons_zero] at e5 e6)
            go_ret
            refine ⟨ret_bool ?_, hx0.tr hx1⟩
            rw [HV.out, hv]; first | (simp_all; done) | (simp_all; intros; omega)
          · go_enter Tryd.func15, Tryd.ntmps15
            go_wp2_with (go_at_call 13; refine H.mono ?_; rintro r w1 ⟨rfl, hx1⟩; have e5 := (bE.ext hx1).cell 5; have e6 := (bE.ext hx1).cell 6; simp only [List.getElem?_toArray, List.getElem?_cons_succ, List.getElem?_cons_zero] at e5 e6)
            go_ret
            refine ⟨ret_bool ?_, hx0.tr hx1⟩
            rw [HV.out, hv]; first | (simp_all; done) | (simp_all; intros; omega)
        · go_enter Tryd.func15, Tryd.ntmps15
          go_wp2_with (go_at_call 13; refine H.mono ?_; rintro r w1 ⟨rfl, hx1⟩; have e5 := (bE.ext hx1).cell 5; have e6 := (bE.ext hx1).cell 6; simp only [List.getElem?_toArray, List.getElem?_cons_succ, List.getElem?_cons_zero] at e5 e6)
          go_ret
          refine ⟨ret_bool ?_, hx0.tr hx1⟩
          rw [HV.out, hv]; first | (simp_all; done) | (simp_all; intros; omega)
      · go_enter Tryd.func15, Tryd.ntmps15
        go_wp2_with (go_at_call 13; refine H.mono ?_; rintro r w1 ⟨rfl, hx1⟩; have e5 := (bE.ext hx1).cell 5; have e6 := (bE.ext hx1).cell 6; simp only [List.getElem?_toArray, List.getElem?_cons_succ, List.getElem?_cons_zero] at e5 e6)
        go_ret
        refine ⟨ret_bool ?_, hx0.tr hx1⟩
        rw [HV.out, hv]; first | (simp_all; done) | (simp_all; intros; omega)
    · go_enter Tryd.func15, Tryd.ntmps15
      go_wp2_with (go_at_call 13; refine H.mono ?_; rintro r w1 ⟨rfl, hx1⟩; have e5 := (bE.ext hx1).cell 5; have e6 := (bE.ext hx1).cell 6; simp only [List.getElem?_toArray, List.getElem?_cons_succ, List.getElem?_cons_zero] at e5 e6)
      go_ret
      refine ⟨ret_bool ?_, hx0.tr hx1⟩
      rw [HV.out, hv]; first | (simp_all; done) | (simp_all; intros; omega)
set_option maxHeartbeats 1600000 in
theorem clusterlocksref07.Valid_c (q : CL.Rq) (w : World) (B : Nat) (cs : List Value) (hR : Rd w B q.e cs) (hB : B ≤ w.heap.size) :
    Calls Tryd.prog 16 #[.agg (cs ++ [Value.int .i64 q.p, Value.int .i64 q.m]).toArray] w fun r w' => r = .returned (.bool (CL.validQ q)) ∧ Ext w w' := by
  have HV0 : CL.validQ q = (CL.valid q.e && decide (0 ≤ q.p) && decide (q.p ≤ 7) && decide (0 ≤ q.m) && decide (q.m ≤ 1000)) := by
    simp only [CL.validQ, Bool.and_assoc, Bool.decide_and]
  have HV := Lib.hid HV0
  clear HV0
  obtain ⟨e, p, m0⟩ := q
  simp only at *
  obtain ⟨k, s, m, u, A, l, c, rfl⟩ := hR.shape
  have hx0 := Ext.new w (.cells #[.int .i64 k, .string s, .int .i64 m, .int .i64 u, .slice A l c, .int .i64 p, .int .i64 m0] 30)
  have bE := Blk.new w 30 #[.int .i64 k, .string s, .int .i64 m, .int .i64 u, .slice A l c, .int .i64 p, .int .i64 m0]
  have H := clusterlocksref07.ValidExpr_c e _ B _ (hR.ext hx0 hB) (by simp only [World.size_alloc]; omega)
  cases hv : CL.valid e
  · rw [hv] at H
    go_enter Tryd.func16, Tryd.ntmps16
    go_wp2_with (go_at_call 14; refine H.mono ?_; rintro r w1 ⟨rfl, hx1⟩; have e5 := (bE.ext hx1).cell 5; have e6 := (bE.ext hx1).cell 6; simp only [List.getElem?_toArray, List.getElem?_cons_succ, List.getElem?_cons_zero] at e5 e6)
    go_ret
    refine ⟨ret_bool ?_, hx0.tr hx1⟩
    rw [HV.out, hv]; first | (simp_all; done) | (simp_all; intros; omega)
  · rw [hv] at H
    by_cases h1 : 0 ≤ p
    · by_cases h2 : p ≤ 7
      · by_cases h3 : 0 ≤ m0
        · by_cases h4 : m0 ≤ 1000
          · go_enter Tryd.func16, Tryd.ntmps16
            go_wp2_with (go_at_call 14; refine H.mono ?_; rintro r w1 ⟨rfl, hx1⟩; have e5 := (bE.ext hx1).cell 5; have e6 := (bE.ext hx1).cell 6; simp only [List.getElem?_toArray, List.getElem?_cons_succ, List.getElem?_cons_zero] at e5 e6)
            go_ret
            refine ⟨ret_bool ?_, hx0.tr hx1⟩
            rw [HV.out, hv]; first | (simp_all; done) | (simp_all; intros; omega)
          · go_enter Tryd.func16, Tryd.ntmps16
            go_wp2_with (go_at_call 14; refine H.mono ?_; rintro r w1 ⟨rfl, hx1⟩; have e5 := (bE.ext hx1).cell 5; have e6 := (bE.ext hx1).cell 6; simp only [List.getElem?_toArray, List.getElem?_cons_succ, List.getElem?_cons_zero] at e5 e6)
            go_ret
            refine ⟨ret_bool ?_, hx0.tr hx1⟩
            rw [HV.out, hv]; first | (simp_all; done) | (simp_all; intros; omega)
        · go_enter Tryd.func16, Tryd.ntmps16
          go_wp2_with (go_at_call 14; refine H.mono ?_; rintro r w1 ⟨rfl, hx1⟩; have e5 := (bE.ext hx1).cell 5; have e6 := (bE.ext hx1).cell 6; simp only [List.getElem?_toArray, List.getElem?_cons_succ, List.getElem?_cons_zero] at e5 e6)
          go_ret
          refine ⟨ret_bool ?_, hx0.tr hx1⟩
          rw [HV.out, hv]; first | (simp_all; done) | (simp_all; intros; omega)
      · go_enter Tryd.func16, Tryd.ntmps16
        go_wp2_with (go_at_call 14; refine H.mono ?_; rintro r w1 ⟨rfl, hx1⟩; have e5 := (bE.ext hx1).cell 5; have e6 := (bE.ext hx1).cell 6; simp only [List.getElem?_toArray, List.getElem?_cons_succ, List.getElem?_cons_zero] at e5 e6)
        go_ret
        refine ⟨ret_bool ?_, hx0.tr hx1⟩
        rw [HV.out, hv]; first | (simp_all; done) | (simp_all; intros; omega)
    · go_enter Tryd.func16, Tryd.ntmps16
      go_wp2_with (go_at_call 14; refine H.mono ?_; rintro r w1 ⟨rfl, hx1⟩; have e5 := (bE.ext hx1).cell 5; have e6 := (bE.ext hx1).cell 6; simp only [List.getElem?_toArray, List.getElem?_cons_succ, List.getElem?_cons_zero] at e5 e6)
      go_ret
      refine ⟨ret_bool ?_, hx0.tr hx1⟩
      rw [HV.out, hv]; first | (simp_all; done) | (simp_all; intros; omega)

/-- the printer's state: the builder at b holds l, the argument stands boxed -/
structure FS (T : TypeId) (C : Array Value) (w : World) (b : Nat) (w' : World) (l : List UInt8) : Prop where
  bld : Bld w' b b l
  ext : Ext w w'
  lo : w.heap.size < b
  sz : b < w'.heap.size
  blk : Blk w' w.heap.size T C
theorem Blk.c7 {w : World} {g : Nat} {t : TypeId} {a b c d e f h : Value} (hb : Blk w g t #[a, b, c, d, e, f, h]) : w.cell? ⟨g, 0, none⟩ = some a ∧ w.cell? ⟨g, 1, none⟩ = some b ∧ w.cell? ⟨g, 2, none⟩ = some c ∧ w.cell? ⟨g, 3, none⟩ = some d ∧ w.cell? ⟨g, 4, none⟩ = some e ∧ w.cell? ⟨g, 5, none⟩ = some f ∧ w.cell? ⟨g, 6, none⟩ = some h :=
  ⟨hb.cell 0, hb.cell 1, hb.cell 2, hb.cell 3, hb.cell 4, hb.cell 5, hb.cell 6⟩
theorem FS.wr {T : TypeId} {C : Array Value} {w w1 w2 : World} {b : Nat} {l l2 : List UInt8} (h : FS T C w b w1 l) (hb : Bld w2 b b l2) (hw : Wr b b w1 w2) : FS T C w b w2 l2 :=
  ⟨hb, h.ext.trans (hw.below.mono (by have := h.lo; omega)), h.lo, Nat.lt_of_lt_of_le h.sz hw.below.size, (hw.below.block _ h.lo).trans h.blk⟩
theorem FS.start {T : TypeId} {C : Array Value} {w w1 : World} (hx : Ext w w1) (hb : Blk w1 w.heap.size T C) : FS T C w w1.heap.size (w1.alloc (.cells #[.pointer none, .slice none 0 0] 82)) [] := by
  refine ⟨?_, hx.tr (Ext.new _ _), hb.lt, by simp only [World.size_alloc]; omega, hb.alloc _⟩
  exact Lib.IsBuilderF.of (Lib.fresh_isBuilder 82 5 w1)
theorem FS.write {T : TypeId} {C : Array Value} {w w1 : World} {b : Nat} {l : List UInt8} (h : FS T C w b w1 l) (e : CL.Ex) (hw : CL.Wf e) (B : Nat) (cs : List Value) (hR : Rd w B e cs) (hB : B ≤ w.heap.size) (hl : l.length + 20 * CL.size e ≤ 100000) :
    Calls Tryd.prog 42 #[.pointer (some ⟨b, 0, none⟩), .agg cs.toArray] w1 fun r w2 => r = .returned (.tuple #[]) ∧ FS T C w b w2 (l ++ CL.fmtE e) := by
  refine (request.write_c e hw w1 B _ _ cs l (hR.ext h.ext hB) (by have := h.lo; omega) h.bld h.sz (by have := h.sz; omega) hl).mono ?_
  rintro r w2 ⟨rfl, hb, hw⟩
  exact ⟨rfl, h.wr hb hw⟩
theorem FS.put {T : TypeId} {C : Array Value} {w w1 : World} {b : Nat} {l : List UInt8} (h : FS T C w b w1 l) (t : List UInt8) (hl : l.length + t.length ≤ 1000000) :
    Calls Tryd.prog 43 #[.pointer (some ⟨b, 0, none⟩), .string ⟨t.toArray⟩] w1 fun r w2 => (∃ v, r = .returned v) ∧ FS T C w b w2 (l ++ t) := by
  refine (Builder.put_c _ _ l t w1 h.bld hl (by have := h.sz; omega)).mono ?_
  rintro r w2 ⟨hv, hb, hw⟩
  exact ⟨hv, h.wr hb hw⟩
theorem FS.str {T : TypeId} {C : Array Value} {w w1 : World} {b : Nat} {l : List UInt8} (h : FS T C w b w1 l) :
    Calls Tryd.prog 45 #[.pointer (some ⟨b, 0, none⟩)] w1 fun r w2 => r = .returned (.string ⟨l.toArray⟩) ∧ Ext w w2 := by
  refine (Builder.String_c _ _ l w1 h.bld (by have := h.sz; omega)).mono ?_
  rintro r w2 ⟨rfl, hb, hw, hk⟩
  exact ⟨rfl, h.ext.trans (hw.mono (by have := h.lo; omega))⟩
theorem FS.num {T : TypeId} {C : Array Value} {w w1 : World} {b : Nat} {l : List UInt8} (h : FS T C w b w1 l) (hT : T10 w) (n : Int) (h1 : 0 ≤ n) (h2 : n ≤ 1000) :
    Calls Tryd.prog 44 #[.int .i64 n] w1 fun r w2 => r = .returned (.string ⟨(CL.digits n.toNat).toArray⟩) ∧ FS T C w b w2 l := by
  refine (strconv.Itoa_c n (by omega) (by omega) w1 (hT.ext h.ext)).mono ?_
  rintro r w2 ⟨rfl, k, os, rfl⟩
  obtain ⟨i, rfl⟩ := Int.eq_ofNat_of_zero_le h1
  refine ⟨by rw [itoa1000 i (by omega)]; rfl, ?_⟩
  have hx : Ext w1 (Sort.grow (w1.drewN k) os) := by
    refine ⟨rfl, rfl, rfl, by simp [Sort.grow, World.drewN], fun b hb => ?_⟩
    simp only [Sort.grow, World.drewN]
    exact Array.getElem?_append_left hb
  exact ⟨h.bld.ext hx, h.ext.tr hx, h.lo, Nat.lt_of_lt_of_le h.sz hx.size, h.blk.ext hx⟩
theorem digits_len {n : Int} (h1 : 0 ≤ n) (h2 : n ≤ 1000) : (CL.digits n.toNat).length ≤ 4 := by
  unfold CL.digits
  split
  · simp
  · exact CL.D_len_le 6 _ 4 (by omega)
theorem fmtX_size {e : CL.Ex} (h : CL.valid e = true) : CL.size e ≤ 24 := by
  have hs := (CL.valid_coll h).2.2
  simp only [CL.small, decide_eq_true_eq] at hs
  exact hs.2
set_option maxHeartbeats 1600000 in
theorem request.FormatExpr_c (e : CL.Ex) (w : World) (B : Nat) (cs : List Value) (hR : Rd w B e cs) (hB : B ≤ w.heap.size) :
    Calls Tryd.prog 29 #[.agg cs.toArray] w fun r w' => r = .returned (.string ⟨(CL.fmtX? e).toArray⟩) ∧ Ext w w' := by
  obtain ⟨k, s, m, u, A, l, c, rfl⟩ := hR.shape
  have hx0 := Ext.new w (.cells #[.int .i64 k, .string s, .int .i64 m, .int .i64 u, .slice A l c] 28)
  have bE := Blk.new w 28 #[.int .i64 k, .string s, .int .i64 m, .int .i64 u, .slice A l c]
  have H := request.ValidExpr_c e _ B _ (hR.ext hx0 hB) (by simp only [World.size_alloc]; omega)
  cases hv : CL.valid e
  · have hX : CL.fmtX? e = [] := by unfold CL.fmtX?; rw [hv]; rfl
    rw [hv] at H
    go_enter Tryd.func29, Tryd.ntmps29
    go_wp2_with (go_at_call 13; refine H.mono ?_; rintro r w1 ⟨rfl, hx1⟩)
    go_ret
    refine ⟨?_, hx0.tr hx1⟩
    rw [hX]; simp [results, Tryd.results29, go_sem]
  · have hX : CL.fmtX? e = CL.fmtE e := by unfold CL.fmtX?; rw [hv]; rfl
    have hz := fmtX_size hv
    have hwf := CL.valid_wf hv
    have hX := Lib.hid hX
    rw [hv] at H
    go_enter Tryd.func29, Tryd.ntmps29
    go_wp2_with (first
      | (go_at_call 13; refine H.mono ?_; rintro r w1 ⟨rfl, hx1⟩; have hF := FS.start (hx0.tr hx1) (bE.ext hx1); obtain ⟨e0, e1, e2, e3, e4⟩ := hF.blk.c5)
      | (go_at_call 42; refine (hF.write e hwf B _ hR hB (by simp only [List.length_nil]; omega)).mono ?_; rintro r w2 ⟨rfl, hF2⟩; clear hF e0 e1 e2 e3 e4)
      | (go_at_call 45; refine hF2.str.mono ?_; rintro r w3 ⟨rfl, hx3⟩))
    go_ret
    refine ⟨?_, hx3⟩
    rw [hX.out]; simp [results, Tryd.results29, go_sem]
set_option maxHeartbeats 3200000 in
theorem request.Format_c (q : CL.Rq) (w : World) (B : Nat) (cs : List Value) (hR : Rd w B q.e cs) (hB : B ≤ w.heap.size) (hT : T10 w) :
    Calls Tryd.prog 20 #[.agg (cs ++ [Value.int .i64 q.p, Value.int .i64 q.m]).toArray] w fun r w' => r = .returned (.string ⟨(CL.fmt? q).toArray⟩) ∧ Ext w w' := by
  obtain ⟨e, p, m0⟩ := q
  have Hq := fun w' hx => request.Valid_c ⟨e, p, m0⟩ w' B cs (hR.ext (w' := w') hx hB)
  simp only at *
  obtain ⟨k, s, m, u, A, l, c, rfl⟩ := hR.shape
  have hx0 := Ext.new w (.cells #[.int .i64 k, .string s, .int .i64 m, .int .i64 u, .slice A l c, .int .i64 p, .int .i64 m0] 30)
  have bE := Blk.new w 30 #[.int .i64 k, .string s, .int .i64 m, .int .i64 u, .slice A l c, .int .i64 p, .int .i64 m0]
  have H := Hq _ hx0 (by simp only [World.size_alloc]; omega)
  clear Hq
  simp only [List.cons_append, List.nil_append] at H
  obtain ⟨e0, e1, e2, e3, e4, e5, e6⟩ := bE.c7
  cases hv : CL.validQ ⟨e, p, m0⟩
  · have hX : CL.fmt? ⟨e, p, m0⟩ = [] := by unfold CL.fmt?; rw [hv]; rfl
    rw [hv] at H
    go_enter Tryd.func20, Tryd.ntmps20
    go_wp2_with (go_at_call 15; refine H.mono ?_; rintro r w1 ⟨rfl, hx1⟩)
    go_ret
    refine ⟨?_, hx0.tr hx1⟩
    rw [hX]; simp [results, Tryd.results20, go_sem]
  · have hX : CL.fmt? ⟨e, p, m0⟩ = CL.fmtE e ++ CL.numTxt CL.wPrio p ++ CL.numTxt CL.wLimit m0 := by unfold CL.fmt?; rw [hv]; rfl
    rw [hv] at H
    simp only [CL.validQ, Bool.and_eq_true, decide_eq_true_eq] at hv
    obtain ⟨hve, hp1, hp2, hm1, hm2⟩ := hv
    have hz := fmtX_size hve
    have hwf := CL.valid_wf hve
    have hlen := CL.fmtE_len hwf
    have hX := Lib.hid hX
    have hd1 := digits_len hp1 (by omega)
    have hd2 := digits_len hm1 hm2
    by_cases hp : p = 0
    · by_cases hm : m0 = 0
      · subst hp
        have Q1 : CL.numTxt CL.wPrio 0 = [] := rfl
        subst hm
        have Q2 : CL.numTxt CL.wLimit 0 = [] := rfl
        go_enter Tryd.func20, Tryd.ntmps20
        go_wp2_with (first
          | (go_at_call 15; refine H.mono ?_; rintro r w1 ⟨rfl, hx1⟩; have hF := FS.start (hx0.tr hx1) (bE.ext hx1); clear e0 e1 e2 e3 e4 e5 e6; obtain ⟨e0, e1, e2, e3, e4, e5, e6⟩ := hF.blk.c7)
          | (go_at_call 42; refine (hF.write e hwf B _ hR hB (by simp only [List.length_nil]; omega)).mono ?_; rintro r w2 ⟨rfl, hF2⟩; clear hF e0 e1 e2 e3 e4 e5 e6; obtain ⟨e0, e1, e2, e3, e4, e5, e6⟩ := hF2.blk.c7)
          | (go_at_call 45; refine hF2.str.mono ?_; rintro r w3 ⟨rfl, hx3⟩))
        go_ret
        refine ⟨?_, hx3⟩
        rw [hX.out, Q1, Q2]; simp [results, Tryd.results20, go_sem]
      · subst hp
        have Q1 : CL.numTxt CL.wPrio 0 = [] := rfl
        have hmb : (m0 == 0) = false := by simpa using hm
        have Q2 : CL.numTxt CL.wLimit m0 = 32 :: 108 :: 105 :: 109 :: 105 :: 116 :: 32 :: CL.digits m0.toNat := if_neg hm
        go_enter Tryd.func20, Tryd.ntmps20
        go_wp2_with (first
          | (go_at_call 15; refine H.mono ?_; rintro r w1 ⟨rfl, hx1⟩; have hF := FS.start (hx0.tr hx1) (bE.ext hx1); clear e0 e1 e2 e3 e4 e5 e6; obtain ⟨e0, e1, e2, e3, e4, e5, e6⟩ := hF.blk.c7)
          | (go_at_call 42; refine (hF.write e hwf B _ hR hB (by simp only [List.length_nil]; omega)).mono ?_; rintro r w2 ⟨rfl, hF2⟩; clear hF e0 e1 e2 e3 e4 e5 e6; obtain ⟨e0, e1, e2, e3, e4, e5, e6⟩ := hF2.blk.c7)
          | (go_at_call 44; refine (hF2.num hT m0 hm1 hm2).mono ?_; rintro r w3 ⟨rfl, hF3⟩; clear hF2)
          | (go_at_call 43; refine (hF3.put (32 :: 108 :: 105 :: 109 :: 105 :: 116 :: 32 :: CL.digits m0.toNat) (by simp only [List.nil_append, List.length_cons, List.length_append]; omega)).mono ?_; rintro r w4 ⟨⟨v4, rfl⟩, hF4⟩; clear hF3)
          | (go_at_call 45; refine hF4.str.mono ?_; rintro r w5 ⟨rfl, hx5⟩))
        go_ret
        refine ⟨?_, hx5⟩
        rw [hX.out, Q1, Q2]; simp [results, Tryd.results20, go_sem]
    · by_cases hm : m0 = 0
      · have hpb : (p == 0) = false := by simpa using hp
        have Q1 : CL.numTxt CL.wPrio p = 32 :: 112 :: 114 :: 105 :: 111 :: 32 :: CL.digits p.toNat := if_neg hp
        subst hm
        have Q2 : CL.numTxt CL.wLimit 0 = [] := rfl
        go_enter Tryd.func20, Tryd.ntmps20
        go_wp2_with (first
          | (go_at_call 15; refine H.mono ?_; rintro r w1 ⟨rfl, hx1⟩; have hF := FS.start (hx0.tr hx1) (bE.ext hx1); clear e0 e1 e2 e3 e4 e5 e6; obtain ⟨e0, e1, e2, e3, e4, e5, e6⟩ := hF.blk.c7)
          | (go_at_call 42; refine (hF.write e hwf B _ hR hB (by simp only [List.length_nil]; omega)).mono ?_; rintro r w2 ⟨rfl, hF2⟩; clear hF e0 e1 e2 e3 e4 e5 e6; obtain ⟨e0, e1, e2, e3, e4, e5, e6⟩ := hF2.blk.c7)
          | (go_at_call 44; refine (hF2.num hT p hp1 (by omega)).mono ?_; rintro r w3 ⟨rfl, hF3⟩; clear hF2)
          | (go_at_call 43; refine (hF3.put (32 :: 112 :: 114 :: 105 :: 111 :: 32 :: CL.digits p.toNat) (by simp only [List.nil_append, List.length_cons, List.length_append]; omega)).mono ?_; rintro r w4 ⟨⟨v4, rfl⟩, hF4⟩; clear hF3 e0 e1 e2 e3 e4 e5 e6; obtain ⟨e0, e1, e2, e3, e4, e5, e6⟩ := hF4.blk.c7)
          | (go_at_call 45; refine hF4.str.mono ?_; rintro r w5 ⟨rfl, hx5⟩))
        go_ret
        refine ⟨?_, hx5⟩
        rw [hX.out, Q1, Q2]; simp [results, Tryd.results20, go_sem]
      · have hpb : (p == 0) = false := by simpa using hp
        have Q1 : CL.numTxt CL.wPrio p = 32 :: 112 :: 114 :: 105 :: 111 :: 32 :: CL.digits p.toNat := if_neg hp
        have hmb : (m0 == 0) = false := by simpa using hm
        have Q2 : CL.numTxt CL.wLimit m0 = 32 :: 108 :: 105 :: 109 :: 105 :: 116 :: 32 :: CL.digits m0.toNat := if_neg hm
        go_enter Tryd.func20, Tryd.ntmps20
        go_wp2_with (first
          | (go_at_call 15; refine H.mono ?_; rintro r w1 ⟨rfl, hx1⟩; have hF := FS.start (hx0.tr hx1) (bE.ext hx1); clear e0 e1 e2 e3 e4 e5 e6; obtain ⟨e0, e1, e2, e3, e4, e5, e6⟩ := hF.blk.c7)
          | (go_at_call 42; refine (hF.write e hwf B _ hR hB (by simp only [List.length_nil]; omega)).mono ?_; rintro r w2 ⟨rfl, hF2⟩; clear hF e0 e1 e2 e3 e4 e5 e6; obtain ⟨e0, e1, e2, e3, e4, e5, e6⟩ := hF2.blk.c7)
          | (go_at_call 44; refine (hF2.num hT p hp1 (by omega)).mono ?_; rintro r w3 ⟨rfl, hF3⟩; clear hF2)
          | (go_at_call 43; refine (hF3.put (32 :: 112 :: 114 :: 105 :: 111 :: 32 :: CL.digits p.toNat) (by simp only [List.nil_append, List.length_cons, List.length_append]; omega)).mono ?_; rintro r w4 ⟨⟨v4, rfl⟩, hF4⟩; clear hF3 e0 e1 e2 e3 e4 e5 e6; obtain ⟨e0, e1, e2, e3, e4, e5, e6⟩ := hF4.blk.c7)
          | (go_at_call 44; refine (hF4.num hT m0 hm1 hm2).mono ?_; rintro r w5 ⟨rfl, hF5⟩; clear hF4)
          | (go_at_call 43; refine (hF5.put (32 :: 108 :: 105 :: 109 :: 105 :: 116 :: 32 :: CL.digits m0.toNat) (by simp only [List.nil_append, List.length_cons, List.length_append]; omega)).mono ?_; rintro r w6 ⟨⟨v6, rfl⟩, hF6⟩; clear hF5)
          | (go_at_call 45; refine hF6.str.mono ?_; rintro r w7 ⟨rfl, hx7⟩))
        go_ret
        refine ⟨?_, hx7⟩
        rw [hX.out, Q1, Q2]; simp [results, Tryd.results20, go_sem]
end Go.Proofs.YtlfnpkjfnafeaaaDoor
