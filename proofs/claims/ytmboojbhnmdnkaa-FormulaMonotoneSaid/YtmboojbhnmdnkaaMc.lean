
/- The mill: catalogs of four locks and two pools. -/
import Derived.Test.YtmboojbhnmdnkaaMm
namespace CL
/-- the first j resources of a mill's catalog -/
def CatTo (l : List Re) (j : Nat) : Prop := l.length = j ∧ ∀ i (h : i < l.length), ∃ x : Int, 0 ≤ x ∧ x < 4 ∧ l[i] = ⟨[UInt8.ofNat (97 + i)], 1, 1, x⟩
theorem CatTo.step {l : List Re} {j : Nat} (h : CatTo l j) {x : Int} (h0 : 0 ≤ x) (h1 : x < 4) : CatTo (l ++ [⟨[UInt8.ofNat (97 + j)], 1, 1, x⟩]) (j + 1) := by
  obtain ⟨rfl, h⟩ := h
  refine ⟨by simp, fun i hi => ?_⟩
  rcases Nat.lt_or_ge i l.length with hlt | hge
  · rw [List.getElem_append_left hlt]; exact h i hlt
  · obtain rfl : i = l.length := by simp at hi; omega
    exact ⟨x, h0, h1, by simp⟩
/-- a mill's catalog -/
def GoodCat (L : List Re) : Prop := ∃ h0 h1 h2 h3 u4 h4 u5 h5 : Int, L = [⟨[97], 1, 1, h0⟩, ⟨[98], 1, 1, h1⟩, ⟨[99], 1, 1, h2⟩, ⟨[100], 1, 1, h3⟩, ⟨[112], 2, u4, h4⟩, ⟨[113], 2, u5, h5⟩] ∧
  (0 ≤ h0 ∧ h0 < 4) ∧ (0 ≤ h1 ∧ h1 < 4) ∧ (0 ≤ h2 ∧ h2 < 4) ∧ (0 ≤ h3 ∧ h3 < 4) ∧ (1 ≤ u4 ∧ u4 ≤ 8) ∧ (0 ≤ h4 ∧ h4 < 4) ∧ (1 ≤ u5 ∧ u5 ≤ 3) ∧ (0 ≤ h5 ∧ h5 < 4)
theorem CatTo.good {l : List Re} (h : CatTo l 4) {u4 h4 u5 h5 : Int} (a : 1 ≤ u4 ∧ u4 ≤ 8) (b : 0 ≤ h4 ∧ h4 < 4) (c : 1 ≤ u5 ∧ u5 ≤ 3) (d : 0 ≤ h5 ∧ h5 < 4) : GoodCat (l ++ [⟨[112], 2, u4, h4⟩] ++ [⟨[113], 2, u5, h5⟩]) := by
  obtain ⟨hl, h⟩ := h
  match l, hl with
  | [a0, a1, a2, a3], _ =>
    obtain ⟨x0, p0, q0, e0⟩ := h 0 (by simp)
    obtain ⟨x1, p1, q1, e1⟩ := h 1 (by simp)
    obtain ⟨x2, p2, q2, e2⟩ := h 2 (by simp)
    obtain ⟨x3, p3, q3, e3⟩ := h 3 (by simp)
    simp only [List.getElem_cons_zero, List.getElem_cons_succ] at e0 e1 e2 e3
    subst e0 e1 e2 e3
    exact ⟨x0, x1, x2, x3, u4, h4, u5, h5, rfl, ⟨p0, q0⟩, ⟨p1, q1⟩, ⟨p2, q2⟩, ⟨p3, q3⟩, a, b, c, d⟩
end CL
namespace Go.Proofs.Ytmboojbhnmdnkaa
open Go.RowKit
set_option linter.unusedVariables false
set_option linter.unusedSimpArgs false
theorem Only.grow {g : Nat} {a b c : World} {r : Option Nat} (h : Only g a b) (k : b.grownBy c r) (hr : ∀ x, r = some x → a.heap.size ≤ x) : Only g a c :=
  ⟨k.os.trans h.os, k.tape.trans h.tape, k.output.trans h.output, Nat.le_trans h.size k.size, fun i hi hn => (k.block i (Nat.lt_of_lt_of_le hi h.size) (fun e => by have := hr i e.symm; omega)).trans (h.block i hi hn)⟩
theorem own_other {w w' : World} {base : Nat} {E : TypeId} {size n g : Nat} {v : Value} {xs : List Value} (h : w.ownsRow base E size v n xs) (ho : Only g w w') (hg : g < base) : w'.ownsRow base E size v n xs :=
  own_only h ho (fun e => by have := (h.lt _ e).1; omega)
theorem TapeAt.drew {w : World} {g : Nat} (h : TapeAt w g) : TapeAt w.drew g := h
theorem own_drew {w : World} {base : Nat} {E : TypeId} {size n : Nat} {v : Value} {xs : List Value} (h : w.ownsRow base E size v n xs) : w.drew.ownsRow base E size v n xs := h
theorem Blk.drew {w : World} {g : Nat} {t : TypeId} {cs : Array Value} (h : Blk w g t cs) : Blk w.drew g t cs := h
theorem re_info : (Try.prog.info? 59).map (fun i => (i.zero, i.size, i.bytes)) = some (some (.agg #[.string ⟨#[]⟩, .int .i64 0, .int .i64 0, .int .i64 0]), 4, 40) := by kernel_rfl
theorem recs_snoc (l : List CL.Re) (r : CL.Re) : recs (l ++ [r]) = recs l ++ rec r := by simp [recs]
theorem own_snoc {w : World} {base n : Nat} {v : Value} {l : List CL.Re} {nm : List UInt8} {k u h : Int} (ho : w.ownsRow base 59 4 v n (recs l ++ [.string ⟨nm.toArray⟩, .int .i64 k, .int .i64 u, .int .i64 h])) : w.ownsRow base 59 4 v n (recs (l ++ [⟨nm, k, u, h⟩])) := by rw [recs_snoc]; exact ho
theorem own_base {w : World} {base n c size b o : Nat} {E : TypeId} {A : Option Addr} {xs : List Value} (h : w.ownsRow base E size (.slice A n c) n xs) (e : A = some ⟨b, o, none⟩) : base ≤ b := by
  rcases h.2 with ⟨e', _⟩ | ⟨g, cap, cur, e', hb, _⟩
  · injection e' with e1; rw [e] at e1; cases e1
  · injection e' with e1; rw [e] at e1; injection e1 with e1; injection e1 with e1; omega
/-- what a mill's catalog comes to -/
def CatPost (w : World) (g : Nat) (r : Ending) (w' : World) : Prop := ∃ A c L, r = .returned (.slice A 6 c) ∧ CL.GoodCat L ∧ Sits w' A (recs L) ∧ (∀ b o, A = some ⟨b, o, none⟩ → w.heap.size ≤ b) ∧ Only g w w' ∧ TapeAt w' g
set_option maxHeartbeats 1600000 in
theorem clusterlocksmill.Catalog_c (g : Nat) (w : World) (h : TapeAt w g) : Calls Try.prog 22 #[.pointer (some ⟨g, 0, none⟩)] w (CatPost w g) := by
  have hgl := h.lt
  have hB := Blk.new w 9 #[.string ⟨#[97]⟩, .string ⟨#[98]⟩, .string ⟨#[99]⟩, .string ⟨#[100]⟩]
  have hx0 := Ext.new w (.cells #[.string ⟨#[97]⟩, .string ⟨#[98]⟩, .string ⟨#[99]⟩, .string ⟨#[100]⟩] 9)
  have hT := h.ext hx0
  have hs0 : (w.alloc (.cells #[.string ⟨#[97]⟩, .string ⟨#[98]⟩, .string ⟨#[99]⟩, .string ⟨#[100]⟩] 9)).heap.size = w.heap.size + 1 := by simp
  go_enter Try.func22, Try.ntmps22
  go_wp2_with fail
  generalize (w.alloc (.cells #[.string ⟨#[97]⟩, .string ⟨#[98]⟩, .string ⟨#[99]⟩, .string ⟨#[100]⟩] 9)) = w1 at *
  go_loopw [3, 5] (fun v i wr => ∃ (j : Nat) (l : List CL.Re) (A : Option Addr) (c : Nat), j ≤ 4 ∧ i = .int .i64 j ∧ v = .slice A l.length c ∧ CL.CatTo l j ∧ Hid (wr.ownsRow (w.heap.size + 1) 59 4 (.slice A l.length c) l.length (recs l)) ∧ Only g w1 wr ∧ TapeAt wr g) (fun _ i _ => 4 - (intOf i).toNat)
  case atStart => exact ⟨0, [], none, 0, by omega, rfl, rfl, ⟨rfl, fun i h => by simp at h⟩, Lib.hid ⟨rfl, .inl ⟨rfl, rfl⟩⟩, Only.rf, hT⟩
  case round =>
    obtain ⟨j, l, A, c, hj, rfl, rfl, hC, HO, hO, hTr⟩ := hrel
    obtain rfl : l.length = j := hC.1
    have HCT := Lib.hid hC
    clear hC
    have hBr : Blk wr w.heap.size 9 #[.string ⟨#[97]⟩, .string ⟨#[98]⟩, .string ⟨#[99]⟩, .string ⟨#[100]⟩] := hB.only hO (by omega)
    have hzr := hO.size
    have hown := HO.out
    by_cases hlt : l.length < 4
    · obtain ⟨cb, hcb⟩ : ∃ cb : UInt8, cb = UInt8.ofNat (97 + l.length) := ⟨_, rfl⟩
      have HCB := Lib.hid hcb
      have HCJ : Hid (∀ u : World, Blk u w.heap.size 9 #[.string ⟨#[97]⟩, .string ⟨#[98]⟩, .string ⟨#[99]⟩, .string ⟨#[100]⟩] → u.cell? ⟨w.heap.size, l.length, none⟩ = some (.string ⟨#[cb]⟩)) := Lib.hid (fun u hb => by
        rw [hcb]
        have : l.length = 0 ∨ l.length = 1 ∨ l.length = 2 ∨ l.length = 3 := by omega
        rcases this with e | e | e | e <;> rw [e]
        · exact hb.cell 0
        · exact hb.cell 1
        · exact hb.cell 2
        · exact hb.cell 3)
      have c0 := HCJ.out _ hBr
      have HB := Lib.hid hBr.drew
      have HT := Lib.hid hTr.drew
      have HO2 := Lib.hid (own_drew HO.out)
      clear hBr hTr hown hcb
      have h1w : w1.heap.size = w.heap.size + 1 := hs0
      go_wp2_with fail
      go_region_law
        (first
          | (refine step_append_sits _ (by rfl) (.tmp 13) (.tmp 21) _ (by rfl) (w.heap.size + 1) 59 4 40 _ Try.underlying41 re_info rfl (by omega) (.slice A l.length c) l.length (recs l) (by rfl) (HO3.out.alloc _) _ _ _ [.string ⟨#[cb]⟩, .int .i64 1, .int .i64 1, .int .i64 x2] (by rfl) (by rfl) (Sits.new _ _ _) (by simp [Value.oneCell']) (by simp only [maxLen]; omega) (by omega) (by simp; omega) ?_; intro v3 w3 hown3 hb3 hg3; obtain ⟨A3, c3, rfl, hc3, _⟩ := own_form hown3)
          | (go_simp; go_at_call 37; refine (Tape.Next_c g 4 _ (by omega) (by omega) HT.out).mono ?_; rintro r w2 ⟨x2, rfl, hn0, hn1, ho1, hT1⟩; have HO3 := Lib.hid (own_other HO2.out ho1 (by omega)); have c02 := HCJ.out _ (HB.out.only ho1 (by omega)); have hz2 := ho1.size; simp only [World.size_drew] at hz2))
      all_goals
        have hC5 := HCT.out.step (x := x2) (by omega) (by omega)
        rw [← HCB.out] at hC5
        have hO5 : Hid (w3.ownsRow (w.heap.size + 1) 59 4 (.slice A3 (l ++ [(⟨[cb], 1, 1, x2⟩ : CL.Re)]).length c3) (l ++ [(⟨[cb], 1, 1, x2⟩ : CL.Re)]).length (recs (l ++ [⟨[cb], 1, 1, x2⟩]))) := Lib.hid (by rw [recs_snoc, List.length_append]; exact hown3)
        have hn5 : Only g w1 w3 := ((hO.drew.tr ho1).tr (Only.of_ext (Ext.new _ _))).grow hg3 (fun x e => by have := (HO3.out.lt _ e).1; omega)
        have hT5 : TapeAt w3 g := (hT1.ext (Ext.new _ _)).grown hg3 (fun x e => by have := (HO3.out.lt _ e).1; omega)
        go_wp2
        exact ⟨⟨l.length + 1, _, A3, c3, by omega, by go_num, by simp, hC5, hO5, hn5, hT5⟩, by simp [intOf]; omega⟩
    · have h4 : l.length = 4 := by omega
      have hC4 : Hid (CL.CatTo l 4) := Lib.hid (h4 ▸ HCT.out)
      rw [h4] at hown
      have HO3 := Lib.hid hown
      have hO2 := hO
      have hT2 := hTr
      clear hT hTr hown hO HO
      simp only [h4] at *
      have hw1 : w1.heap.size = w.heap.size + 1 := hs0
      go_wp2_with (first
        | (at_builtin; refine wpList_append_row _ rfl (.tmp 23) (.tmp 30) _ rfl (w.heap.size + 1) 59 4 40 _ Try.underlying41 re_info rfl (by omega) _ 4 _ rfl (HO3.out.alloc _) _ _ _ _ rfl rfl (Sits.new _ _ _) (by simp [Value.oneCell']) (by simp only [maxLen]; omega) (by omega) (by have := HO3.out; have := hO2.size; simp; omega) ?_; intro v3 w3 hown3 hb3 hg3 hrow3; obtain ⟨A3, c3, rfl, hc3, _⟩ := own_form hown3; obtain ⟨u4, h4, HO5, b41, b42⟩ : ∃ u h : Int, w3.ownsRow (w.heap.size + 1) 59 4 (.slice A3 5 c3) 5 (recs (l ++ [⟨[112], 2, u, h⟩])) ∧ (1 ≤ u ∧ u ≤ 8) ∧ (0 ≤ h ∧ h < 4) := ⟨_, _, own_snoc hown3, by first | omega | (unfold wrap64; omega), by omega⟩; have hn5 : Only g w1 w3 := (hO2.tr (Only.of_ext (Ext.new _ _))).grow hg3 (fun x e => by have := (HO3.out.lt _ e).1; omega); have hT5 : TapeAt w3 g := (hT2.ext (Ext.new _ _)).grown hg3 (fun x e => by have := (HO3.out.lt _ e).1; omega); clear HO3 hT2 hO2 hown3; have HO3 := Lib.hid HO5; have hO2 := hn5; have hT2 := hT5; clear HO5 hn5 hT5)
        | (at_builtin; refine wpList_append_row _ rfl (.tmp 32) (.tmp 39) _ rfl (w.heap.size + 1) 59 4 40 _ Try.underlying41 re_info rfl (by omega) _ 5 _ rfl (HO3.out.alloc _) _ _ _ _ rfl rfl (Sits.new _ _ _) (by simp [Value.oneCell']) (by simp only [maxLen]; omega) (by omega) (by have := HO3.out; have := hO2.size; simp; omega) ?_; intro v3 w3 hown3 hb3 hg3 hrow3; obtain ⟨A3, c3, rfl, hc3, _⟩ := own_form hown3; obtain ⟨u5, h5, HO5, b51, b52⟩ : ∃ u h : Int, w3.ownsRow (w.heap.size + 1) 59 4 (.slice A3 6 c3) 6 (recs ((l ++ [⟨[112], 2, u4, h4⟩]) ++ [⟨[113], 2, u, h⟩])) ∧ (1 ≤ u ∧ u ≤ 3) ∧ (0 ≤ h ∧ h < 4) := ⟨_, _, own_snoc hown3, by first | omega | (unfold wrap64; omega), by omega⟩; have hn5 : Only g w1 w3 := (hO2.tr (Only.of_ext (Ext.new _ _))).grow hg3 (fun x e => by have := (HO3.out.lt _ e).1; omega); have hT5 : TapeAt w3 g := (hT2.ext (Ext.new _ _)).grown hg3 (fun x e => by have := (HO3.out.lt _ e).1; omega); clear HO3 hT2 hO2 hown3; have HO3 := Lib.hid HO5; have hO2 := hn5; have hT2 := hT5; clear HO5 hn5 hT5)
        | (go_at_call 37; refine (Tape.Next_c g _ _ (by omega) (by omega) hT2).mono ?_; rintro r w2 ⟨x2, rfl, hn0, hn1, ho1, hT1⟩; have hO3 := hO2.tr ho1; replace HO3 := Lib.hid (own_other HO3.out ho1 (by omega)); clear hO2 hT2; have hO2 := hO3; have hT2 := hT1; clear hO3 hT1 ho1))
      go_ret
      exact ⟨A3, c3, _, rfl, hC4.out.good b41 b42 b51 b52, Sits.of_own HO3.out, fun b o e => by have := own_base HO3.out e; omega, (Only.of_ext hx0).tr hO2, hT2⟩
end Go.Proofs.Ytmboojbhnmdnkaa
