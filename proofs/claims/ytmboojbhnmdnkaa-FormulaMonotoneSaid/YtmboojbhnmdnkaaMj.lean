
/- The mill: the walk of Expr. -/
import Derived.Test.YtmboojbhnmdnkaaMi
namespace Go.Proofs.Ytmboojbhnmdnkaa
open Go.RowKit
set_option linter.unusedVariables false
set_option linter.unusedSimpArgs false
def amv (r : CL.Re) (n : Int) : CL.Am := if r.k = 1 then ⟨modev n, 0⟩ else ⟨0, 1 + mdv n r.u⟩
/-- atoms for the first j resources -/
def GoodAts (L : List CL.Re) (l : List CL.At) (j : Nat) : Prop := l.length = j ∧ ∀ i (h : i < l.length) (h2 : i < L.length), l[i].n = L[i].n ∧ ∃ n, l[i].a = amv L[i] n
theorem GoodAts.step {L : List CL.Re} {l : List CL.At} {j : Nat} (h : GoodAts L l j) (hj : j < L.length) {a : CL.Am} (ha : ∃ n, a = amv L[j] n) : GoodAts L (l ++ [⟨L[j].n, a⟩]) (j + 1) := by
  obtain ⟨rfl, h⟩ := h
  refine ⟨by simp, fun i hi h2 => ?_⟩
  rcases Nat.lt_or_ge i l.length with hlt | hge
  · rw [List.getElem_append_left hlt]; exact h i hlt h2
  · obtain rfl : i = l.length := by simp at hi; omega
    simp
    exact ha
theorem _root_.CL.GoodCat.mem {L : List CL.Re} (h : CL.GoodCat L) : L.length = 6 ∧ ∀ r ∈ L, r.n.length = 1 ∧ 1 ≤ r.u ∧ r.u ≤ 1048576 := by
  obtain ⟨h0, h1, h2, h3, u4, h4, u5, h5, rfl, _, _, _, _, a, _, b, _⟩ := h
  refine ⟨rfl, fun r hr => ?_⟩
  simp only [List.mem_cons, List.not_mem_nil, or_false] at hr
  rcases hr with rfl | rfl | rfl | rfl | rfl | rfl <;> exact ⟨rfl, by simp only; omega, by simp only; omega⟩
theorem recs4 {w : World} {l : List CL.Re} {b o : Nat} (hr : Sits w (some ⟨b, o, none⟩) (recs l)) {k : Nat} (h : k < l.length) :
    w.cell? ⟨b, o + k * 4, none⟩ = some (.string ⟨l[k].n.toArray⟩) ∧ w.cell? ⟨b, o + k * 4 + 1, none⟩ = some (.int .i64 l[k].k) ∧ w.cell? ⟨b, o + k * 4 + 2, none⟩ = some (.int .i64 l[k].u) ∧ w.cell? ⟨b, o + k * 4 + 3, none⟩ = some (.int .i64 l[k].h) := by
  obtain ⟨b', o', e, h1⟩ := hr.recs h
  injection e with e; injection e with e1 e2; subst e1 e2; exact h1
theorem Ext.drew' {a b : World} (h : Ext a b) : Ext a b.drew := Below.drew h
theorem amv_val (r : CL.Re) (n : Int) : (if r.k = 1 then .agg #[.int .i64 (modev n), .int .i64 0] else .agg #[.int .i64 0, .int .i64 (1 + mdv n r.u)] : Value) = .agg #[.int .i64 (amv r n).m, .int .i64 (amv r n).u] := by
  unfold amv; split <;> rfl
theorem GrpPost.done {w wr wc : World} {g d : Nat} {l : List CL.At} {e : CL.Ex} {cs : List Value} (v0 v1 v2 v3 v4 : Value) (hG : CL.Grp l d e) (hR : RdR wc wr.heap.size wc.heap.size e cs) (hO : Only g w wc) (hT : TapeAt wc g) (hg : g < w.heap.size) (hz : w.heap.size < wr.heap.size) :
    GrpPost w g l d (.returned (.agg cs.toArray)) (((((wc.setCell ⟨w.heap.size, 0, none⟩ v0).setCell ⟨w.heap.size, 1, none⟩ v1).setCell ⟨w.heap.size, 2, none⟩ v2).setCell ⟨w.heap.size, 3, none⟩ v3).setCell ⟨w.heap.size, 4, none⟩ v4) := by
  have hS : ∀ {b : World} (i : Nat) (u : Value), wc.heap.size ≤ b.heap.size → Same b (b.setCell ⟨w.heap.size, i, none⟩ u) wr.heap.size wc.heap.size := fun {b} i u h => Same.setOut (.inl hz) i u h
  have hZ : ∀ {b : World} (i : Nat) (u : Value), wc.heap.size ≤ b.heap.size → wc.heap.size ≤ (b.setCell ⟨w.heap.size, i, none⟩ u).heap.size := fun {b} i u h => by simpa [World.setCell] using h
  have z0 := hZ 0 v0 (Nat.le_refl wc.heap.size)
  have z1 := hZ 1 v1 z0
  have z2 := hZ 2 v2 z1
  have z3 := hZ 3 v3 z2
  have z4 := hZ 4 v4 z3
  exact ⟨_, _, rfl, hG, ((((((hR.same (hS 0 v0 (Nat.le_refl _))).same (hS 1 v1 z0)).same (hS 2 v2 z1)).same (hS 3 v3 z2)).same (hS 4 v4 z3)).wide (by omega) z4),
    ((((hO.setNew (Nat.le_refl _) 0 v0).setNew (Nat.le_refl _) 1 v1).setNew (Nat.le_refl _) 2 v2).setNew (Nat.le_refl _) 3 v3).setNew (Nat.le_refl _) 4 v4,
    ((((hT.setNew hg 0 v0).setNew hg 1 v1).setNew hg 2 v2).setNew hg 3 v3).setNew hg 4 v4⟩
theorem Amount_e (r : CL.Re) (n : Int) (w : World) (h1 : 1 ≤ r.u) (h2 : r.u ≤ 1048576) : Calls Try.prog 38 #[.agg #[.string ⟨r.n.toArray⟩, .int .i64 r.k, .int .i64 r.u, .int .i64 r.h], .int .i64 n] w fun e w' => (∃ a : CL.Am, (∃ n, a = amv r n) ∧ e = .returned (.agg #[.int .i64 a.m, .int .i64 a.u])) ∧ Ext w w' :=
  (clusterlocksmill.Amount_c r n w h1 h2).mono fun e w' ⟨h, hx⟩ => ⟨⟨amv r n, ⟨n, rfl⟩, by rw [h, amv_val]⟩, hx⟩
theorem group2 (l : List CL.At) (w : World) (g : Nat) (A : Option Addr) (c : Nat) (hT : TapeAt w g) (hl : l.length = 6) (hn : ∀ a ∈ l, a.n.length ≤ maxLen) (hr : Sits w A (ats l)) (hA : ∀ b o, A = some ⟨b, o, none⟩ → g < b) :
    Calls Try.prog 39 #[.pointer (some ⟨g, 0, none⟩), .slice A 6 c, .int .i64 2] w (GrpPost w g l 2) :=
  group1 l 1 (by omega) (Lib.hid (fun w g A c h1 h2 h3 => group1 l 0 (by omega) (Lib.hid (fun w g A c h1 h2 h3 => group0 l w g A c h1 hl hn h2 h3)) w g A c h1 hl hn h2 h3)) w g A c hT hl hn hr hA
set_option maxHeartbeats 3200000 in
theorem clusterlocksmill.Expr_c (L : List CL.Re) (w : World) (g : Nat) (A : Option Addr) (c : Nat) (hT : TapeAt w g) (hL : CL.GoodCat L) (hr : Sits w A (recs L)) (hA : ∀ b o, A = some ⟨b, o, none⟩ → g < b) :
    Calls Try.prog 21 #[.pointer (some ⟨g, 0, none⟩), .slice A 6 c] w (fun r w' => ∃ l, GoodAts L l 6 ∧ GrpPost w g l 2 r w') := by
  have hgl := hT.lt
  obtain ⟨hl6, hmem⟩ := hL.mem
  obtain ⟨b, o, rfl, hcell⟩ := hr.get (by rw [recs_len]; omega)
  have HM := Lib.hid hmem
  have hB := Blk.new w 28 #[.int .i64 0, .string ⟨#[]⟩, .int .i64 0, .int .i64 0, .slice none 0 0]
  have hx0 := Ext.new w (.cells #[.int .i64 0, .string ⟨#[]⟩, .int .i64 0, .int .i64 0, .slice none 0 0] 28)
  have hT2 := hT.ext hx0
  have hO2 : Only g w _ := Only.of_ext hx0
  clear hmem hcell
  go_enter Try.func21, Try.ntmps21
  go_wp2_with (go_at_call 37; (with_reducible refine (Tape.Next_c g _ _ (by omega) (by omega) hT2).mono ?_); rintro r w2 ⟨x2, rfl, hn0, hn1, ho1, hT1⟩; have hO3 := hO2.tr ho1; have hB2 := hB.only ho1 (by omega); clear hB hT2 hO2; have hB := hB2; have hT2 := hT1; have hO2 := hO3)
  clear hB2 hT1 hO3 ho1
  have hbl := hB.lt
  go_loopw [6, 7] (fun v i wr => ∃ (l : List CL.At) (A' : Option Addr) (c' : Nat), l.length ≤ 6 ∧ i = .int .i64 l.length ∧ v = .slice A' l.length c' ∧ Hid (GoodAts L l l.length) ∧ Hid (wr.ownsRow w2.heap.size 25 3 (.slice A' l.length c') l.length (ats l)) ∧ Ext w2 wr) (fun _ i _ => 6 - (intOf i).toNat)
  case atStart => exact ⟨[], none, 0, by simp, rfl, rfl, Lib.hid ⟨rfl, fun i h => by simp at h⟩, Lib.hid ⟨rfl, .inl ⟨rfl, rfl⟩⟩, Ext.rfl'⟩
  case round =>
    obtain ⟨l, A', c', hj, rfl, rfl, HG, HO, hx⟩ := hrel
    have hzr := hx.size
    by_cases hlt : l.length < 6
    · have hrr : Sits wr (some ⟨b, o, none⟩) (recs L) := (hr.only hO2 hA).ext hx
      obtain ⟨c0, c1, c2, c3⟩ := recs4 hrr (k := l.length) (by omega)
      have HS := Lib.hid hrr.drew
      have HO2 := Lib.hid (own_drew HO.out)
      have HV := Lib.hid (HM.out L[l.length] (List.getElem_mem (by omega)))
      have HC := Lib.hid (fun n w => Amount_e L[l.length] n w HV.out.2.1 HV.out.2.2)
      have hi1 : (l.length : Int) < 6 := by omega
      clear hrr
      go_wp2_with fail
      go_region_law
        (first
          | (refine step_append_row _ (by rfl) (.tmp 16) (.tmp 33) _ (by rfl) w2.heap.size 25 3 32 _ Try.underlying29 at_info rfl (by omega) (.slice A' l.length c') l.length (ats l) (by rfl) (HO3.out.alloc _) _ _ _ [.string ⟨L[l.length].n.toArray⟩, .int .i64 aA.m, .int .i64 aA.u] (by rfl) (by rfl) (Sits.new _ _ _) (by simp [Value.oneCell']) (by simp only [maxLen]; omega) (by omega) (by simp; omega) ?_; intro v3 w3 hown3 hb3 hg3 hrow3; obtain ⟨A3, c3, rfl, hc3, _⟩ := own_form hown3)
          | (go_simp; go_at_call 38; refine (HC.out _ _).mono ?_; rintro r wc ⟨⟨aA, hAA, rfl⟩, hx1⟩; have HO3 := Lib.hid (own_ext HO2.out hx1); obtain ⟨p0, p1, p2, p3⟩ := recs4 (HS.out.ext hx1) (k := l.length) (by omega); have hz2 := hx1.size; simp only [World.size_drew] at hz2))
      all_goals
        have hG5 := Lib.hid (HG.out.step (j := l.length) (by omega) hAA)
        have hlen : (l ++ [(⟨L[l.length].n, aA⟩ : CL.At)]).length = l.length + 1 := by simp
        have ho5 : Hid (w3.ownsRow w2.heap.size 25 3 (.slice A3 (l ++ [(⟨L[l.length].n, aA⟩ : CL.At)]).length c3) (l ++ [(⟨L[l.length].n, aA⟩ : CL.At)]).length (ats (l ++ [(⟨L[l.length].n, aA⟩ : CL.At)]))) := Lib.hid (by rw [hlen, ats_snoc]; exact hown3)
        have hx5 : Ext w2 w3 := (((Ext.drew' hx).tr hx1).tr (Ext.new _ _)).trans hb3
        go_wp2
        exact ⟨⟨_, A3, c3, by omega, by rw [hlen]; go_num, by rw [hlen], (by rw [hlen]; exact hG5), ho5, hx5⟩, by simp [intOf]; omega⟩
    · have h6 : l.length = 6 := by omega
      have hG6 : GoodAts L l 6 := h6 ▸ HG.out
      have hown : wr.ownsRow w2.heap.size 25 3 (.slice A' 6 c') 6 (ats l) := by have := HO.out; rw [h6] at this; exact this
      have hS := Sits.of_own hown
      have hAt : ∀ a ∈ l, a.n.length ≤ maxLen := fun a ha => by
        obtain ⟨i, hi, rfl⟩ := List.mem_iff_getElem.1 ha
        rw [(hG6.2 i hi (by omega)).1, (HM.out _ (List.getElem_mem _)).1]; simp [maxLen]
      have hT3 := hT2.ext hx
      have hO3 := hO2.tr (Only.of_ext hx)
      have hb3 := hB.ext hx
      have hA' : ∀ b o, A' = some ⟨b, o, none⟩ → g < b := fun b o e => by have := own_base hown e; omega
      have HGR := Lib.hid (group2 l wr g A' c' hT3 h6 hAt hS hA')
      have HG6 := Lib.hid hG6
      have HH6 := Lib.hid h6
      clear hG6 hAt hown hS HO HG hA'
      rw [h6] at *
      go_wp2_with (go_at_call 39; (with_reducible refine HGR.out.mono ?_); intro r wc hp; obtain ⟨ek, k', n', m', u', A2, l2, c2, rfl, hG2, hR2, ho1, hT1⟩ := hp.get; have hb4 := hb3.only ho1 (by omega); obtain ⟨q0, q1, q2, q3, q4⟩ := hb4.c5; have f0 := hb4.frozen 0; have f1 := hb4.frozen 1; have f2 := hb4.frozen 2; have f3 := hb4.frozen 3; have f4 := hb4.frozen 4)
      have HP := Lib.hid (GrpPost.done (w := w) (.int .i64 k') (.string n') (.int .i64 m') (.int .i64 u') (.slice A2 l2 c2) hG2 hR2 (hO3.tr ho1) hT1 hgl (by omega))
      (try simp only [Exit.inBlock, Exit.then])
      refine bodyPost_ret (by simp [results, Try.results21, go_sem, *]; try rfl) rfl ?_
      exact ⟨l, HG6.out, HP.out⟩
end Go.Proofs.Ytmboojbhnmdnkaa
