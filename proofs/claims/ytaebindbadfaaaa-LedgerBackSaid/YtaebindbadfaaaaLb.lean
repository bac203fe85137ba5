
/- Ledger: the walks of Held and of the reference's Held. -/
import Derived.Test.YtaebindbadfaaaaLa
namespace Go.Proofs.Ytaebindbadfaaaa
open Go.RowKit
set_option linter.unusedVariables false
set_option linter.unusedSimpArgs false
theorem Blk.c2 {w : World} {g : Nat} {t : TypeId} {x y : Value} (h : Blk w g t #[x, y]) : w.cell? ⟨g, 0, none⟩ = some x ∧ w.cell? ⟨g, 1, none⟩ = some y := ⟨h.cell 0, h.cell 1⟩
theorem Blk.set2 {w : World} {g : Nat} {t : TypeId} {a b : Value} (h : Blk w g t #[a, b]) (a' b' : Value) : Blk ((w.setCell ⟨g, 0, none⟩ a').setCell ⟨g, 1, none⟩ b') g t #[a', b'] := by
  have := (h.set 0 a').set 1 b'
  simpa using this
theorem Only.set2 {g : Nat} {a w : World} (h : Only g a w) (x y : Value) : Only g a ((w.setCell ⟨g, 0, none⟩ x).setCell ⟨g, 1, none⟩ y) := (h.set _ _).set _ _
theorem two_rows (w : World) (c1 : Array Value) (t1 : TypeId) (c2 : Array Value) (t2 : TypeId) : Blk ((w.alloc (.cells c1 t1)).alloc (.cells c2 t2)) w.heap.size t1 c1 ∧ Blk ((w.alloc (.cells c1 t1)).alloc (.cells c2 t2)) (w.heap.size + 1) t2 c2 ∧ Ext w ((w.alloc (.cells c1 t1)).alloc (.cells c2 t2)) :=
  ⟨(Blk.new _ _ _).alloc _, by have h := Blk.new (w.alloc (.cells c1 t1)) t2 c2; rw [World.size_alloc] at h; exact h, (Ext.new _ _).tr (Ext.new _ _)⟩
set_option maxHeartbeats 1600000 in
theorem clusterlocksref14.Held_c (l : List CL.En) (s : List UInt8) (A : Option Addr) (c : Nat) (w : World) (hl : l.length ≤ maxLen) (hr : Sits w A (ens l)) :
    Calls Try.prog 35 #[.slice A l.length c, .string ⟨s.toArray⟩] w fun r w' => r = .returned (.agg #[.int .i64 (CL.held l s).m, .int .i64 (CL.held l s).u]) ∧ Ext w w' := by
  unfold maxLen at hl
  go_enter Try.func35, Try.ntmps35
  go_wp2
  obtain ⟨b1, b2, hx0⟩ := two_rows w #[.int .i64 0, .int .i64 0] 23 #[.int .i64 0, .int .i64 0] 23
  have hz := hx0.size
  have b2l := b2.lt
  generalize ((w.alloc (.cells #[.int .i64 0, .int .i64 0] 23)).alloc (.cells #[.int .i64 0, .int .i64 0] 23)) = w1 at *
  have hr1 := hr.ext hx0
  generalize hg1 : w.heap.size = g at *
  go_loopw [6] (fun i wr => ∃ (j : Nat) (x : CL.Am), j ≤ l.length ∧ i = .int .i64 j ∧ Only (g + 1) w1 wr ∧ Blk wr g 23 #[.int .i64 0, .int .i64 0] ∧ Blk wr (g + 1) 23 #[.int .i64 x.m, .int .i64 x.u] ∧ Hid (CL.held (l.take j) s = x)) (fun i _ => l.length - (intOf i).toNat)
  case atStart => exact ⟨0, ⟨0, 0⟩, by omega, rfl, Only.rf, b1, b2, Lib.hid rfl⟩
  case round =>
    obtain ⟨j, x, hj, rfl, ho, bb1, bb2, HX⟩ := hrel
    have hrr := hr.ext (hx0.only ho (by omega))
    obtain ⟨e0, e1⟩ := bb1.c2
    obtain ⟨f0, f1⟩ := bb2.c2
    have m0 := bb1.frozen 0
    have m1 := bb1.frozen 1
    have n0 := bb2.frozen 0
    have n1 := bb2.frozen 1
    by_cases hlt : j < l.length
    · obtain ⟨b, o, hA, c0, c1, c2, c3, c4⟩ := hrr.ens hlt
      have H1 := Lib.hid (CL.held_step hlt s)
      by_cases heq : l[j].n = s
      · have H2 := Lib.hid (H1.out.trans (if_pos heq))
        have hbl : b < g := by
          have := hr.ens hlt
          obtain ⟨b', o', e', d0, _⟩ := this
          rw [hA] at e'
          injection e' with e'
          injection e' with e1' e2'
          subst e1'
          have := World.block_lt_of_cell? _ _ d0
          simp only at this
          omega
        generalize l[j] = r0 at *
        subst heq
        subst hA
        go_wp2
        refine ⟨⟨j + 1, r0.a, by omega, by go_num, ho.set2 _ _, ?_, bb2.set2 _ _, H2⟩, by simp [intOf]; omega⟩
        exact bb1.only ((Only.rf.set2 _ _)) (by omega)
      · have H2 := Lib.hid (H1.out.trans (if_neg heq))
        generalize l[j] = r0 at *
        subst hA
        have hq : (r0.n == s) = false := beq_eq_false_iff_ne.2 heq
        go_wp2
        exact ⟨⟨j + 1, x, by omega, by go_num, ho, bb1, bb2, Lib.hid (H2.out.trans HX.out)⟩, by simp [intOf]; omega⟩
    · obtain rfl : j = l.length := by omega
      have HX' := HX.out
      rw [List.take_length] at HX'
      subst HX'
      go_wp2
      obtain ⟨h0, h1⟩ := (bb1.set2 (.int .i64 (CL.held l s).m) (.int .i64 (CL.held l s).u)).c2
      refine bodyPost_ret (v := .agg #[.int .i64 (CL.held l s).m, .int .i64 (CL.held l s).u]) (by simp [results, Try.results35, go_sem, h0, h1]) rfl ?_
      refine ⟨rfl, ?_⟩
      have h2 := hx0.only ho (by omega)
      exact ((h2.setCell (p := ⟨g, 0, none⟩) (by simp only; omega) _).setCell (p := ⟨g, 1, none⟩) (by simp only; omega) _)
/-- a ledger as a value -/
def LgV (w : World) (v : Value) (x : CL.Lg) : Prop := ∃ A c A' c', v = .agg #[.slice A x.es.length c, .slice A' x.ss.length c'] ∧ Sits w A (ens x.es) ∧ Sits w A' (svl x.ss) ∧ x.es.length ≤ c ∧ x.ss.length ≤ c'
theorem LgV.ext {w w' : World} {v : Value} {x : CL.Lg} (h : LgV w v x) (hx : Ext w w') : LgV w' v x := by
  obtain ⟨A, c, A', c', rfl, h1, h2, h3⟩ := h; exact ⟨A, c, A', c', rfl, h1.ext hx, h2.ext hx, h3⟩
/-- a ledger that is not too long to be looked at -/
def Fine (x : CL.Lg) : Prop := x.es.length ≤ 100 ∧ x.ss.length ≤ 100 ∧ ∀ e ∈ x.es, e.n.length ≤ maxLen
set_option maxHeartbeats 1600000 in
theorem ledger.Held_c (x : CL.Lg) (s : List UInt8) (v : Value) (w : World) (hv : LgV w v x) (hf : Fine x) (hs : s.length ≤ maxLen) :
    Calls Try.prog 31 #[v, .string ⟨s.toArray⟩] w fun r w' => r = .returned (.agg #[.int .i64 (CL.held x.es s).m, .int .i64 (CL.held x.es s).u]) ∧ Ext w w' := by
  obtain ⟨A, c, A', c', rfl, h1, h2, h3, h4⟩ := hv
  obtain ⟨k1, k2, k3⟩ := hf
  go_enter Try.func31, Try.ntmps31
  go_wp2_with fail
  obtain ⟨b1, b2, hx0⟩ := two_rows w #[.slice A x.es.length c, .slice A' x.ss.length c'] 31 #[.int .i64 0, .int .i64 0] 23
  have hz := hx0.size
  have b2l := b2.lt
  generalize ((w.alloc (.cells #[.slice A x.es.length c, .slice A' x.ss.length c'] 31)).alloc (.cells #[.int .i64 0, .int .i64 0] 23)) = w1 at *
  obtain ⟨e0, e1⟩ := b1.c2
  go_wp2_with (go_at_call 48; (with_reducible refine (ledger.sums_c x.es A c _ k1 k3 (h1.ext hx0)).mono ?_); rintro r w2 ⟨b, rfl, hm1, hx1, hb1⟩; (have hlk := hm1.look s hs); (have bb2 := b2.ext hx1); (obtain ⟨f0, f1⟩ := bb2.c2); (have n0 := bb2.frozen 0); (have n1 := bb2.frozen 1))
  obtain ⟨d0, d1⟩ := (bb2.set2 (.int .i64 (CL.held x.es s).m) (.int .i64 (CL.held x.es s).u)).c2
  refine bodyPost_ret (v := .agg #[.int .i64 (CL.held x.es s).m, .int .i64 (CL.held x.es s).u]) (by simp [results, Try.results31, go_sem, d0, d1]) rfl ?_
  exact ⟨rfl, (((hx0.tr hx1).setCell (p := ⟨w.heap.size + 1, 0, none⟩) (by simp only; omega) _).setCell (p := ⟨w.heap.size + 1, 1, none⟩) (by simp only; omega) _)⟩
end Go.Proofs.Ytaebindbadfaaaa
