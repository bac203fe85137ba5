
/- Ledger: the walk of cut. -/
import Derived.Test.YtaebindbadfaaaaLd
namespace Go.Proofs.Ytaebindbadfaaaa
open Go.RowKit
set_option linter.unusedVariables false
set_option linter.unusedSimpArgs false
theorem nil_own (w : World) (base : Nat) (E : TypeId) (size : Nat) : w.ownsRow base E size (.slice none 0 0) 0 [] := ⟨by simp, .inl ⟨rfl, rfl⟩⟩
theorem bcellB {B : Nat} {W w1 : World} (hb : Below B W w1) : ∀ b o, b < B → w1.cell? ⟨b, o, none⟩ = W.cell? ⟨b, o, none⟩ := fun b o h => hb.cell (p := ⟨b, o, none⟩) h
section
variable {P : Program} (w : World)
/-- a copy of a row: append onto nil -/
theorem step_copy {ops : Array Oper} {o : Oper} {a : Act} {K : Act → World → Prop} {Q : Exit → Act → World → Prop} {E : Prop} (hgd : o.guard = none) (x : Operand) (t : TypeId) 
    (ho : o.op = .call { callee := .builtin .append, args := #[.const (.slice none 0 0), x], argTypes := #[t, t] }) (base : Nat) (e : TypeId) (size bytes : Nat) (z : Value) (ht : P.underlying t = some (.slice e)) (hinfo : (P.info? e).map (fun i => (i.zero, i.size, i.bytes)) = some (some z, size, bytes))
    (hzs : z.cells.size = size) (hsz : 0 < size)
    (A : Option Addr) (m c : Nat) (news : List Value) (hx : a.eval x = .slice A m c) (hl : news.length = m * size) (hr : Sits w A news) (h1 : ∀ u ∈ news, u.oneCell' = true)
    (h63 : m ≤ maxLen) (hbytes : m * bytes ≤ 140737488355328) (hbase : base ≤ w.heap.size)
    (h : ∀ A' c' w', w'.ownsRow base e size (.slice A' m c') m news → m ≤ c' → Below base w w' → K (a.put o.dst (.slice A' m c')) w') :
    if Region.wanted o (yielded ops a.tmps) = true then Oper.wp P o a w K Q else E := by
  refine step_append_sits w hgd _ _ t ho base e size bytes z ht hinfo hzs hsz _ 0 [] rfl (nil_own _ _ _ _) A m c news hx hl hr h1 (by omega) (by rw [Nat.zero_add]; exact hbytes) hbase ?_
  intro v' w' hown hb hg
  rw [Nat.zero_add, List.nil_append] at hown
  obtain ⟨A', c', rfl, hc, _⟩ := own_form hown
  exact h A' c' w' hown hc hb
end
theorem slice_hm (t e : TypeId) (i : TypeInfo) (ht : Try.prog.underlying t = some (.slice e)) (hi : Try.prog.info? e = some i) (A : Option Addr) (len cap k : Nat) (hk : k ≤ cap) (w : World) :
    (Instr.slice t (.slice A len cap) none (some (.int .i64 (k : Int))) (some (.int .i64 (k : Int)))).run Try.prog w = .ok (.slice A k k) w := by
  have h1 : (k : Int) ≤ (cap : Int) := by omega
  cases A <;> simp [Instr.slice, run_underlying ht, Instr.sliceBounds, go_sem, h1, sizeOf, typeInfo, hi]
theorem en_info : (Try.prog.info? 33).map (fun i => (i.zero, i.size, i.bytes)) = some (some (.agg #[.string ⟨#[]⟩, .int .i64 0, .int .i64 0, .int .i64 0, .int .i64 0]), 5, 48) := by kernel_rfl
theorem svr_info : (Try.prog.info? 69).map (fun i => (i.zero, i.size, i.bytes)) = some (some (.agg #[.int .i64 0, .int .i64 0]), 2, 16) := by kernel_rfl
theorem en_inf : ∃ i, Try.prog.info? 33 = some i ∧ i.size = 5 := ⟨_, rfl, rfl⟩
theorem cut_en (A : Option Addr) (len cap k : Nat) (hk : k ≤ cap) (w : World) : (Instr.slice 28 (.slice A len cap) none (some (.int .i64 (k : Int))) (some (.int .i64 (k : Int)))).run Try.prog w = .ok (.slice A k k) w := by
  obtain ⟨i, hi, _⟩ := en_inf
  exact slice_hm 28 33 i Try.underlying28 hi A len cap k hk w
theorem cut_sv (A : Option Addr) (len cap k : Nat) (hk : k ≤ cap) (w : World) : (Instr.slice 29 (.slice A len cap) none (some (.int .i64 (k : Int))) (some (.int .i64 (k : Int)))).run Try.prog w = .ok (.slice A k k) w := by
  obtain ⟨i, hi, _⟩ := sv_info
  exact slice_hm 29 69 i Try.underlying29 hi A len cap k hk w
theorem ens_one (l : List CL.En) : ∀ u ∈ ens l, u.oneCell' = true := by
  intro u hu
  obtain ⟨e, _, he⟩ := List.mem_flatMap.1 hu
  simp only [enc, List.mem_cons, List.not_mem_nil, or_false] at he
  rcases he with rfl | rfl | rfl | rfl | rfl <;> rfl
theorem svl_one (l : List CL.Sv) : ∀ u ∈ svl l, u.oneCell' = true := by
  intro u hu
  obtain ⟨e, _, he⟩ := List.mem_flatMap.1 hu
  simp only [svc, List.mem_cons, List.not_mem_nil, or_false] at he
  rcases he with rfl | rfl <;> rfl
theorem Sits.pre {w : World} {A : Option Addr} {xs ys : List Value} (h : Sits w A (xs ++ ys)) : Sits w A xs := by
  intro hn
  obtain ⟨b', o', e, hc⟩ := h (by simp [hn])
  refine ⟨b', o', e, fun j u hu => hc j u ?_⟩
  rw [List.getElem?_append_left (List.getElem?_eq_some_iff.1 hu).1]; exact hu
theorem Sits.ensPre {w : World} {A : Option Addr} {l : List CL.En} (h : Sits w A (Ytaebindbadfaaaa.ens l)) (k : Nat) : Sits w A (Ytaebindbadfaaaa.ens (l.take k)) := by
  rw [← List.take_append_drop k l, ens_append] at h; exact h.pre
theorem Sits.svlPre {w : World} {A : Option Addr} {l : List CL.Sv} (h : Sits w A (Ytaebindbadfaaaa.svl l)) (k : Nat) : Sits w A (Ytaebindbadfaaaa.svl (l.take k)) := by
  rw [← List.take_append_drop k l, svl_append] at h; exact h.pre
/-- a ledger whose rows are the call's own -/
def LgOwn (w : World) (base : Nat) (v : Value) (x : CL.Lg) : Prop := ∃ A c A' c', v = .agg #[.slice A x.es.length c, .slice A' x.ss.length c'] ∧ w.ownsRow base 33 5 (.slice A x.es.length c) x.es.length (ens x.es) ∧ w.ownsRow base 69 2 (.slice A' x.ss.length c') x.ss.length (svl x.ss) ∧ x.es.length ≤ c ∧ x.ss.length ≤ c'
def CutPost (x : CL.Lg) (a s : Nat) (w : World) (r : Ending) (w' : World) : Prop := ∃ v, r = .returned v ∧ LgOwn w' w.heap.size v (CL.cutL x a s) ∧ Ext w w'
set_option maxHeartbeats 3200000 in
set_option maxRecDepth 100000 in
theorem ledger.cut_c (x : CL.Lg) (a s : Nat) (v : Value) (w : World) (hv : LgV w v x) (hx1 : x.es.length ≤ 1000) (hx2 : x.ss.length ≤ 1000) (ha : a ≤ x.es.length) (hs : s ≤ x.ss.length) :
    Calls Try.prog 45 #[v, .int .i64 (a : Int), .int .i64 (s : Int)] w (CutPost x a s w) := by
  obtain ⟨A, c, A', c', rfl, h1, h2, h3, h4⟩ := hv
  have hs1 := fun W => cut_en A x.es.length c a (by omega) W
  have hs2 := fun W => cut_sv A' x.ss.length c' s (by omega) W
  go_enter Try.func45, Try.ntmps45
  go_wp2_with fail
  obtain ⟨b1, b2, hx0⟩ := two_rows w #[.slice A x.es.length c, .slice A' x.ss.length c'] 31 #[.slice none 0 0, .slice none 0 0] 31
  have hz := hx0.size
  have b2l := b2.lt
  generalize ((w.alloc (.cells #[.slice A x.es.length c, .slice A' x.ss.length c'] 31)).alloc (.cells #[.slice none 0 0, .slice none 0 0] 31)) = W at *
  obtain ⟨e0, e1⟩ := b1.c2
  obtain ⟨f0, f1⟩ := b2.c2
  have m0 := b2.frozen 0
  have m1 := b2.frozen 1
  have S1 := Lib.hid ((h1.ext hx0).ensPre a)
  have S2 := Lib.hid ((h2.ext hx0).svlPre s)
  clear h1 h2
  go_region_held3 (fun w' => w'.cell? ⟨w.heap.size, 0, none⟩ = some (.slice A x.es.length c) ∧ w'.cell? ⟨w.heap.size, 1, none⟩ = some (.slice A' x.ss.length c'))
    (first | go_keep | exact ⟨E1.cell e0, E1.cell e1⟩ | exact ⟨E2.cell e0, E2.cell e1⟩)
    (first
      | (refine step_copy _ (by rfl) (.tmp 11) _ (by rfl) _ 33 5 48 _ Try.underlying28 en_info rfl (by omega) A a a (ens (x.es.take a)) (by rfl) (by rw [ens_len, List.length_take]; congr 1; omega) (by first | exact S1.out | exact S1.out.ext (Ext.drawn _) | exact S1.out.ext E2 | exact S1.out.ext (E2.tr (Ext.drawn _))) (ens_one _) (by unfold maxLen; omega) (by omega) (Nat.le_refl _) ?_; intro A1 c1 w1 ho1 hc1 hb1; (replace ho1 := own_le ho1 (show W.heap.size ≤ _ by first | exact Nat.le_refl _ | exact (Ext.drawn _).size | exact E2.size | exact (E2.tr (Ext.drawn _)).size)); (have E1 : Ext W w1 := (by first | exact hb1 | exact Ext.tr (Ext.drawn _) hb1 | exact Ext.tr E2 hb1 | exact Ext.tr (E2.tr (Ext.drawn _)) hb1)); (try have ho2b := own_ext ho2 (by first | exact hb1 | exact Ext.tr (Ext.drawn _) hb1)); (obtain ⟨q1, p1⟩ := bcell E1); (have g10 := (q1 _ 0 b2l).trans f0); (have g11 := (q1 _ 1 b2l).trans f1); (have g12 := (p1 _ 0 b2l).trans m0); (have g13 := (p1 _ 1 b2l).trans m1))
      | (refine step_copy _ (by rfl) (.tmp 17) _ (by rfl) _ 69 2 16 _ Try.underlying29 svr_info rfl (by omega) A' s s (svl (x.ss.take s)) (by rfl) (by rw [svl_len, List.length_take]; congr 1; omega) (by first | exact S2.out | exact S2.out.ext (Ext.drawn _) | exact S2.out.ext E1 | exact S2.out.ext (E1.tr (Ext.drawn _))) (svl_one _) (by unfold maxLen; omega) (by omega) (Nat.le_refl _) ?_; intro A2 c2 w2 ho2 hc2 hb2; (replace ho2 := own_le ho2 (show W.heap.size ≤ _ by first | exact Nat.le_refl _ | exact (Ext.drawn _).size | exact E1.size | exact (E1.tr (Ext.drawn _)).size)); (have E2 : Ext W w2 := (by first | exact hb2 | exact Ext.tr (Ext.drawn _) hb2 | exact Ext.tr E1 hb2 | exact Ext.tr (E1.tr (Ext.drawn _)) hb2)); (try have ho1b := own_ext ho1 (by first | exact hb2 | exact Ext.tr (Ext.drawn _) hb2)); (obtain ⟨q2, p2⟩ := bcell E2); (have g20 := (q2 _ 0 b2l).trans f0); (have g21 := (q2 _ 1 b2l).trans f1); (have g22 := (p2 _ 0 b2l).trans m0); (have g23 := (p2 _ 1 b2l).trans m1)))
  · have k1 := own_le (own_only ho1b ((Only.rf (g := w.heap.size + 1)).set2 (.slice A1 a c1) (.slice A2 s c2)) (fun e => by have := (ho1b.lt _ e).1; omega)) hz
    have k2 := own_le (own_only ho2 ((Only.rf (g := w.heap.size + 1)).set2 (.slice A1 a c1) (.slice A2 s c2)) (fun e => by have := (ho2.lt _ e).1; omega)) hz
    obtain ⟨d0, d1⟩ := ((b2.ext E2).set2 (.slice A1 a c1) (.slice A2 s c2)).c2
    have hxf := (((hx0.tr E2).setCell (p := ⟨w.heap.size + 1, 0, none⟩) (by simp only; omega) (.slice A1 a c1)).setCell (p := ⟨w.heap.size + 1, 1, none⟩) (by simp only; omega) (.slice A2 s c2))
    go_wp2
    refine bodyPost_ret (v := .agg #[.slice A1 a c1, .slice A2 s c2]) (by simp [results, Try.results45, go_sem, d0, d1]) rfl ?_
    have z1 : (CL.cutL x a s).es.length = a := by simp [CL.cutL, List.length_take]; omega
    have z2 : (CL.cutL x a s).ss.length = s := by simp [CL.cutL, List.length_take]; omega
    refine ⟨_, rfl, ⟨A1, c1, A2, c2, by rw [z1, z2], ?_, ?_, by rw [z1]; exact hc1, by rw [z2]; exact hc2⟩, hxf⟩
    · rw [z1]; exact k1
    · rw [z2]; exact k2
end Go.Proofs.Ytaebindbadfaaaa
