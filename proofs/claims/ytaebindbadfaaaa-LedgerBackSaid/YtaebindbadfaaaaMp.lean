
/- Maps of amounts by names that a call makes: what the block holds, told by the entries that were put. -/
import Derived.Test.YtaebindbadfaaaaAp
import Derived.Test.YtaebindbadfaaaaAt
import Derived.Test.YtaebindbadfaaaaLi
import Derived.Maps.OwnSet
import Derived.Maps.RangeWalk
namespace Go.Proofs.Ytaebindbadfaaaa
open Go.RowKit
set_option linter.unusedVariables false
set_option linter.unusedSimpArgs false
/-- how an amount reads as a map's element -/
def amElem : Value → Option (DataW Unit × List MemPlace)
  | .agg cs => match cs.toList with
    | [.int .i64 a, .int .i64 b] => some (.agg [.lit (.int .i64 a), .lit (.int .i64 b)], [])
    | _ => none
  | _ => none
def amd (a : CL.Am) : DataW Unit := .agg [.lit (.int .i64 a.m), .lit (.int .i64 a.u)]
def amv (a : CL.Am) : Value := .agg #[.int .i64 a.m, .int .i64 a.u]
theorem amElem_mk (a b : Int) : amElem (.agg #[.int .i64 a, .int .i64 b]) = some (.agg [.lit (.int .i64 a), .lit (.int .i64 b)], []) := rfl
theorem amElem_inv {v : Value} {z : DataW Unit × List MemPlace} (h : amElem v = some z) : ∃ a : CL.Am, v = amv a ∧ z = (amd a, []) := by
  unfold amElem at h
  split at h
  · rename_i cs
    split at h
    · rename_i a b e
      cases h
      refine ⟨⟨a, b⟩, ?_, rfl⟩
      unfold amv
      congr 1
      exact Array.toList_inj.1 (by rw [e])
    · cases h
  · cases h
theorem amd_inj {a b : CL.Am} (h : amd a = amd b) : a = b := by
  obtain ⟨m, u⟩ := a; obtain ⟨m', u'⟩ := b
  simp [amd] at h
  rw [h.1, h.2]
theorem str_keyed : Maps.Keyed Try.prog 9 := Maps.string_keyed Try.underlying9
theorem str_key (s : List UInt8) (h : s.length ≤ maxLen) : keyOf Try.prog 9 (.string ⟨s.toArray⟩) = some (.string s) := by
  have := Go.WideMaps.keyOf_string_mk (P := Try.prog) Try.underlying9 (s := ⟨s.toArray⟩) (by simpa [ByteArray.size] using h)
  simpa using this
theorem am_zeroV (w : World) : (zeroValue 23).run Try.prog w = .ok (.agg #[.int .i64 0, .int .i64 0]) w := by kernel_rfl
def Holds (D : DataW Unit) (l : List CL.En) : Prop := (∀ s, D.atKey (.string s) (amd ⟨0, 0⟩) = amd (CL.held l s)) ∧ (∀ s, Maps.has D (.string s) = decide (s ∈ CL.dn l)) ∧ Maps.size D = (CL.dn l).length
theorem is_key (s : List UInt8) : WideAt.IsKeyLit (.string s) := trivial
theorem Holds.nil : Holds (.map []) [] := ⟨fun s => rfl, fun s => by simp [Maps.has, CL.dn_nil], rfl⟩
theorem Holds.put {D : DataW Unit} {l : List CL.En} (h : Holds D l) (hD : Maps.Tidy D) (e : CL.En) : Holds (D.put (.string e.n) (amd e.a)) (l ++ [e]) := by
  obtain ⟨h1, h2, h3⟩ := h
  refine ⟨fun s => ?_, fun s => ?_, ?_⟩
  · rw [CL.held_snoc]
    by_cases hs : e.n = s
    · subst hs; rw [if_pos rfl, Maps.atKey_put_same hD.isMap (is_key _)]
    · rw [if_neg hs, Maps.atKey_put_other (fun c => hs (by cases c; rfl)), h1]
  · by_cases hs : e.n = s
    · subst hs; rw [Maps.has_put_same hD.isMap (is_key _), CL.dn_snoc]
      split <;> simp_all
    · rw [Maps.has_put_other (fun c => hs (by cases c; rfl)), h2, CL.dn_snoc]
      split
      · rfl
      · simp [Ne.symm hs]
  · rw [Maps.size_put hD, h2, h3, CL.dn_snoc]
    by_cases hm : e.n ∈ CL.dn l <;> simp [hm]
/-- block b is a map that says what entries l say -/
def MapAm (w : World) (b : Nat) (l : List CL.En) : Prop := ∃ D : DataW Unit, w.ownsMap Try.prog 9 amElem b l.length D ∧ Holds D l
theorem MapAm.made (w : World) : MapAm (w.alloc (.map #[] 0)) w.heap.size [] := ⟨_, World.ownsMap_made w Try.prog 9 amElem, Holds.nil⟩
theorem MapAm.kept {w w' : World} {b : Nat} {l : List CL.En} {row : Option Nat} (h : MapAm w b l) (hg : w.grownBy w' row) (hne : some b ≠ row) : MapAm w' b l := by
  obtain ⟨D, h1, h2⟩ := h; exact ⟨D, h1.kept hg hne, h2⟩
theorem MapAm.ext {w w' : World} {b : Nat} {l : List CL.En} (h : MapAm w b l) (hx : Ext w w') : MapAm w' b l := h.kept (grown_ext (r := none) hx) (by simp)
theorem MapAm.alloc {w : World} {b : Nat} {l : List CL.En} (h : MapAm w b l) (o : Obj) : MapAm (w.alloc o) b l := h.ext (Ext.new _ _)
theorem MapAm.drewN {w : World} {b : Nat} {l : List CL.En} (h : MapAm w b l) (n : Nat) : MapAm (w.drewN n) b l := h
theorem MapAm.lt {w : World} {b : Nat} {l : List CL.En} (h : MapAm w b l) : b < w.heap.size := let ⟨_, h1, _⟩ := h; h1.lt
theorem MapAm.setOther {w : World} {b g i : Nat} {l : List CL.En} {u : Value} (h : MapAm w b l) (hne : b ≠ g) : MapAm (w.setCell ⟨g, i, none⟩ u) b l := by
  obtain ⟨D, h1, h2⟩ := h; exact ⟨D, h1.setCell hne u, h2⟩
/-- 'm[k]' -/
theorem MapAm.look {w : World} {b : Nat} {l : List CL.En} (h : MapAm w b l) (s : List UInt8) (hs : s.length ≤ maxLen) :
    (Instr.lookup 70 (.map (some b)) (.string ⟨s.toArray⟩) false).run Try.prog w = .ok (.agg #[.int .i64 (CL.held l s).m, .int .i64 (CL.held l s).u]) w := by
  obtain ⟨D, h1, h2, _⟩ := h
  obtain ⟨v, ps, hrun, hv⟩ := h1.lookup str_keyed Try.underlying70 (am_zeroV w) (amElem_mk 0 0) (str_key s hs)
  have := h2 s
  unfold amd at this
  rw [this] at hv
  obtain ⟨a, rfl, ha⟩ := amElem_inv hv
  have : amd (CL.held l s) = amd a := congrArg Prod.fst ha
  rw [amd_inj this]
  exact hrun
/-- 'm[k] = v' -/
theorem MapAm.put {w : World} {b : Nat} {l : List CL.En} (h : MapAm w b l) (e : CL.En) (hn : e.n.length ≤ maxLen) (hl : l.length < maxLen) :
    ∃ w', (Instr.mapUpdate 70 (.map (some b)) (.string ⟨e.n.toArray⟩) (.agg #[.int .i64 e.a.m, .int .i64 e.a.u])).run Try.prog w = .ok () w' ∧ MapAm w' b (l ++ [e]) ∧ Only b w w' := by
  obtain ⟨D, h1, h2⟩ := h
  obtain ⟨w', hrun, h3, hg⟩ := h1.update str_keyed Try.underlying70 hl (str_key e.n hn) (amElem_mk e.a.m e.a.u)
  exact ⟨w', hrun, ⟨_, by rw [List.length_append]; exact h3, h2.put (h1.tidy str_keyed) e⟩, hg⟩
/-- 'len(m)' -/
theorem MapAm.len {w : World} {b : Nat} {l : List CL.En} (h : MapAm w b l) (ty : TypeId) : (Builtin.len_ #[70] ty #[.map (some b)]).run Try.prog w = .ok (.int .i64 ((CL.dn l).length : Nat)) w := by
  obtain ⟨D, h1, _, _, h3⟩ := h
  have := h1.len (t := 70) Try.underlying70 ty
  rw [h3] at this
  exact this
theorem wpList_put_am (w : World) {ops : Array Oper} {rest : List Oper} {o : Oper} {a : Act} {Q : Exit → Act → World → Prop}
    (hg : o.guard = none) (m x v : Operand) (hop : o.op = Op.mapUpdate 70 m x v) (b : Nat) (l : List CL.En) (e : CL.En) (hm : a.eval m = .map (some b)) (h : MapAm w b l)
    (hx : a.eval x = .string ⟨e.n.toArray⟩) (hv : a.eval v = .agg #[.int .i64 e.a.m, .int .i64 e.a.u]) (hn : e.n.length ≤ maxLen) (hl : l.length < maxLen)
    (hK : ∀ w', MapAm w' b (l ++ [e]) → Only b w w' → wpList Try.prog ops Q rest (a.put o.dst undef) w') :
    wpList Try.prog ops Q (o :: rest) a w := by
  refine wpList_plain hg fun K' hK' => ?_
  obtain ⟨w', hrun, r1, r2⟩ := h.put e hn hl
  unfold Oper.wp
  simp [execOp, hop, hm, hx, hv, hrun, Result.andThen]
  exact hK' _ _ (hK w' r1 r2)
/-- a range over such a map: vs are the names that have come -/
def MapRg (w : World) (b r : Nat) (l : List CL.En) (vs : List (List UInt8)) : Prop :=
  ∃ (D : DataW Unit) (left : Lit → Bool) (c : Nat), w.ranges Try.prog 9 amElem b r l.length D left c ∧ Holds D l ∧ (∀ s, left (.string s) = (decide (s ∈ CL.dn l) && !decide (s ∈ vs))) ∧ vs.Nodup ∧ ∀ s ∈ vs, s ∈ CL.dn l
theorem MapRg.owns {w : World} {b r : Nat} {l : List CL.En} {vs : List (List UInt8)} (h : MapRg w b r l vs) : MapAm w b l := by
  obtain ⟨D, left, c, h1, h2, _⟩ := h; exact ⟨D, h1.owns, h2⟩
theorem MapRg.kept {w w' : World} {b r : Nat} {l : List CL.En} {vs : List (List UInt8)} {row : Option Nat} (h : MapRg w b r l vs) (hg : w.grownBy w' row) (h1 : some b ≠ row) (h2 : some r ≠ row) : MapRg w' b r l vs := by
  obtain ⟨D, left, c, a, b⟩ := h; exact ⟨D, left, c, a.kept hg h1 h2, b⟩
theorem MapRg.ext {w w' : World} {b r : Nat} {l : List CL.En} {vs : List (List UInt8)} (h : MapRg w b r l vs) (hx : Ext w w') : MapRg w' b r l vs := h.kept (grown_ext (r := none) hx) (by simp) (by simp)
theorem MapRg.lt {w : World} {b r : Nat} {l : List CL.En} {vs : List (List UInt8)} (h : MapRg w b r l vs) : r < w.heap.size := let ⟨_, _, _, h1, _⟩ := h; h1.lt
theorem str_inv {key : Value} {kl : Lit} (h : keyOf Try.prog 9 key = some kl) : ∃ s : List UInt8, key = .string ⟨s.toArray⟩ ∧ kl = .string s ∧ s.length ≤ maxLen := by
  obtain ⟨s, h1, h2, h3⟩ := Go.WideMaps.string_of_keyOf Try.underlying9 h
  exact ⟨s.data.toList, h1, h2, by rw [Array.length_toList]; exact h3⟩
theorem wpList_range_am (w : World) {ops : Array Oper} {rest : List Oper} {o : Oper} {a : Act} {Q : Exit → Act → World → Prop}
    (hg : o.guard = none) (m : Operand) (hop : o.op = Op.range 70 m) (b : Nat) (l : List CL.En) (hm : a.eval m = .map (some b)) (h : MapAm w b l)
    (hK : ∀ w', MapRg w' b w.heap.size l [] → Ext w w' → w'.heap.size = w.heap.size + 1 → wpList Try.prog ops Q rest (a.put o.dst (.pointer (some ⟨w.heap.size, 0, none⟩))) w') :
    wpList Try.prog ops Q (o :: rest) a w := by
  obtain ⟨D, h1, h2⟩ := h
  refine wpList_range_own w hg m 70 hop 9 23 str_keyed Try.underlying70 amElem b l.length D hm h1 ?_
  intro w' hr hgr hs
  refine hK w' ⟨D, _, _, hr, h2, fun s => by rw [h2.2.1]; simp, List.nodup_nil, fun s hs => by simp at hs⟩ ?_ hs
  exact ⟨hgr.os, hgr.tape, hgr.output, hgr.size, fun i hi => hgr.block i hi (by simp)⟩
theorem wpList_next_am (w : World) {ops : Array Oper} {rest : List Oper} {o : Oper} {a : Act} {Q : Exit → Act → World → Prop}
    (hg : o.guard = none) (it : Operand) (hop : o.op = Op.next it false) (b r : Nat) (l : List CL.En) (vs : List (List UInt8)) (hit : a.eval it = .pointer (some ⟨r, 0, none⟩)) (h : MapRg w b r l vs)
    (hDone : vs.Perm (CL.dn l) → wpList Try.prog ops Q rest (a.put o.dst (.tuple #[.bool false])) w)
    (hMore : ∀ (s : List UInt8) (w' : World), s ∈ CL.dn l → s ∉ vs → s.length ≤ maxLen → MapRg w' b r l (vs ++ [s]) → w'.rangeLeft b r < w.rangeLeft b r → Only r w w' → w'.heap.size = w.heap.size →
      (Instr.entry (.pointer (some ⟨r, 0, none⟩))).run Try.prog w' = .ok (.tuple #[.string ⟨s.toArray⟩, .agg #[.int .i64 (CL.held l s).m, .int .i64 (CL.held l s).u]]) w' →
      wpList Try.prog ops Q rest (a.put o.dst (.tuple #[.bool true, .string ⟨s.toArray⟩, .agg #[.int .i64 (CL.held l s).m, .int .i64 (CL.held l s).u]])) w') :
    wpList Try.prog ops Q (o :: rest) a w := by
  obtain ⟨D, left, c, h1, h2, h3, h4, h5⟩ := h
  refine wpList_next_ranges w hg it hop 9 str_keyed amElem (fun s : List UInt8 => Value.string ⟨s.toArray⟩) amv (fun key kl hk => by obtain ⟨s, h, _⟩ := str_inv hk; exact ⟨s, h⟩) (fun v y hy => by obtain ⟨a, h, _⟩ := amElem_inv hy; exact ⟨a, h⟩)
    b r l.length D left c hit h1 ?_ ?_
  · intro _ hl
    refine hDone ?_
    refine (List.perm_ext_iff_of_nodup h4 (CL.dn_nodup l)).2 (fun s => ⟨h5 s, fun hs => ?_⟩)
    have := (h3 s).symm.trans (hl _)
    simpa [hs] using this
  · intro s am kl y w' c' hk hlk hv hat hrg hlt hgr hsz hen
    obtain ⟨s', e1, rfl, hlen⟩ := str_inv hk
    obtain rfl : s = s' := by simpa using e1
    have hm := (h3 s).symm.trans hlk
    simp only [Bool.and_eq_true, decide_eq_true_eq, Bool.not_eq_true', decide_eq_false_iff_not] at hm
    obtain ⟨am', e2, e3⟩ := amElem_inv hv
    obtain rfl : am = am' := by
      cases am; cases am'; simp [amv] at e2; simp [e2]
    have ha := (h2.1 s).symm.trans (hat (amd ⟨0, 0⟩))
    rw [e3] at ha
    have ha' := amd_inj ha
    subst ha'
    refine hMore s w' hm.1 hm.2 hlen ⟨D, _, c', hrg, h2, fun t => ?_, ?_, ?_⟩ ?_ hgr hsz hen
    · rw [h3]
      by_cases ht : t = s
      · subst ht; simp [WideAt.sameKey_self (is_key t)]
      · have : Lit.sameKey (.string t) (.string s) = false := Maps.sameKey_ne (fun c => ht (by cases c; rfl))
        simp [this, ht]
    · rw [List.nodup_append]
      exact ⟨h4, by simp, fun a ha1 b hb => by simp at hb; subst hb; rintro rfl; exact hm.2 ha1⟩
    · intro t ht
      rcases List.mem_append.1 ht with ht | ht
      · exact h5 t ht
      · simp at ht; subst ht; exact hm.1
    · rw [hrg.left_eq, h1.left_eq]; exact hlt
end Go.Proofs.Ytaebindbadfaaaa
