/- The operations, one by one. -/
import Derived.Test.YtapflcgnihdmoaaGreatDoorA2
import Derived.Laws.BytesString
/- build, buildSlice. -/
namespace X
open Go Go.RowKit
set_option linter.unusedVariables false
set_option linter.unusedSimpArgs false
set_option linter.unusedSectionVars false
variable [Luck]
variable {P : Program} {w0 w : World} {s : St} {μ : Mu} {a : Act} {o : Oper}
theorem plc_eq : ∀ fs : List Field, plc P fs = fs.mapM fun f => (P.info? f.type).map fun i => (f.offset, i.size)
  | [] => rfl
  | f :: l => by
    unfold plc
    rw [plc_eq l]
    simp only [List.mapM_cons]
    cases P.info? f.type with
    | none => rfl
    | some i => cases (l.mapM fun f => (P.info? f.type).map fun i => (f.offset, i.size)) <;> rfl
theorem foldl_set (off : Nat) : ∀ (l : List Value) (n : Nat) (cs : Array Value), off + n + l.length ≤ cs.size →
    ((l.zipIdx n).foldl (fun cs p => cs.setIfInBounds (off + p.2) p.1) cs).size = cs.size ∧ ∀ q : Nat, ((l.zipIdx n).foldl (fun cs p => cs.setIfInBounds (off + p.2) p.1) cs)[q]? = if off + n ≤ q ∧ q < off + n + l.length then l[q - (off + n)]? else cs[q]?
  | [], n, cs, h => by
    refine ⟨rfl, fun q => ?_⟩
    rw [if_neg (by simp)]
    rfl
  | x :: l, n, cs, h => by
    obtain ⟨h1, h2⟩ := foldl_set off l (n + 1) (cs.setIfInBounds (off + n) x) (by simp at h ⊢; omega)
    simp only [List.zipIdx_cons, List.foldl_cons]
    refine ⟨by rw [h1]; simp, fun q => ?_⟩
    rw [h2]
    simp only [List.length_cons] at h ⊢
    by_cases hq : q = off + n
    · subst hq
      rw [if_neg (by omega), if_pos (by omega)]
      have hlt : off + n < cs.size := by omega
      simp [hlt]
    · by_cases hc : off + (n + 1) ≤ q ∧ q < off + (n + 1) + l.length
      · rw [if_pos hc, if_pos (by omega), show q - (off + n) = (q - (off + (n + 1))) + 1 by omega]
        simp
      · rw [if_neg hc, if_neg (by omega), Array.getElem?_setIfInBounds_ne (by omega)]
theorem VC.over {l m : List AV} {xs ys zs : List Value} {o : Nat} (h : VC μ l xs) (k : VC μ m ys) (ho : o + m.length ≤ l.length) (hl : zs.length = xs.length) (hz : ∀ q : Nat, zs[q]? = if o ≤ q ∧ q < o + ys.length then ys[q - o]? else xs[q]?) : VC μ (overAt l o m) zs := by
  have hml := k.1.1
  refine ⟨⟨by rw [overAt_len ho, hl]; exact h.1.1, fun q v x hv hx => ?_⟩, fun x hx => ?_⟩
  · rw [overAt_get ho] at hv
    rw [hz, ← hml] at hx
    by_cases hc : o ≤ q ∧ q < o + m.length
    · rw [if_pos hc] at hv hx; exact k.1.2 _ v x hv hx
    · rw [if_neg hc] at hv hx; exact h.1.2 _ v x hv hx
  · obtain ⟨q, hq⟩ := List.getElem?_of_mem hx
    rw [hz] at hq
    split at hq
    · exact k.2 x (List.mem_of_getElem? hq)
    · exact h.2 x (List.mem_of_getElem? hq)
theorem fill_step {l m : List AV} {cs xs : Array Value} {off size : Nat} (h : VC μ l cs.toList) (k : VC μ m xs.toList) (ho : off + m.length ≤ l.length) :
    VC μ (overAt l off m) (xs.zipIdx.foldl (fun cs (p : Value × Nat) => cs.setIfInBounds (off + p.2) p.1) cs).toList ∧ (xs.zipIdx.foldl (fun cs (p : Value × Nat) => cs.setIfInBounds (off + p.2) p.1) cs).size = cs.size := by
  have hxl : xs.size = m.length := by simpa using k.1.1.symm
  have hcl : cs.size = l.length := by simpa using h.1.1.symm
  obtain ⟨h1, h2⟩ := foldl_set off xs.toList 0 cs (by simp; omega)
  have e : xs.zipIdx.foldl (fun cs (p : Value × Nat) => cs.setIfInBounds (off + p.2) p.1) cs = (xs.toList.zipIdx 0).foldl (fun cs p => cs.setIfInBounds (off + p.2) p.1) cs := by
    rw [← Array.foldl_toList, Array.toList_zipIdx]
  rw [e]
  refine ⟨h.over k ho (by simpa using h1) (fun q => ?_), h1⟩
  have := h2 q
  simp only [Nat.add_zero] at this
  rw [Array.getElem?_toList, this]
  simp
theorem eP_true {e : Env} (hf : Fm μ e a) {place : Nat → Option (Nat × Nat)} : ∀ {l : List (Nat × Operand)} {k : List (Nat × Nat × AV) → Bool}, eP e place l k = true →
    ∃ ps : List (Nat × Nat × AV), k ps = true ∧ ps.length = l.length ∧ ∀ (j : Nat) (i : Nat) (x : Operand), l[j]? = some (i, x) → ∃ off sz v, ps[j]? = some (off, sz, v) ∧ place i = some (off, sz) ∧ VRel μ v (a.eval x)
  | [], k, h => ⟨[], h, rfl, fun j i x hx => by simp at hx⟩
  | (i, x) :: l, k, h => by
    have h : (match place i with
      | some (off, sz) => eO e x fun v => eP e place l fun l => k ((off, sz, v) :: l)
      | none => false) = true := h
    cases hp : place i with
    | none => rw [hp] at h; cases h
    | some q =>
      obtain ⟨off, sz⟩ := q
      rw [hp] at h
      obtain ⟨v, h1, hv⟩ := eO_true hf (show eO e x (fun v => eP e place l fun l => k ((off, sz, v) :: l)) = true from h)
      obtain ⟨ps, h2, h3, h4⟩ := eP_true hf h1
      refine ⟨_, h2, by simp [h3], fun j i' x' hx => ?_⟩
      cases j with
      | zero => simp at hx; obtain ⟨rfl, rfl⟩ := hx; exact ⟨off, sz, v, rfl, hp, hv⟩
      | succ j => exact h4 j i' x' (by simpa using hx)
theorem fill_sound {place : Nat → Option (Nat × Nat)} {n : Nat} : ∀ {ps : List (Nat × Nat × AV)} {l : List (Nat × Operand)} {z : List AV} {cs : Array Value} {k : List AV → Bool}, fillX n z ps k = true → ps.length = l.length →
    (∀ (j : Nat) (i : Nat) (x : Operand), l[j]? = some (i, x) → ∃ off sz v, ps[j]? = some (off, sz, v) ∧ place i = some (off, sz) ∧ VRel μ v (a.eval x)) → VC μ z cs.toList → z.length = n →
    ∃ m cs', k m = true ∧ m.length = n ∧ VC μ m cs'.toList ∧ Instr.fill place cs (l.map fun p => (p.1, a.eval p.2)) = some cs'
  | [], [], z, cs, k, h, _, _, hc, hz => ⟨z, cs, h, hz, hc, rfl⟩
  | [], _ :: _, z, cs, k, h, hl, _, hc, hz => by simp at hl
  | _ :: _, [], z, cs, k, h, hl, _, hc, hz => by simp at hl
  | (off, sz, v) :: ps, (i, x) :: l, z, cs, k, h, hl, hj, hc, hz => by
    obtain ⟨off', sz', v', e1, hp, hv⟩ := hj 0 i x rfl
    simp at e1
    obtain ⟨rfl, rfl, rfl⟩ := e1
    obtain ⟨m, h1, hm⟩ := pt_true hv (show pt v (fun l => Bool.rec false (Bool.rec false (fillX n (overAt z off l) ps k) (Nat.beq (len l) sz)) (Nat.ble (Nat.add off sz) n)) = true from h)
    obtain ⟨h2, h3⟩ := brec_true h1
    obtain ⟨h4, h5⟩ := brec_true h3
    have h2 := nle_true h2
    have h4 := neq_true h4
    rw [len_eq] at h4
    have h2 : off + sz ≤ n := h2
    have hcz : cs.size = n := by rw [← hz]; simpa using hc.1.1.symm
    have hxs : (a.eval x).cells.size = sz := by rw [← h4]; simpa using hm.1.1.symm
    obtain ⟨h6, h7⟩ := fill_step (size := sz) (off := off) hc hm (by omega)
    obtain ⟨m', cs', h8, h9, h10, h11⟩ := fill_sound h5 (by simpa using hl) (fun j i x hx => hj (j + 1) i x (by simpa using hx)) h6 (by rw [overAt_len (by omega), hz])
    refine ⟨m', cs', h8, h9, h10, ?_⟩
    simp only [List.map_cons, Instr.fill, hp]
    rw [if_neg (by simp [hxs]; omega)]
    exact h11
theorem op_build (hr : R w0 s w μ) {e : Env} (hf : Fm μ e a) {t : TypeId} {ps : Array (Nat × Operand)} (ho : o.op = .build t ps) {n : Nat} {z : List AV} (hn : szT P t = some n) (hz : zeroC P t = some z) {place : Nat → Option (Nat × Nat)}
    (hb : ∀ (parts : List (Nat × Value)) (v : Value) (it : TypeInfo), P.info? t = some it → it.zero = some v → P.built t parts = Instr.fill place v.cells parts) {k : K} (h : eP e place ps.toList (fun ps => fillX n z ps fun l => vX (.agg l) fun v => k v s) = true) :
    ∃ v s', (nx s).n ≤ (nx s').n ∧ k v s' = true ∧ Good P w0 (nx s) μ v s' ((execOp a.eval o).run P w) := by
  obtain ⟨i, hi, rfl⟩ := szT_inv hn
  obtain ⟨i', v, hi', hv, hc, hlen⟩ := zeroC_inv (μ := μ) hz
  rw [hi] at hi'; cases hi'
  obtain ⟨qs, h1, h2, h3⟩ := eP_true hf h
  obtain ⟨m, cs', h4, h5, h6, h7⟩ := fill_sound (a := a) h1 (l := ps.toList) h2 h3 hc hlen
  rw [vX_eq] at h4
  refine ⟨_, s, Nat.le_refl _, h4, good_val hr (x := .agg cs') (by simpa using h6.agg) ?_⟩
  have hbt : P.built t (ps.map fun (i, x) => (i, a.eval x)).toList = some cs' := by
    rw [hb _ v i hi hv, ← h7]
    congr 1
    simp
  have := run_build (P := P) w t _ cs' hbt
  simp [execOp, ho, this]
end X
/- buildSlice, slices of slices, places of elements, and the rest. -/
namespace X
open Go Go.RowKit
set_option linter.unusedVariables false
set_option linter.unusedSimpArgs false
set_option linter.unusedSectionVars false
variable [Luck]
variable {P : Program} {w0 w : World} {s : St} {μ : Mu} {a : Act} {o : Oper}
theorem flat_set {z : Nat} : ∀ {rs : List (List AV)} {i : Nat} {l : List AV}, (∀ r ∈ rs, r.length = z) → i < rs.length → l.length = z → (rs.set i l).flatten = overAt rs.flatten (i * z) l := fun {rs i l} hr hi hl => by
  have hr' : ∀ r ∈ rs.set i l, r.length = z := fun r hm => (List.mem_or_eq_of_mem_set hm).elim (hr r) (fun e => by rw [e, hl])
  have hfl := flat_len hr
  have hmul : (i + 1) * z ≤ rs.length * z := Nat.mul_le_mul_right _ (by omega)
  rw [Nat.add_mul] at hmul
  apply List.ext_getElem?
  intro q
  rw [overAt_get (by omega)]
  by_cases hq : q < rs.length * z
  · have hz : 0 < z := by
      rcases Nat.eq_zero_or_pos z with e | e
      · rw [e] at hq; omega
      · exact e
    have hq1 : q / z < rs.length := Nat.div_lt_of_lt_mul (by rw [Nat.mul_comm]; exact hq)
    have hq2 : q % z < z := Nat.mod_lt _ hz
    have hqe : q / z * z + q % z = q := by rw [Nat.mul_comm]; exact Nat.div_add_mod q z
    by_cases he : q / z = i
    · have := flat_get (l := rs.set i l) (i := q / z) (o := q % z) (r := l) hr' (by rw [he]; simp [hi]) hq2
      rw [hqe] at this
      rw [this, if_pos (by rw [← he]; omega)]
      congr 1
      rw [← he]; omega
    · have hg : rs[q / z]? = some rs[q / z] := List.getElem?_eq_getElem hq1
      have h1 := flat_get (l := rs.set i l) (i := q / z) (o := q % z) (r := rs[q / z]) hr' (by rw [List.getElem?_set_ne (Ne.symm he)]; exact hg) hq2
      have h2 := flat_get (l := rs) (i := q / z) (o := q % z) hr hg hq2
      rw [hqe] at h1 h2
      rw [h1, h2, if_neg]
      intro hc
      rcases Nat.lt_or_gt_of_ne he with hlt | hgt
      · have : (q / z + 1) * z ≤ i * z := Nat.mul_le_mul_right _ (by omega)
        rw [Nat.add_mul] at this; omega
      · have : (i + 1) * z ≤ q / z * z := Nat.mul_le_mul_right _ (by omega)
        rw [Nat.add_mul] at this; omega
  · have h1 := flat_len hr'
    rw [List.length_set] at h1
    rw [List.getElem?_eq_none (by omega), if_neg (by omega), List.getElem?_eq_none (by omega)]
theorem rep_flat {z : Nat} {zr : List AV} {zc : Array Value} (h : VC μ zr zc.toList) (hz : zr.length = z) (n : Nat) (N : Nat) (hN : N = n * z) (f : Nat → Value) (hf : ∀ i, i < N → zc[i % z]? = some (f i)) : VC μ (rep zr n).flatten ((Array.range N).map f).toList := by
  have hrow : ∀ r ∈ rep zr n, r.length = z := fun r hr => by
    rw [rep_eq] at hr
    rw [(List.mem_replicate.1 hr).2, hz]
  have hfl := flat_len hrow
  rw [rep_eq, List.length_replicate] at hfl
  have hget : ∀ q, q < n * z → (rep zr n).flatten[q]? = zr[q % z]? := fun q hq => by
    have hz : 0 < z := by
      rcases Nat.eq_zero_or_pos z with e | e
      · rw [e] at hq; omega
      · exact e
    have hq1 : q / z < n := Nat.div_lt_of_lt_mul (by rw [Nat.mul_comm]; exact hq)
    have hqe : q / z * z + q % z = q := by rw [Nat.mul_comm]; exact Nat.div_add_mod q z
    have := flat_get (l := rep zr n) (i := q / z) (o := q % z) (r := zr) hrow (by rw [rep_eq, List.getElem?_replicate, if_pos hq1]) (Nat.mod_lt _ hz)
    rw [hqe] at this
    exact this
  have hzr : ∀ (q : Nat) (x : Value), q < N → f q = x → ∃ v, zr[q % z]? = some v ∧ VRel μ v x ∧ x.oneCell' = true := fun q x hq hx => by
    have hc := hf q hq
    rw [hx] at hc
    have hlt := (Array.getElem?_eq_some_iff.1 hc).1
    have hlt' : q % z < zr.length := by have := h.1.1; simp at this; omega
    have hg : zr[q % z]? = some zr[q % z] := List.getElem?_eq_getElem hlt'
    have hc' : zc.toList[q % z]? = some x := by simpa using hc
    exact ⟨_, hg, h.1.2 _ _ x hg hc', h.2 x (List.mem_of_getElem? hc')⟩
  rw [← rep_eq] at hfl
  refine ⟨⟨by simp [hfl, hN], fun q v x hv hx => ?_⟩, fun x hx => ?_⟩
  · have hq : q < N := by rw [hN, ← hfl]; exact (List.getElem?_eq_some_iff.1 hv).1
    rw [hget q (by omega)] at hv
    simp [hq] at hx
    obtain ⟨v', h1, h2, _⟩ := hzr q x hq hx
    rw [hv] at h1; cases h1
    exact h2
  · simp at hx
    obtain ⟨q, hq, hx⟩ := hx
    obtain ⟨v', h1, _, h3⟩ := hzr q x hq hx
    exact h3
theorem rows_sound {z : Nat} : ∀ {ps : List (Nat × Nat × AV)} {l : List (Nat × Operand)} {rs : List (List AV)} {cs : Array Value} {k : List (List AV) → Bool}, rowsX z rs ps k = true → ps.length = l.length →
    (∀ (j : Nat) (i : Nat) (x : Operand), l[j]? = some (i, x) → ∃ off sz v, ps[j]? = some (off, sz, v) ∧ (fun i => some (i, z)) i = some (off, sz) ∧ VRel μ v (a.eval x)) → VC μ rs.flatten cs.toList → (∀ r ∈ rs, r.length = z) →
    ∃ rs' cs', k rs' = true ∧ rs'.length = rs.length ∧ (∀ r ∈ rs', r.length = z) ∧ VC μ rs'.flatten cs'.toList ∧ Instr.fill (fun i => some (i * z, z)) cs (l.map fun p => (p.1, a.eval p.2)) = some cs'
  | [], [], rs, cs, k, h, _, _, hc, hz => ⟨rs, cs, h, rfl, hz, hc, rfl⟩
  | [], _ :: _, rs, cs, k, h, hl, _, hc, hz => by simp at hl
  | _ :: _, [], rs, cs, k, h, hl, _, hc, hz => by simp at hl
  | (off, sz, v) :: ps, (i, x) :: l, rs, cs, k, h, hl, hj, hc, hz => by
    obtain ⟨off', sz', v', e1, hp, hv⟩ := hj 0 i x rfl
    simp at e1 hp
    obtain ⟨rfl, rfl, rfl⟩ := e1
    obtain ⟨rfl, rfl⟩ := hp
    obtain ⟨m, h1, hm⟩ := pt_true hv (show pt v (fun l => Bool.rec false (nthL rs i fun _ => rowsX z (setAt rs i l) ps k) (Nat.beq (len l) z)) = true from h)
    obtain ⟨h2, h3⟩ := brec_true h1
    have h2 := neq_true h2
    rw [len_eq] at h2
    obtain ⟨r, hri, h4⟩ := nthL_true h3
    have hi : i < rs.length := (List.getElem?_eq_some_iff.1 hri).1
    rw [setAt_eq] at h4
    have hfl := flat_len hz
    have hmul : (i + 1) * z ≤ rs.length * z := Nat.mul_le_mul_right _ (by omega)
    rw [Nat.add_mul] at hmul
    have hcz : cs.size = rs.length * z := by rw [← hfl]; simpa using hc.1.1.symm
    have hxs : (a.eval x).cells.size = z := by rw [← h2]; simpa using hm.1.1.symm
    obtain ⟨h6, h7⟩ := fill_step (size := z) (off := i * z) hc hm (by omega)
    rw [← flat_set hz hi h2] at h6
    obtain ⟨rs', cs', h8, h9, h10, h11, h12⟩ := rows_sound h4 (by simpa using hl) (fun j i x hx => hj (j + 1) i x (by simpa using hx)) h6 (fun r hm' => (List.mem_or_eq_of_mem_set hm').elim (hz r) (fun e => by rw [e, h2]))
    refine ⟨rs', cs', h8, by rw [h9]; simp, h10, h11, ?_⟩
    simp only [List.map_cons, Instr.fill]
    rw [if_neg (by simp [hxs]; omega)]
    exact h12
theorem op_buildSlice (hr : R w0 s w μ) {e : Env} (hf : Fm μ e a) {t el : TypeId} {n : Nat} {ps : Array (Nat × Operand)} (ho : o.op = .buildSlice t n ps) (ht : P.underlying t = some (.slice el)) {z : Nat} {zr : List AV} (hz : szT P el = some z) (hzr : zeroC P el = some zr) (hsm : n * z ≤ 1000000) {k : K}
    (h : eP e (fun i => some (i, z)) ps.toList (fun ps => rowsX z (rep zr n) ps fun rs => bsX z n rs s k) = true) : ∃ v s', (nx s).n ≤ (nx s').n ∧ k v s' = true ∧ Good P w0 (nx s) μ v s' ((execOp a.eval o).run P w) := by
  obtain ⟨i, hi, rfl⟩ := szT_inv hz
  obtain ⟨i', v, hi', hv, hc, hlen⟩ := zeroC_inv (μ := μ) hzr
  rw [hi] at hi'; cases hi'
  obtain ⟨qs, h1, h2, h3⟩ := eP_true hf h
  have hcs : v.cells.size = i.size := by rw [← hlen]; simpa using hc.1.1.symm
  have h0 : VC μ (rep zr n).flatten ((Array.range (n * i.size)).map (fun q => v.cells[q % v.cells.size]!)).toList := rep_flat hc hlen n _ rfl _ (fun q hq => by
    have hz0 : 0 < i.size := by
      rcases Nat.eq_zero_or_pos i.size with e | e
      · rw [e] at hq; omega
      · exact e
    have : q % i.size < v.cells.size := by rw [hcs]; exact Nat.mod_lt _ hz0
    rw [hcs, Array.getElem?_eq_getElem this]
    exact congrArg some (getElem!_pos v.cells (q % i.size) this).symm)
  obtain ⟨rs', cs', h4, h5, h6, h7, h8⟩ := rows_sound (a := a) h1 (l := ps.toList) h2 h3 h0 (fun r hr => by rw [rep_eq] at hr; rw [(List.mem_replicate.1 hr).2, hlen])
  have h5 : rs'.length = n := by rw [h5, rep_eq, List.length_replicate]
  obtain ⟨s', hk, hn, hR, hX⟩ := new_rows (rest := []) (el := el) hr h6 h7 h4
  simp only [List.append_nil, Array.toArray_toList] at hR hX
  have hpl : (ps.map fun p => (p.1, a.eval p.2)).toList = ps.toList.map fun p => (p.1, a.eval p.2) := by simp
  refine ⟨_, s', hn, hk, ?_⟩
  have hrun : (Instr.buildSlice t n (ps.map fun p => (p.1, a.eval p.2))).run P w = .ok (.slice (some ⟨w.heap.size, 0, none⟩) n n) { w with heap := w.heap.push (.cells cs' el (0, 0)) } := by
    have hno : ¬ (2 ^ 24 < n * i.size) := by omega
    by_cases hz0 : n * i.size = 0
    · have e0 : ((Array.range (n * i.size)).map (fun q => v.cells[q % v.cells.size]!)) = #[] := by rw [hz0]; simp
      rw [e0] at h8
      simp only [Instr.buildSlice, Sem.run_bind, run_underlying ht, Result.andThen_ok, run_sz hi, gt_iff_lt, hno, if_false, hz0, if_true, Sem.run_pure, hpl]
      have e1 : (Array.range 0) = #[] := rfl
      simp [e1, h8, newRow]
    · simp only [Instr.buildSlice, Sem.run_bind, run_underlying ht, Result.andThen_ok, run_sz hi, gt_iff_lt, hno, if_false, hz0, zeroValue, typeInfo, hi, hv, Sem.run_pure, hpl]
      simp [h8, newRow, hi, hv]
  have hrun2 : (execOp a.eval o).run P w = .ok (.value (.slice (some ⟨w.heap.size, 0, none⟩) n n)) { w with heap := w.heap.push (.cells cs' el (0, 0)) } := by simp [execOp, ho, hrun]
  rw [hrun2]
  refine ⟨_, hX, .sl _ 0 n n _ true _ _ n (setM_same _ _ _) rfl (Nat.le_refl _) (fun _ => rfl) (Nat.le_refl _) (fun _ => by simp) ?_, by simpa using hR⟩
  have := h7.1.1
  rw [flat_len h6, h5] at this
  simpa using Nat.le_of_eq this
end X
/- Slices of slices, places of elements, fields, lengths. -/
namespace X
open Go Go.RowKit
set_option linter.unusedVariables false
set_option linter.unusedSimpArgs false
set_option linter.unusedSectionVars false
variable [Luck]
variable {P : Program} {w0 w : World} {s : St} {μ : Mu} {a : Act} {o : Oper}
theorem vo_int {t : IntKind} {n : Int} {x : Option Value} (h : VO μ (some (.int t n)) x) : x = some (.int t n) := by
  cases x with
  | none => exact h.elim
  | some y => rw [int_inv (show VRel μ _ y from h)]
/-- a bound that may be left out -/
def Bd (x : Option Value) (d n : Nat) : Prop := (x = none ∧ n = d) ∨ ∃ t, x = some (.int t (.ofNat n))
theorem optN_true {x : Option AV} {x' : Option Value} (hx : VO μ x x') {d : Nat} {k : Nat → Bool} (h : optN x d k = true) : ∃ n, k n = true ∧ ((x = none ∧ x' = none ∧ n = d) ∨ (x.isSome = true ∧ ∃ t, x' = some (.int t (.ofNat n)))) := by
  cases x with
  | none => exact ⟨d, h, .inl ⟨rfl, by cases x' with | none => rfl | some _ => exact hx.elim, rfl⟩⟩
  | some v =>
    obtain ⟨t, n, rfl, hk⟩ := wNat_true (show wNat v k = true from h)
    exact ⟨n, hk, .inr ⟨rfl, t, vo_int hx⟩⟩
theorem run_bound (t : IntKind) (n y : Nat) (hn : n ≤ y) (c : BoundsCode) (w : World) : (Instr.sliceBound (.int t (n : Int)) y c).run P w = .ok n w := by
  simp [Instr.sliceBound, asIntOf, hn]
theorem run_bounds {lo hi mx : Option Value} {n cap l h m : Nat} (hl : Bd lo 0 l) (hh : Bd hi n h) (hm : Bd mx cap m) (hnb : mx = none ∨ hi ≠ none) (h1 : l ≤ h) (h2 : h ≤ m) (h3 : m ≤ cap) (w : World) : (Instr.sliceBounds true n cap lo hi mx).run P w = .ok (l, h, m) w := by
  rcases hm with ⟨rfl, rfl⟩ | ⟨t3, rfl⟩
  · rcases hh with ⟨rfl, rfl⟩ | ⟨t2, rfl⟩
    · rcases hl with ⟨rfl, rfl⟩ | ⟨t1, rfl⟩
      · simp [Instr.sliceBounds]
      · simp [Instr.sliceBounds, run_bound t1 l _ h1]
    · rcases hl with ⟨rfl, rfl⟩ | ⟨t1, rfl⟩
      · simp [Instr.sliceBounds, run_bound t2 h _ h2]
      · simp [Instr.sliceBounds, run_bound t2 h _ h2, run_bound t1 l _ h1]
  · rcases hh with ⟨rfl, _⟩ | ⟨t2, rfl⟩
    · rcases hnb with e | e <;> simp at e
    · rcases hl with ⟨rfl, rfl⟩ | ⟨t1, rfl⟩
      · simp [Instr.sliceBounds, run_bound t3 m _ h3, run_bound t2 h _ h2]
      · simp [Instr.sliceBounds, run_bound t3 m _ h3, run_bound t2 h _ h2, run_bound t1 l _ h1]
/-- x[lo:hi:max] of a slice -/
theorem sl_sound {t el : TypeId} {i : TypeInfo} (ht : P.underlying t = some (.slice el)) (hi : P.info? el = some i) {x : AV} {x' : Value} (hx : VRel μ x x') {lo hi' mx : Option AV} {lo' hi2 mx' : Option Value} (hlo : VO μ lo lo') (hhi : VO μ hi' hi2) (hmx : VO μ mx mx') (hnb : mx' = none ∨ hi2 ≠ none) {k : AV → Bool}
    (h : slX i.size x lo hi' mx k = true) : ∃ v v', k v = true ∧ VRel μ v v' ∧ (Instr.sliceAt t x' lo' hi2 mx').run P w = .ok v' w := by
  have fin : ∀ (base : Option Addr) (n cap l h m : Nat), (Instr.sliceBounds true n cap lo' hi2 mx').run P w = .ok (l, h, m) w → (Instr.sliceAt t (.slice base n cap) lo' hi2 mx').run P w = .ok (.slice (if m = l then base else base.map (·.add (l * i.size))) (h - l) (m - l)) w := fun base n cap l h m hb => by
    simp [Instr.sliceAt, Instr.slice, run_underlying ht, hb, run_sz hi]
  have bd : ∀ {x : Option AV} {x' : Option Value} {d n : Nat}, ((x = none ∧ x' = none ∧ n = d) ∨ (x.isSome = true ∧ ∃ t, x' = some (.int t (.ofNat n)))) → Bd x' d n := fun h => h.elim (fun ⟨_, a, b⟩ => .inl ⟨a, b⟩) (fun ⟨_, a⟩ => .inr a)
  rcases wSl_true h with ⟨rfl, h0⟩ | ⟨b, j, n, r, y, ex, rfl, h0⟩
  · cases nils_inv hx
    obtain ⟨l, h1, hl⟩ := optN_true hlo h0
    obtain ⟨q, h2, hq⟩ := optN_true hhi h1
    obtain ⟨m, h3, hm⟩ := optN_true hmx h2
    obtain ⟨e, hk⟩ := brec_true h3
    have e := neq_true e
    have e : l + (q + m) = 0 := e
    obtain rfl : l = 0 := by omega
    obtain rfl : q = 0 := by omega
    obtain rfl : m = 0 := by omega
    refine ⟨.nils, .slice none 0 0, hk, .nils, ?_⟩
    have := fin none 0 0 0 0 0 (run_bounds (bd hl) (bd hq) (bd hm) hnb (Nat.le_refl _) (Nat.le_refl _) (Nat.le_refl _) w)
    simpa using this
  · obtain ⟨p, ad, cap, rfl, hp, hpz, hrc, hex, hlr, had, hsz⟩ := sl_inv hx
    obtain ⟨l, h1, hl⟩ := optN_true hlo h0
    obtain ⟨q, h2, hq⟩ := optN_true hhi h1
    obtain ⟨m, h3, hm⟩ := optN_true hmx h2
    obtain ⟨g1, g2⟩ := brec_true h3
    obtain ⟨g3, g4⟩ := brec_true g2
    obtain ⟨g5, g6⟩ := brec_true g4
    obtain ⟨g7, g8⟩ := brec_true g6
    have g1 := nle_true g1; have g3 := nle_true g3; have g5 := nle_true g5; have g7 := neq_true g7
    obtain ⟨m', hm1, hm2, hm3⟩ : ∃ m', Bd mx' cap m' ∧ (m' = m ∧ mx.isSome = true ∨ m' = cap ∧ m = r ∧ mx = none) ∧ m ≤ m' ∧ m' ≤ cap := by
      rcases hm with ⟨e1, e2, e3⟩ | ⟨e1, t3, e2⟩
      · exact ⟨cap, .inl ⟨e2, rfl⟩, .inr ⟨rfl, e3, e1⟩, by omega, Nat.le_refl _⟩
      · exact ⟨m, .inr ⟨t3, e2⟩, .inl ⟨rfl, e1⟩, Nat.le_refl _, by omega⟩
    refine ⟨_, _, g8, ?_, fin (some ad) n cap l q m' (run_bounds (bd hl) (bd hq) hm1 hnb g1 (by omega) hm3.2 w)⟩
    have hrel : ∀ ad' : Addr, (m' - l ≠ 0 → ad' = ⟨p.g, p.sh + (j + l) * p.z, none⟩) → VRel μ (.sl b (Nat.add j l) (Nat.sub q l) (Nat.sub m l) i.size (Option.rec ex (fun _ => true) mx)) (.slice (some ad') (q - l) (m' - l)) := fun ad' had' => by
      refine .sl b (j + l) (q - l) (m - l) i.size _ p ad' (m' - l) hp (hpz.trans g7) (by omega) (fun e => ?_) (by omega) had' ?_
      · rcases hm2 with ⟨e1, _⟩ | ⟨e1, e2, e3⟩
        · rw [e1]
        · subst e3
          have := hex e
          omega
      · have hmul : (j + l + (m' - l)) * p.z ≤ (j + cap) * p.z := Nat.mul_le_mul_right _ (by omega)
        omega
    by_cases hml : m' = l
    · rw [if_pos hml]
      exact hrel ad (fun e => by omega)
    · rw [if_neg hml]
      refine hrel _ (fun e => ?_)
      show ad.add (l * i.size) = _
      rw [had (by omega), addr_add, ← g7, ← hpz, Nat.add_mul, Nat.add_assoc]
/-- the place of an element of a slice -/
theorem ia_sound {t el : TypeId} {i : TypeInfo} (ht : P.underlying t = some (.slice el)) (hi : P.info? el = some i) {x q : AV} {x' q' : Value} (hx : VRel μ x x') (hq : VRel μ q q') {k : AV → Bool} (h : iaX i.size x q k = true) :
    ∃ v v', k v = true ∧ VRel μ v v' ∧ (Instr.indexAt t x' q').run P w = .ok v' w := by
  rcases wSl_true h with ⟨_, h0⟩ | ⟨b, j, n, r, y, ex, rfl, h0⟩
  · cases h0
  · obtain ⟨t1, m, rfl, h1⟩ := wNat_true h0
    obtain ⟨g1, g2⟩ := brec_true h1
    obtain ⟨g3, g4⟩ := brec_true g2
    have g1 := nle_true g1; have g3 := neq_true g3
    have g1 : m < n := g1
    obtain ⟨p, ad, cap, rfl, hp, hpz, hrc, hex, hlr, had, hsz⟩ := sl_inv hx
    cases int_inv hq
    have h0 : (Int.ofNat m : Int) = (m : Int) := rfl
    refine ⟨_, _, g4, vptr hp (j + m) 0 rfl, ?_⟩
    have hg : (0 : Int) ≤ (m : Int) ∧ (m : Int) < (n : Int) := ⟨by omega, by omega⟩
    simp [Instr.indexAt, asIntOf, run_underlying ht, h0, hg, g1, run_sz hi, had (by omega), addr_add]
    rw [← g3, ← hpz, Nat.add_mul]; omega
theorem iar_sound {t el : TypeId} {n : Nat} {i : TypeInfo} (ht : P.underlying t = some (.array n el)) (hi : P.info? el = some i) {x q : AV} {x' q' : Value} (hx : VRel μ x x') (hq : VRel μ q q') {k : AV → Bool} (h : iarX n i.size x q k = true) :
    ∃ v v', k v = true ∧ VRel μ v v' ∧ (Instr.indexAt t x' q').run P w = .ok v' w := by
  obtain ⟨b, j, o, rfl, h0⟩ := wP_true h
  obtain ⟨t1, m, rfl, h1⟩ := wNat_true h0
  obtain ⟨g1, g2⟩ := brec_true h1
  have g1 := nle_true g1
  have g1 : m < n := g1
  obtain ⟨p, hp, rfl⟩ := ptr_inv hx
  cases int_inv hq
  have h0 : (Int.ofNat m : Int) = (m : Int) := rfl
  refine ⟨_, _, g2, vptr hp j (o + m * i.size) rfl, ?_⟩
  have hg : (0 : Int) ≤ (m : Int) ∧ (m : Int) < (n : Int) := ⟨by omega, by omega⟩
  simp [Instr.indexAt, Instr.sureAddr, asIntOf, run_underlying ht, h0, hg, g1, run_sz hi, addr_add]
  omega
theorem fa_sound {t : TypeId} {fs : Array Field} {f : Field} {n : Nat} {fi : TypeInfo} (ht : P.underlying t = some (.struct fs)) (hf : fs[n]? = some f) (hi : P.info? f.type = some fi) (hz : fi.size ≠ 0) {x : AV} {x' : Value} (hx : VRel μ x x') {k : AV → Bool} (h : faX f.offset x k = true) :
    ∃ v v', k v = true ∧ VRel μ v v' ∧ (Instr.fieldAt t x' n).run P w = .ok v' w := by
  obtain ⟨b, j, o, rfl, h0⟩ := wP_true h
  obtain ⟨p, hp, rfl⟩ := ptr_inv hx
  refine ⟨_, _, h0, vptr hp j (o + f.offset) rfl, ?_⟩
  simp [Instr.fieldAt, Instr.sureAddr, fieldPlace, run_underlying ht, hf, run_sz hi, hz, addr_add]
  omega
theorem part1_sound {t : TypeId} (ht : aggT P t = some false) {l : List AV} {xs : Array Value} (hl : VC μ l xs.toList) {n : Nat} {k : AV → Bool} (h : nthL l n k = true) : ∃ v v', k v = true ∧ VRel μ v v' ∧ (part t xs n).run P w = .ok v' w := by
  obtain ⟨v, hv, hk⟩ := nthL_true h
  obtain ⟨x, hx, hr⟩ := hl.1.get hv
  have hx' : xs[n]? = some x := by simpa using hx
  exact ⟨v, x, hk, hr, by simp [part, aggT_inv ht, hx']⟩
theorem fl_sound {t : TypeId} {fs : Array Field} {f : Field} {n : Nat} (ht : P.underlying t = some (.struct fs)) (hf : fs[n]? = some f) (hg : aggT P f.type = some false) {x : AV} {x' : Value} (hx : VRel μ x x') {k : AV → Bool} (h : flX f.offset x k = true) :
    ∃ v v', k v = true ∧ VRel μ v v' ∧ (Instr.field t x' n).run P w = .ok v' w := by
  obtain ⟨l, rfl, h0⟩ := wAg_true h
  obtain ⟨xs, rfl, hl⟩ := hx.agg_inv
  obtain ⟨v, v', h1, h2, h3⟩ := part1_sound (w := w) hg hl h0
  exact ⟨v, v', h1, h2, by simp [Instr.field, run_underlying ht, hf, asAgg, h3]⟩
theorem fg_sound {t : TypeId} {fs : Array Field} {f : Field} {n : Nat} {i : TypeInfo} (ht : P.underlying t = some (.struct fs)) (hf : fs[n]? = some f) (hg : aggT P f.type = some true) (hi : P.info? f.type = some i) {x : AV} {x' : Value} (hx : VRel μ x x') {k : AV → Bool} (h : fgX f.offset i.size x k = true) :
    ∃ v v', k v = true ∧ VRel μ v v' ∧ (Instr.field t x' n).run P w = .ok v' w := by
  obtain ⟨l, rfl, h0⟩ := wAg_true h
  obtain ⟨xs, rfl, hl⟩ := hx.agg_inv
  obtain ⟨g1, g2⟩ := brec_true h0
  rw [drp_eq, tk_eq] at g2
  have hvc := (hl.drop f.offset).take i.size
  refine ⟨_, _, g2, hvc.agg, ?_⟩
  simp [Instr.field, run_underlying ht, hf, asAgg, part, aggT_inv hg, run_sz hi]
  apply Array.ext'
  simp [Array.toList_extract, List.extract_eq_take_drop]
theorem ex_sound {n : Nat} {x : AV} {x' : Value} (hx : VRel μ x x') {k : AV → Bool} (h : exX n x k = true) : ∃ v v', k v = true ∧ VRel μ v v' ∧ (Instr.extract x' n).run P w = .ok v' w := by
  obtain ⟨l, rfl, h0⟩ := wTu_true h
  obtain ⟨xs, rfl, hl⟩ := hx.tup_inv
  obtain ⟨v, hv, hk⟩ := nthL_true h0
  obtain ⟨y, hy, hr⟩ := hl.get hv
  have hy' : xs[n]? = some y := by simpa using hy
  exact ⟨v, y, hk, hr, by simp [Instr.extract, hy']⟩
theorem is_sound {t : TypeId} (ht : P.underlying t = some .string) {x q : AV} {x' q' : Value} (hx : VRel μ x x') (hq : VRel μ q q') {k : AV → Bool} (h : isX x q k = true) : ∃ v v', k v = true ∧ VRel μ v v' ∧ (Instr.index t x' q').run P w = .ok v' w := by
  obtain ⟨l, rfl, h1⟩ := wS_true h
  obtain ⟨t1, m, rfl, h2⟩ := wNat_true h1
  obtain ⟨c, hc, hk⟩ := nthL_true h2
  obtain ⟨b, rfl, rfl⟩ := str_inv hx
  cases int_inv hq
  simp at hc
  obtain ⟨u, hu, rfl⟩ := hc
  have h0 : (Int.ofNat m : Int) = (m : Int) := rfl
  have hb : b[m]? = some u := by
    have hm : m < b.data.size := (Array.getElem?_eq_some_iff.1 hu).1
    have hm' : m < b.size := hm
    rw [getElem?_pos b m hm']
    have := (Array.getElem?_eq_some_iff.1 hu).2
    exact congrArg some this
  refine ⟨_, .int .u8 u.toNat, hk, .int _ _, ?_⟩
  simp [Instr.index, asIntOf, run_underlying ht, h0, hb]
theorem ix_sound {t el : TypeId} {n : Nat} {i : TypeInfo} (ht : P.underlying t = some (.array n el)) (hi : P.info? el = some i) (h1s : i.size = 1) (hg : aggT P el = some false) {x q : AV} {x' q' : Value} (hx : VRel μ x x') (hq : VRel μ q q') {k : AV → Bool} (h : ixX n x q k = true) : ∃ v v', k v = true ∧ VRel μ v v' ∧ (Instr.index t x' q').run P w = .ok v' w := by
  obtain ⟨l, rfl, h1⟩ := wAg_true h
  obtain ⟨t1, m, rfl, h2⟩ := wNat_true h1
  obtain ⟨g1, g2⟩ := brec_true h2
  have g1 := nle_true g1
  have g1 : m < n := g1
  obtain ⟨xs, rfl, hl⟩ := hx.agg_inv
  cases int_inv hq
  have h0 : (Int.ofNat m : Int) = (m : Int) := rfl
  obtain ⟨v, v', k1, k2, k3⟩ := part1_sound (w := w) hg hl g2
  refine ⟨v, v', k1, k2, ?_⟩
  have hgg : (0 : Int) ≤ (m : Int) ∧ (m : Int) < (n : Int) := ⟨by omega, by omega⟩
  simp [Instr.index, asIntOf, run_underlying ht, h0, hgg, g1, run_sz hi, h1s, k3]
end X
/- Builtins. -/
namespace X
open Go Go.RowKit
set_option linter.unusedVariables false
set_option linter.unusedSimpArgs false
set_option linter.unusedSectionVars false
variable [Luck]
variable {P : Program} {w0 w : World} {s : St} {μ : Mu} {a : Act} {o : Oper}
theorem lns_sound {t ty : TypeId} (ht : P.underlying t = some .string) {x : AV} {x' : Value} (hx : VRel μ x x') {k : AV → Bool} (h : lnsX x k = true) : ∃ v v', k v = true ∧ VRel μ v v' ∧ (Builtin.len_ #[t] ty #[x']).run P w = .ok v' w := by
  obtain ⟨l, rfl, h0⟩ := wS_true h
  obtain ⟨b, rfl, rfl⟩ := str_inv hx
  rw [len_eq] at h0
  refine ⟨_, goInt b.size, h0, ?_, by simp [Builtin.len_, run_underlying ht]⟩
  have : b.size = (b.data.toList.map (·.toNat)).length := by simp
  rw [this]
  exact .int _ _
theorem len_sound {t ty el : TypeId} (ht : P.underlying t = some (.slice el)) {x : AV} {x' : Value} (hx : VRel μ x x') {k : AV → Bool} (h : lenX x k = true) : ∃ v v', k v = true ∧ VRel μ v v' ∧ (Builtin.len_ #[t] ty #[x']).run P w = .ok v' w := by
  cases x <;> first
    | (cases nils_inv hx
       exact ⟨_, goInt 0, h, .int _ _, by simp [Builtin.len_, run_underlying ht]⟩)
    | (rename_i b i l r z ex
       obtain ⟨p, ad, cap, rfl, _⟩ := sl_inv hx
       exact ⟨_, goInt l, h, .int _ _, by simp [Builtin.len_, run_underlying ht]⟩)
    | cases h
theorem cap_sound {t ty el : TypeId} (ht : P.underlying t = some (.slice el)) {x : AV} {x' : Value} (hx : VRel μ x x') {k : AV → Bool} (h : capX x k = true) : ∃ v v', k v = true ∧ VRel μ v v' ∧ (Builtin.cap_ #[t] ty #[x']).run P w = .ok v' w := by
  rcases wSl_true h with ⟨rfl, h0⟩ | ⟨b, j, n, r, y, ex, rfl, h0⟩
  · cases nils_inv hx
    exact ⟨_, goInt 0, h0, .int _ _, by simp [Builtin.cap_, run_underlying ht]⟩
  · obtain ⟨p, ad, cap, rfl, hp, hpz, hrc, hex, hlr, had, hsz⟩ := sl_inv hx
    obtain ⟨he, h1⟩ := brec_true h0
    have := hex he
    subst this
    exact ⟨_, goInt cap, h1, .int _ _, by simp [Builtin.cap_, run_underlying ht]⟩
theorem bytesOk_inv {t : TypeId} {i : TypeInfo} (h : bytesOk P t = true) (hi : P.info? t = some i) : i.bytes ≤ 100000 := by
  unfold bytesOk at h
  rw [hi] at h
  exact nle_true h
theorem rep_rows {z n : Nat} {zr : List AV} (h : zr.length = z) : ∀ r ∈ rep zr n, r.length = z := fun r hr => by
  rw [rep_eq] at hr
  rw [(List.mem_replicate.1 hr).2, h]
theorem zc_get {zc : Array Value} {z : Nat} (hz : zc.size = z) {N q : Nat} (hq : q < N * z) : zc[q % z]? = some (zc[q % zc.size]!) := by
  have hz0 : 0 < z := by
    rcases Nat.eq_zero_or_pos z with e | e
    · rw [e] at hq; omega
    · exact e
  have : q % z < zc.size := by rw [hz]; exact Nat.mod_lt _ hz0
  rw [hz, Array.getElem?_eq_getElem this]
  exact congrArg some (getElem!_pos zc (q % z) this).symm
theorem op_makeSlice (hr : R w0 s w μ) {t el : TypeId} {l c : Operand} (ho : o.op = .makeSlice t l c) {i : TypeInfo} {v : Value} (ht : P.underlying t = some (.slice el)) (hi : P.info? el = some i) (hv : i.zero = some v) {zr : List AV} (hc : VC μ zr v.cells.toList) (hlen : zr.length = i.size) (hby : i.bytes ≤ 100000)
    {x y : AV} (hx : VRel μ x (a.eval l)) (hy : VRel μ y (a.eval c)) {k : K} (h : msX i.size zr x y s k = true) : ∃ v s', (nx s).n ≤ (nx s').n ∧ k v s' = true ∧ Good P w0 (nx s) μ v s' ((execOp a.eval o).run P w) := by
  obtain ⟨t1, m, rfl, h1⟩ := wNat_true h
  obtain ⟨t2, n, rfl, h2⟩ := wNat_true h1
  obtain ⟨g1, g2⟩ := brec_true h2
  obtain ⟨g3, g4⟩ := brec_true g2
  have g1 := nle_true g1
  have g3 := nle_true g3
  have hzs : v.cells.size = i.size := by rw [← hlen]; simpa using hc.1.1.symm
  have hvc : VC μ (rep zr n).flatten (madeCells v.cells (n * i.size)).toList := rep_flat hc hlen n _ rfl _ (fun q hq => zc_get hzs hq)
  obtain ⟨s', hk, hn, hR, hX⟩ := new_rows (rest := []) (el := el) hr (rep_rows hlen) hvc g4
  simp only [List.append_nil, Array.toArray_toList] at hR hX
  have hmul : (i.bytes : Int) * (n : Int) ≤ 281474976710656 := by
    have : i.bytes * n ≤ 100000 * 1000000 := Nat.mul_le_mul hby g1
    have h2 : ((i.bytes * n : Nat) : Int) ≤ 281474976710656 := by omega
    simpa using h2
  have hrun := run_make (P := P) w t el i v ht hi hv t1 t2 (Int.ofNat m) (Int.ofNat n) (Int.natCast_nonneg m) (Int.ofNat_le.2 g3) hmul (by show (n : Int) ≤ _; omega)
  have e1 := int_inv hx
  have e2 := int_inv hy
  have hrun2 : (execOp a.eval o).run P w = .ok (.value (.slice (some ⟨w.heap.size, 0, none⟩) m n)) { w with heap := w.heap.push (.cells (madeCells v.cells (n * i.size)) el (0, 0)) } := by
    simp only [execOp, ho, e1, e2, Sem.run_bind, hrun, Result.andThen_ok, Sem.run_pure]
    rfl
  refine ⟨_, s', hn, hk, ?_⟩
  rw [hrun2]
  refine ⟨_, hX, .sl _ 0 m n _ true _ _ n (setM_same _ _ _) rfl (Nat.le_refl _) (fun _ => rfl) g3 (fun _ => by simp) ?_, by simpa using hR⟩
  simp [size_madeCells]
theorem wrap_i64_id (n : Int) (h0 : -9223372036854775808 ≤ n) (h : n ≤ 9223372036854775807) : IntKind.i64.wrap n = n := by rw [IntKind.wrap_i64]; omega
theorem run_append_zeros (t tx ty el : TypeId) (i : TypeInfo) (zv : Value) (u kx : IntKind) (n : Nat) (ht : P.underlying t = some (.slice el)) (hk : P.underlying tx = some (.int u)) (hi : P.info? el = some i) (hzv : i.zero = some zv) (hzs : zv.cells.size = i.size) (hby : i.bytes ≤ 100000) (hn : n ≤ 1000000) (hone : ∀ x ∈ zv.cells.toList, x.oneCell' = true) :
    AR P w t tx ty el i zv (.int kx (n : Int)) n (Builtin.zeroCells zv.cells n).toList where
  newsLen := by rw [Array.length_toList, size_zeroCells, hzs]
  one := fun x hx => by
    simp [Builtin.zeroCells] at hx
    obtain ⟨q, hq, rfl⟩ := hx
    have hq' : q < n * zv.cells.size := hq
    rw [hzs] at hq'
    have hg := zc_get hzs hq'
    exact hone _ (List.mem_of_getElem? (i := q % i.size) (by simpa using hg))
  nil := fun hn0 => by
    subst hn0
    have hw : IntKind.i64.wrap 0 = 0 := by decide
    simp [Builtin.append_, run_underlying ht, run_underlying hk, run_sz hi, asInt, asIntOf, hw, typeInfo, hi]
  room := fun ad l cap w' hroom hst => by
    have hw : IntKind.i64.wrap (n : Int) = (n : Int) := wrap_i64_id _ (by omega) (by omega)
    have hneg : ¬ ((n : Int) < 0) := by omega
    have hb : ¬ (281474976710656 < (n : Int) * (i.bytes : Int)) := by
      have : n * i.bytes ≤ 1000000 * 100000 := Nat.mul_le_mul hn hby
      have h2 : ((n * i.bytes : Nat) : Int) ≤ 281474976710656 := by omega
      simp at h2; omega
    by_cases h0 : n * i.size = 0
    · have e0 : (Builtin.zeroCells zv.cells n).toList = [] := List.eq_nil_of_length_eq_zero (by rw [Array.length_toList, size_zeroCells, hzs, h0])
      rw [e0] at hst
      simp [Builtin.append_, run_underlying ht, run_underlying hk, run_sz hi, asInt, asIntOf, hw, hneg, typeInfo, hi, hb, hroom, h0, hst]
    · simp [Builtin.append_, run_underlying ht, run_underlying hk, run_sz hi, asInt, asIntOf, hw, hneg, typeInfo, hi, hb, hroom, h0, zeroValue, hzv, hst]
  grow := fun base l cap olds hold hlt hle => by
    have hw : IntKind.i64.wrap (n : Int) = (n : Int) := wrap_i64_id _ (by omega) (by omega)
    have hneg : ¬ ((n : Int) < 0) := by omega
    have hb : ¬ (281474976710656 < (n : Int) * (i.bytes : Int)) := by
      have : n * i.bytes ≤ 1000000 * 100000 := Nat.mul_le_mul hn hby
      have h2 : ((n * i.bytes : Nat) : Int) ≤ 281474976710656 := by omega
      simp at h2; omega
    have hnl : ¬ (l + n ≤ cap) := by omega
    have h63 : ¬ (9223372036854775807 < ((l : Int) + (n : Int))) := by omega
    have hmul : (l + n) * i.bytes ≤ 1000000 * 100000 := Nat.mul_le_mul hle hby
    have h48 : ¬ (281474976710656 < Builtin.nextslicecap (l + n) cap * i.bytes) := by
      have := growslice_fits (bytes := i.bytes) hlt (by omega)
      omega
    have h63' : ¬ (IntKind.i64.max < ((l : Int) + (n : Int))) := by
      have : IntKind.i64.max = 9223372036854775807 := by decide
      omega
    by_cases h0 : n * i.size = 0
    · have e0 : Builtin.zeroCells zv.cells n = #[] := Array.eq_empty_of_size_eq_zero (by rw [size_zeroCells, hzs, h0])
      simp [Builtin.append_, run_underlying ht, run_underlying hk, run_sz hi, asInt, asIntOf, hw, hneg, typeInfo, hi, hb, hnl, h63, h48, h0, zeroValue, hzv, hold, newRow, grownCap, Question.forced, e0]
    · simp [Builtin.append_, run_underlying ht, run_underlying hk, run_sz hi, asInt, asIntOf, hw, hneg, typeInfo, hi, hb, hnl, h63, h48, h0, zeroValue, hzv, hold, newRow, grownCap, Question.forced]
      try (congr 2; apply Array.ext'; simp [List.append_assoc])
end X
/- copy, clear, bytes to string; plain operations. -/
namespace X
open Go Go.RowKit
set_option linter.unusedVariables false
set_option linter.unusedSimpArgs false
set_option linter.unusedSectionVars false
variable [Luck]
variable {P : Program} {w0 w : World} {s : St} {μ : Mu} {a : Act} {o : Oper}
/-- rows, written -/
theorem wr_sound (hr : R w0 s w μ) {b : Id} {p : Pl} (hp : μ b = some p) {i : Nat} {vs : List (List AV)} {xs : List Value} (hrow : ∀ r ∈ vs, r.length = p.z) (hvc : VC μ vs.flatten xs) {k : St → Bool} (h : wrX b i vs s k = true) :
    ∃ s' w', (nx s).n ≤ (nx s').n ∧ k s' = true ∧ R w0 s' w' μ ∧ (storeCells ⟨p.g, p.sh + i * p.z, none⟩ xs).run P w = .ok () w' := by
  obtain ⟨z', rows, hb, h3⟩ := wCw_true h
  obtain ⟨hfit, h4⟩ := brec_true h3
  have hfit := nle_true hfit
  rw [len_eq, len_eq] at hfit
  have hfit : i + vs.length ≤ rows.length := hfit
  have hcl := hr.cl (.inl hb) hp
  obtain ⟨hz', hl2, hsz', cs, el', hcs, hcsz, hcell⟩ := id hcl
  have hmul : (i + vs.length) * p.z ≤ rows.length * p.z := Nat.mul_le_mul_right _ hfit
  rw [Nat.add_mul] at hmul
  have hxl : xs.length = vs.length * p.z := by rw [← hvc.1.1, flat_len hrow]
  have hst := run_storeCells_at (P := P) p.g (p.sh + i * p.z) el' xs 0 cs w hcs (by omega) hvc.2
  simp only [Nat.add_zero] at hst
  exact ⟨_, w.setRow p.g (cs.toList.take (p.sh + i * p.z) ++ xs ++ cs.toList.drop (p.sh + i * p.z + xs.length)).toArray, by rw [putO_nx]; exact Nat.le_refl _, h4, hr.write hb hp rfl rfl rfl (by simp) (fun k hk => setRow_other w _ _ _ hk) (hcl.writeRows hrow hvc hfit hcs (setRow_heap w _ _ _ _ _ hcs)), hst⟩
theorem Rows.firstN {z n m : Nat} {x : Value} {rs : List (List AV)} {xs : List Value} (h : Rows μ w z x n rs xs) (hm : m ≤ n) : (Builtin.firstCells z m x).run P w = .ok (xs.take (m * z)).toArray w := by
  have hxl := h.xlen
  obtain ⟨h1, h2, h3, base, cap, rfl, h4, h5⟩ := h
  have hmul : m * z ≤ n * z := Nat.mul_le_mul_right _ hm
  cases base with
  | some b => exact run_firstCells_some w z m b n cap (xs.take (m * z)) (by simp; omega) (fun j u hu => by
      rw [List.getElem?_take] at hu
      split at hu
      · obtain ⟨b', e, hc⟩ := h4 j u hu
        cases e; exact hc
      · cases hu)
  | none =>
    have hn : n = 0 := h5.resolve_right (fun ⟨b, hb⟩ => by cases hb)
    subst hn
    have hm0 : m = 0 := by omega
    subst hm0
    have : xs = [] := List.eq_nil_of_length_eq_zero (by simpa using hxl)
    subst this
    simpa using run_firstCells_none (P := P) w z 0 0 cap
theorem flat_take {z m : Nat} {rs : List (List AV)} (h : ∀ r ∈ rs, r.length = z) (hm : m ≤ rs.length) : (rs.take m).flatten = rs.flatten.take (m * z) := by
  have h' : ∀ r ∈ rs.take m, r.length = z := fun r hr => h r (List.mem_of_mem_take hr)
  have e : rs.flatten = (rs.take m).flatten ++ (rs.drop m).flatten := by rw [← List.flatten_append, List.take_append_drop]
  have hl := flat_len h'
  rw [List.length_take, Nat.min_eq_left hm] at hl
  have e2 : rs.flatten.take (m * z) = ((rs.take m).flatten ++ (rs.drop m).flatten).take (m * z) := by rw [← e]
  rw [e2, ← hl, List.take_left]
/-- copy -/
theorem cp_sound (hr : R w0 s w μ) {t u ty el : TypeId} {i : TypeInfo} (ht : P.underlying t = some (.slice el)) (hi : P.info? el = some i) {x y : AV} {x' y' : Value} (hx : VRel μ x x') (hy : VRel μ y y') {k : K} (h : cpX i.size x y s k = true) :
    ∃ v s', (nx s).n ≤ (nx s').n ∧ k v s' = true ∧ ∃ v' w', VRel μ v v' ∧ R w0 s' w' μ ∧ (Builtin.copy_ #[t, u] ty #[x', y']).run P w = .ok v' w' := by
  have lenof : ∀ {n : Nat} {rs : List (List AV)} {xs : List Value}, Rows μ w i.size y' n rs xs → (Builtin.lenOf y').run P w = .ok n w := fun hh => by
    obtain ⟨base, cap, rfl, _⟩ := hh.sl
    rfl
  rcases wSl_true h with ⟨rfl, h0⟩ | ⟨b, j, l, r, z, ex, rfl, h0⟩
  · cases nils_inv hx
    obtain ⟨n, rs, xs, h1, hrows⟩ := rowsOf_true hr hy h0
    refine ⟨_, s, Nat.le_refl _, h1, goInt 0, w, .int _ _, hr, ?_⟩
    have hf := hrows.firstN (P := P) (Nat.zero_le n)
    simp [Builtin.copy_, run_underlying ht, lenof hrows, run_sz hi, hf]
  · obtain ⟨hz, h1⟩ := brec_true h0
    have hz := neq_true hz
    subst hz
    obtain ⟨n, rs, xs, h2, hrows⟩ := rowsOf_true hr hy h1
    obtain ⟨p, ad, cap, rfl, hp, hpz, hrc, hex, hlr, had, hsz⟩ := sl_inv hx
    have hmn : Nat.min n l ≤ n := Nat.min_le_left _ _
    have hf := hrows.firstN (P := P) hmn
    rw [tk_eq] at h2
    have hvc : VC μ (rs.take (Nat.min n l)).flatten (xs.take (Nat.min n l * i.size)) := by
      rw [flat_take hrows.row (by rw [hrows.len]; exact hmn)]
      exact hrows.vc.take _
    obtain ⟨s', w', hn, hk, hR, hst⟩ := wr_sound (P := P) hr hp (fun r hr => by rw [hpz]; exact hrows.row r (List.mem_of_mem_take hr)) hvc h2
    refine ⟨_, s', hn, hk, goInt (Nat.min n l), w', .int _ _, hR, ?_⟩
    by_cases hc0 : cap = 0
    · have hl0 : l = 0 := by omega
      subst hl0
      have hm0 : Nat.min n 0 = 0 := Nat.min_zero n
      rw [hm0] at hst hf ⊢
      simp only [Nat.zero_mul, List.take_zero] at hst hf
      have hww : w' = w := by
        simp [storeCells] at hst
        exact hst.symm
      subst hww
      simp [Builtin.copy_, run_underlying ht, lenof hrows, run_sz hi, hm0, hf, storeCells]
    · rw [← had hc0] at hst
      simp [Builtin.copy_, run_underlying ht, lenof hrows, run_sz hi, hf, hst]
theorem cl_sound (hr : R w0 s w μ) {t ty el : TypeId} {i : TypeInfo} {v : Value} (ht : P.underlying t = some (.slice el)) (hi : P.info? el = some i) (hv : i.zero = some v) {zr : List AV} (hc : VC μ zr v.cells.toList) (hlen : zr.length = i.size) {x : AV} {x' : Value} (hx : VRel μ x x') {k : St → Bool} (h : clX i.size zr x s k = true) :
    ∃ s' w', (nx s).n ≤ (nx s').n ∧ k s' = true ∧ R w0 s' w' μ ∧ (Builtin.clear_ #[t] ty #[x']).run P w = .ok (.tuple #[]) w' := by
  have hzs : v.cells.size = i.size := by rw [← hlen]; simpa using hc.1.1.symm
  rcases wSl_true h with ⟨rfl, h0⟩ | ⟨b, j, l, r, z, ex, rfl, h0⟩
  · cases nils_inv hx
    exact ⟨s, w, Nat.le_refl _, h0, hr, by simp [Builtin.clear_, run_underlying ht]⟩
  · obtain ⟨hz, h1⟩ := brec_true h0
    have hz := neq_true hz
    subst hz
    obtain ⟨p, ad, cap, rfl, hp, hpz, hrc, hex, hlr, had, hsz⟩ := sl_inv hx
    have hvc : VC μ (rep zr l).flatten (Builtin.zeroCells v.cells l).toList := rep_flat hc hlen l _ (by rw [hzs]) _ (fun q hq => zc_get hzs (by rwa [hzs] at hq))
    obtain ⟨s', w', hn, hk, hR, hst⟩ := wr_sound (P := P) hr hp (fun r hr => by rw [hpz]; exact rep_rows hlen r hr) hvc h1
    refine ⟨s', w', hn, hk, hR, ?_⟩
    cases l with
    | zero =>
      have e0 : (Builtin.zeroCells v.cells 0).toList = [] := List.eq_nil_of_length_eq_zero (by rw [Array.length_toList, size_zeroCells, Nat.zero_mul])
      rw [e0] at hst
      have hww : w' = w := by
        simp [storeCells] at hst
        exact hst.symm
      subst hww
      simp [Builtin.clear_, run_underlying ht]
    | succ l =>
      rw [← had (by omega)] at hst
      simp [Builtin.clear_, run_underlying ht, zeroValue, typeInfo, hi, hv, hst]
theorem wBy_true {v : AV} {k : Nat → Bool} (h : wBy v k = true) : ∃ n : Nat, v = .int .u8 (.ofNat n) ∧ n ≤ 255 ∧ k n = true := by
  obtain ⟨t, n, rfl, h⟩ := wI_true h
  obtain ⟨h1, h2⟩ := brec_true h
  have := kq_true h1
  subst this
  obtain ⟨m, rfl, h3⟩ := wN_true h2
  obtain ⟨h4, h5⟩ := brec_true h3
  exact ⟨m, rfl, nle_true h4, h5⟩
theorem byt_true : ∀ {l : List (List AV)} {k : List Nat → Bool}, (∀ r ∈ l, r.length = 1) → byt l k = true → ∃ m : List Nat, k m = true ∧ l.flatten = m.map (fun n => AV.int .u8 (.ofNat n)) ∧ ∀ n ∈ m, n ≤ 255
  | [], k, _, h => ⟨[], h, rfl, by simp⟩
  | r :: l, k, hr, h => by
    obtain ⟨v, hv, h1⟩ := nthL_true (show nthL r 0 (fun v => wBy v fun n => byt l fun m => k (n :: m)) = true from h)
    obtain ⟨n, rfl, hn, h2⟩ := wBy_true h1
    obtain ⟨m, h3, h4, h5⟩ := byt_true (fun r hr' => hr r (by simp [hr'])) h2
    have hrl := hr r (by simp)
    obtain ⟨c, rfl⟩ := List.length_eq_one_iff.1 hrl
    simp at hv
    subst hv
    exact ⟨n :: m, h3, by simp [h4], by simpa [hn] using h5⟩
theorem foldl_push (l : List Nat) : ∀ b : ByteArray, ((l.map Int.ofNat).foldl (fun r n => r.push (UInt8.ofNat n.toNat)) b).data.toList = b.data.toList ++ l.map fun n => UInt8.ofNat n := by
  induction l with
  | nil => intro b; simp
  | cons x l ih =>
    intro b
    simp only [List.map_cons, List.foldl_cons]
    rw [ih]
    simp [ByteArray.push]
theorem bstr_sound (hr : R w0 s w μ) {x : AV} {x' : Value} (hx : VRel μ x x') {k : AV → Bool} (h : bstrX x s k = true) : ∃ v v', k v = true ∧ VRel μ v v' ∧ (Conv.bytesToString x').run P w = .ok v' w := by
  obtain ⟨n, rs, xs, h1, hrows⟩ := rowsOf_true hr hx h
  obtain ⟨m, h2, h3, h4⟩ := byt_true hrows.row h1
  have hvc := hrows.vc
  rw [h3] at hvc
  have hxs : xs = (m.map Int.ofNat).map fun n => Value.int .u8 n := by
    apply List.ext_getElem?
    intro q
    rw [List.map_map, List.getElem?_map]
    cases hq : m[q]? with
    | none =>
      have := hvc.1.1
      simp at this
      have hle := List.getElem?_eq_none_iff.1 hq
      simp; omega
    | some c =>
      obtain ⟨y, hy, hrel⟩ := hvc.1.get (i := q) (v := .int .u8 (.ofNat c)) (by simp [hq])
      rw [hy, int_inv hrel]
      rfl
  have hml : m.length = n := by
    have := hrows.xlen
    rw [hxs] at this
    simpa using this
  obtain ⟨base, cap, rfl, hcells, hb⟩ := hrows.sl
  have hu : ∀ c ∈ m, (UInt8.ofNat c).toNat = c := fun c hc => by
    have := h4 c hc
    simp; omega
  cases base with
  | none =>
    have hn : n = 0 := hb.resolve_right (fun ⟨b, hb⟩ => by cases hb)
    subst hn
    have : m = [] := List.eq_nil_of_length_eq_zero hml
    subst this
    exact ⟨.str [], .string .empty, h2, VRel.str (μ := μ) ByteArray.empty, by simp [Conv.bytesToString]⟩
  | some ad =>
    have hrun := run_bytesToString (P := P) w ad n cap (m.map Int.ofNat) (by
      rw [← hml]
      have := run_loadCells_list (P := P) w ad xs (fun j v hj => by
        obtain ⟨b', e, hc⟩ := hcells j v hj
        cases e; exact hc)
      rw [hxs] at this
      simpa using this)
    refine ⟨.str m, _, h2, ?_, hrun⟩
    have hd := foldl_push m ByteArray.empty
    have hrel := VRel.str (μ := μ) ((m.map Int.ofNat).foldl (fun r n => r.push (UInt8.ofNat n.toNat)) ByteArray.empty)
    rw [hd] at hrel
    have e : (ByteArray.empty.data.toList ++ m.map fun n => UInt8.ofNat n).map (·.toNat) = m := by
      have : ByteArray.empty.data.toList = [] := rfl
      rw [this, List.nil_append, List.map_map]
      conv => rhs; rw [← List.map_id m]
      exact List.map_congr_left (fun c hc => hu c hc)
    rw [e] at hrel
    exact hrel
end X
/- One operation: the step is true to the model's outcome. -/
namespace X
open Go Go.RowKit
set_option linter.unusedVariables false
set_option linter.unusedSimpArgs false
set_option linter.unusedSectionVars false
variable [Luck]
variable {P : Program} {w0 w : World} {s : St} {μ : Mu} {a : Act} {o : Oper}
/-- equality of values of this struct type is equality of their cells -/
def EqOk (P : Program) (t : TypeId) (g : List Nat) : Prop := P.eqGuardType P.depth t = false ∧ ∀ (w : World) (μ : Mu) (l m : List AV) (xs ys : Array Value) (k : Bool → Bool), VC μ l xs.toList → VC μ m ys.toList → feq g l m k = true → ∃ e, k e = true ∧ (Op.equal t (.agg xs) (.agg ys)).run P w = .ok e w
theorem sigOf_mem {t : Nat} {g : List Nat} : ∀ {l : List (Nat × List Nat)}, sigOf t l = some g → (t, g) ∈ l
  | [], h => by cases h
  | (u, g') :: l, h => by
    have h : (match Nat.beq t u with | true => some g' | false => sigOf t l) = some g := h
    cases e : Nat.beq t u with
    | true => rw [e] at h; cases h; rw [neq_true e]; simp
    | false => rw [e] at h; exact List.mem_cons_of_mem _ (sigOf_mem h)
theorem memN_true {t : Nat} : ∀ {l : List Nat}, memN t l = true → t ∈ l
  | [], h => by cases h
  | u :: l, h => by
    have h : (match Nat.beq t u with | true => true | false => memN t l) = true := h
    cases e : Nat.beq t u with
    | true => rw [neq_true e]; simp
    | false => rw [e] at h; exact List.mem_cons_of_mem _ (memN_true h)
theorem op1_pure (hr : R w0 s w μ) {k : K} {x : Sem Value} {r : Result Next} (he : r = (do pure (Next.value (← x)) : Sem Next).run P w) (h : ∃ v v', k v s = true ∧ VRel μ v v' ∧ x.run P w = .ok v' w) : Op1 P w0 s μ k r := by
  obtain ⟨v, v', hk, hv, hx⟩ := h
  exact op1_intro ⟨v, s, Nat.le_refl _, hk, good_val hr hv (by rw [he]; simp [hx])⟩
theorem op1_mem (hr : R w0 s w μ) {k : K} {x : Sem Value} {r : Result Next} (he : r = (do pure (Next.value (← x)) : Sem Next).run P w) (h : ∃ v s', (nx s).n ≤ (nx s').n ∧ k v s' = true ∧ ∃ v' w' μ', x.run P w = .ok v' w' ∧ MX (nx s) μ μ' ∧ VRel μ' v v' ∧ R w0 s' w' μ') : Op1 P w0 s μ k r := by
  obtain ⟨v, s', hn, hk, v', w', μ', hx, hX, hv, hR⟩ := h
  refine op1_intro ⟨v, s', hn, hk, ?_⟩
  have : r = .ok (.value v') w' := by rw [he]; simp [hx]
  rw [this]
  exact ⟨μ', hX, hv, hR⟩
theorem vund : VRel μ und undef := by
  have := (VL.nil (μ := μ)).tup
  simpa [und, Go.undef] using this
theorem equal_unfold (t : TypeId) (x y : Value) : Op.equal t x y = Op.equalIn (9999 + 1) t x y := rfl
theorem isNilP_true {x : AV} {p q : Bool} (h : isNilP x p q = true) : (x = .nilp ∧ p = true) ∨ ∃ b i o, x = .ptr b i o ∧ q = true := by
  cases x <;> first | exact .inl ⟨rfl, h⟩ | exact .inr ⟨_, _, _, rfl, h⟩ | cases h
theorem eqP_nil {t : TypeId} {el : TypeId} (hd : P.underlying t = some (.pointer el)) : (Op.equal t (.pointer none) (.pointer none)).run P w = .ok true w := by
  rw [equal_unfold]
  generalize 9999 = N
  unfold Op.equalIn
  simp only [Sem.run_bind, run_underlying hd, Result.andThen_ok, Sem.run_pure, Option.isNone_none]
theorem eqP_some {t : TypeId} {el : TypeId} (hd : P.underlying t = some (.pointer el)) (c : Addr) : (Op.equal t (.pointer (some c)) (.pointer none)).run P w = .ok false w ∧ (Op.equal t (.pointer none) (.pointer (some c))).run P w = .ok false w := by
  rw [equal_unfold, equal_unfold]
  generalize 9999 = N
  constructor <;>
  · unfold Op.equalIn
    simp only [Sem.run_bind, run_underlying hd, Result.andThen_ok, Sem.run_pure, Option.isNone_some]
theorem nilP_sound {t : TypeId} {el : TypeId} (hd : P.underlying t = some (.pointer el)) {x : AV} {x' : Value} (hx : VRel μ x x') {p q : Bool} (h : isNilP x p q = true) : ∃ e : Bool, (e = true → p = true) ∧ (e = false → q = true) ∧ (Op.equal t x' (.pointer none)).run P w = .ok e w ∧ (Op.equal t (.pointer none) x').run P w = .ok e w := by
  rcases isNilP_true h with ⟨rfl, h1⟩ | ⟨b, i, o, rfl, h1⟩
  · cases hx
    exact ⟨true, fun _ => h1, (fun e => by cases e), eqP_nil hd, eqP_nil hd⟩
  · cases hx
    exact ⟨false, (fun e => by cases e), fun _ => h1, (eqP_some hd _).1, (eqP_some hd _).2⟩
theorem isNilS_true {x : AV} {p q : Bool} (h : isNilS x p q = true) : (x = .nils ∧ p = true) ∨ ∃ b i l r z e, x = .sl b i l r z e ∧ q = true := by
  cases x <;> first | exact .inl ⟨rfl, h⟩ | exact .inr ⟨_, _, _, _, _, _, rfl, h⟩ | cases h
theorem eqS_nil {t : TypeId} {el : TypeId} (hd : P.underlying t = some (.slice el)) : (Op.equal t (.slice none 0 0) (.slice none 0 0)).run P w = .ok true w := by
  rw [equal_unfold]
  generalize 9999 = N
  unfold Op.equalIn
  simp only [Sem.run_bind, run_underlying hd, Result.andThen_ok, Sem.run_pure, Option.isNone_none]
theorem eqS_some {t : TypeId} {el : TypeId} (hd : P.underlying t = some (.slice el)) (c : Addr) (l cp : Nat) : (Op.equal t (.slice (some c) l cp) (.slice none 0 0)).run P w = .ok false w ∧ (Op.equal t (.slice none 0 0) (.slice (some c) l cp)).run P w = .ok false w := by
  rw [equal_unfold, equal_unfold]
  generalize 9999 = N
  constructor <;>
  · unfold Op.equalIn
    simp only [Sem.run_bind, run_underlying hd, Result.andThen_ok, Sem.run_pure, Option.isNone_some]
theorem nilS_sound {t : TypeId} {el : TypeId} (hd : P.underlying t = some (.slice el)) {x : AV} {x' : Value} (hx : VRel μ x x') {p q : Bool} (h : isNilS x p q = true) : ∃ e : Bool, (e = true → p = true) ∧ (e = false → q = true) ∧ (Op.equal t x' (.slice none 0 0)).run P w = .ok e w ∧ (Op.equal t (.slice none 0 0) x').run P w = .ok e w := by
  rcases isNilS_true h with ⟨rfl, h1⟩ | ⟨b, i, l, r, z, e, rfl, h1⟩
  · cases hx
    exact ⟨true, fun _ => h1, (fun e => by cases e), eqS_nil hd, eqS_nil hd⟩
  · cases hx
    exact ⟨false, (fun e => by cases e), fun _ => h1, (eqS_some hd _ _ _).1, (eqS_some hd _ _ _).2⟩
theorem isNilF_true {x : AV} {p q : Bool} (h : isNilF x p q = true) : (x = .nilf ∧ p = true) ∨ ∃ f a c, x = .fn f a c ∧ q = true := by
  cases x <;> first | exact .inl ⟨rfl, h⟩ | exact .inr ⟨_, _, _, rfl, h⟩ | cases h
theorem eqF_nil {t : TypeId} {ps rs : Array TypeId} {vr : Bool} (hd : P.underlying t = some (.func ps rs vr)) : (Op.equal t (.nilFunc) (.nilFunc)).run P w = .ok true w := by
  rw [equal_unfold]
  generalize 9999 = N
  unfold Op.equalIn
  simp only [Sem.run_bind, run_underlying hd, Result.andThen_ok, Sem.run_pure, Option.isNone_none]
theorem eqF_some {t : TypeId} {ps rs : Array TypeId} {vr : Bool} (hd : P.underlying t = some (.func ps rs vr)) (f : Go.Fn) (c1 c2 : Array Value) : (Op.equal t (.func f c1 c2) (.nilFunc)).run P w = .ok false w ∧ (Op.equal t (.nilFunc) (.func f c1 c2)).run P w = .ok false w := by
  rw [equal_unfold, equal_unfold]
  generalize 9999 = N
  constructor <;>
  · unfold Op.equalIn
    simp only [Sem.run_bind, run_underlying hd, Result.andThen_ok, Sem.run_pure, Option.isNone_some]
theorem nilF_sound {t : TypeId} {ps rs : Array TypeId} {vr : Bool} (hd : P.underlying t = some (.func ps rs vr)) {x : AV} {x' : Value} (hx : VRel μ x x') {p q : Bool} (h : isNilF x p q = true) : ∃ e : Bool, (e = true → p = true) ∧ (e = false → q = true) ∧ (Op.equal t x' (.nilFunc)).run P w = .ok e w ∧ (Op.equal t (.nilFunc) x').run P w = .ok e w := by
  rcases isNilF_true h with ⟨rfl, h1⟩ | ⟨f, a, c, rfl, h1⟩
  · cases hx
    exact ⟨true, fun _ => h1, (fun e => by cases e), eqF_nil hd, eqF_nil hd⟩
  · cases hx
    exact ⟨false, (fun e => by cases e), fun _ => h1, (eqF_some hd _ _ _).1, (eqF_some hd _ _ _).2⟩
theorem isNilI_true {x : AV} {p q : Bool} (h : isNilI x p q = true) : (x = .nili ∧ p = true) ∨ ∃ u v, x = .ifc u v ∧ q = true := by
  cases x <;> first | exact .inl ⟨rfl, h⟩ | exact .inr ⟨_, _, rfl, h⟩ | cases h
theorem eqI_nil {t : TypeId} {ms : Array (String × TypeId)} (hd : P.underlying t = some (.interface ms)) : (Op.equal t (.nilIface) (.nilIface)).run P w = .ok true w := by
  rw [equal_unfold]
  generalize 9999 = N
  unfold Op.equalIn
  simp only [Sem.run_bind, run_underlying hd, Result.andThen_ok, Sem.run_pure, Option.isNone_none]
theorem eqI_some {t : TypeId} {ms : Array (String × TypeId)} (hd : P.underlying t = some (.interface ms)) (u : TypeId) (y : Value) : (Op.equal t (.iface u y) (.nilIface)).run P w = .ok false w ∧ (Op.equal t (.nilIface) (.iface u y)).run P w = .ok false w := by
  rw [equal_unfold, equal_unfold]
  generalize 9999 = N
  constructor <;>
  · unfold Op.equalIn
    simp only [Sem.run_bind, run_underlying hd, Result.andThen_ok, Sem.run_pure, Option.isNone_some]
theorem nilI_sound {t : TypeId} {ms : Array (String × TypeId)} (hd : P.underlying t = some (.interface ms)) {x : AV} {x' : Value} (hx : VRel μ x x') {p q : Bool} (h : isNilI x p q = true) : ∃ e : Bool, (e = true → p = true) ∧ (e = false → q = true) ∧ (Op.equal t x' (.nilIface)).run P w = .ok e w ∧ (Op.equal t (.nilIface) x').run P w = .ok e w := by
  rcases isNilI_true h with ⟨rfl, h1⟩ | ⟨u, v, rfl, h1⟩
  · cases hx
    exact ⟨true, fun _ => h1, (fun e => by cases e), eqI_nil hd, eqI_nil hd⟩
  · cases hx
    exact ⟨false, (fun e => by cases e), fun _ => h1, (eqI_some hd _ _).1, (eqI_some hd _ _).2⟩
theorem isNilM_true {x : AV} {p q : Bool} (h : isNilM x p q = true) : (x = .nilm ∧ p = true) ∨ ∃ b, x = .map b ∧ q = true := by
  cases x <;> first | exact .inl ⟨rfl, h⟩ | exact .inr ⟨_, rfl, h⟩ | cases h
theorem eqM_nil {t : TypeId} {kt vt : TypeId} (hd : P.underlying t = some (.map kt vt)) : (Op.equal t (.map none) (.map none)).run P w = .ok true w := by
  rw [equal_unfold]
  generalize 9999 = N
  unfold Op.equalIn
  simp only [Sem.run_bind, run_underlying hd, Result.andThen_ok, Sem.run_pure, Option.isNone_none]
theorem eqM_some {t : TypeId} {kt vt : TypeId} (hd : P.underlying t = some (.map kt vt)) (r : Nat) : (Op.equal t (.map (some r)) (.map none)).run P w = .ok false w ∧ (Op.equal t (.map none) (.map (some r))).run P w = .ok false w := by
  rw [equal_unfold, equal_unfold]
  generalize 9999 = N
  constructor <;>
  · unfold Op.equalIn
    simp only [Sem.run_bind, run_underlying hd, Result.andThen_ok, Sem.run_pure, Option.isNone_some]
theorem nilM_sound {t : TypeId} {kt vt : TypeId} (hd : P.underlying t = some (.map kt vt)) {x : AV} {x' : Value} (hx : VRel μ x x') {p q : Bool} (h : isNilM x p q = true) : ∃ e : Bool, (e = true → p = true) ∧ (e = false → q = true) ∧ (Op.equal t x' (.map none)).run P w = .ok e w ∧ (Op.equal t (.map none) x').run P w = .ok e w := by
  rcases isNilM_true h with ⟨rfl, h1⟩ | ⟨b, rfl, h1⟩
  · cases hx
    exact ⟨true, fun _ => h1, (fun e => by cases e), eqM_nil hd, eqM_nil hd⟩
  · cases hx
    exact ⟨false, (fun e => by cases e), fun _ => h1, (eqM_some hd _).1, (eqM_some hd _).2⟩
/-- nil or not, and what the model says of it -/
theorem nil_sound {d : TypeDesc} {t : TypeId} {b : Operand} {n : Nat} (hd : P.underlying t = some d) (hb : nilK d b = n + 1) {x : AV} {x' : Value} (hx : VRel μ x x') :
    (∀ k : AV → Bool, eqnX (n + 1) x k = true → ∃ e : Bool, k (.bool e) = true ∧ (Op.equal t x' (a.eval b)).run P w = .ok e w ∧ (Op.equal t (a.eval b) x').run P w = .ok e w) ∧
    (∀ k : AV → Bool, nenX (n + 1) x k = true → ∃ e : Bool, k (.bool (!e)) = true ∧ (Op.equal t x' (a.eval b)).run P w = .ok e w ∧ (Op.equal t (a.eval b) x').run P w = .ok e w) := by
  have fin : ∀ {k : AV → Bool} {y : Value}, (∃ e : Bool, (e = true → k (.bool true) = true) ∧ (e = false → k (.bool false) = true) ∧ (Op.equal t x' y).run P w = .ok e w ∧ (Op.equal t y x').run P w = .ok e w) → ∃ e : Bool, k (.bool e) = true ∧ (Op.equal t x' y).run P w = .ok e w ∧ (Op.equal t y x').run P w = .ok e w := fun ⟨e, h1, h2, h3, h4⟩ => ⟨e, (by cases e with | false => exact h2 rfl | true => exact h1 rfl), h3, h4⟩
  have fin2 : ∀ {k : AV → Bool} {y : Value}, (∃ e : Bool, (e = true → k (.bool false) = true) ∧ (e = false → k (.bool true) = true) ∧ (Op.equal t x' y).run P w = .ok e w ∧ (Op.equal t y x').run P w = .ok e w) → ∃ e : Bool, k (.bool (!e)) = true ∧ (Op.equal t x' y).run P w = .ok e w ∧ (Op.equal t y x').run P w = .ok e w := fun ⟨e, h1, h2, h3, h4⟩ => ⟨e, (by cases e with | false => exact h2 rfl | true => exact h1 rfl), h3, h4⟩
  unfold nilK at hb
  split at hb
  case h_1 => cases hb; exact ⟨fun k h => fin (nilP_sound hd hx h), fun k h => fin2 (nilP_sound hd hx h)⟩
  case h_2 => cases hb; exact ⟨fun k h => fin (nilS_sound hd hx h), fun k h => fin2 (nilS_sound hd hx h)⟩
  case h_3 => cases hb; exact ⟨fun k h => fin (nilF_sound hd hx h), fun k h => fin2 (nilF_sound hd hx h)⟩
  case h_4 => cases hb; exact ⟨fun k h => fin (nilI_sound hd hx h), fun k h => fin2 (nilI_sound hd hx h)⟩
  case h_5 => cases hb; exact ⟨fun k h => fin (nilM_sound hd hx h), fun k h => fin2 (nilM_sound hd hx h)⟩
  case h_6 => cases hb
theorem nc_true {x : AV} {x' : Value} (hx : VRel μ x x') {k : AV → Bool} (h : ncX x k = true) : k x = true ∧ x' ≠ .pointer none ∧ x' ≠ .nilIface ∧ x' ≠ .nilFunc ∧ ∀ n a c, x' ≠ .func (.method n) a c := by
  cases hx <;> first | exact ⟨h, by simp, by simp, by simp, by simp⟩ | cases h
theorem run_call (f : Nat) (args : Array Operand) (c : Call) (hc : c.callee = .value (.func f)) (hargs : c.args = args) (ho : o.op = .call c) : (execOp a.eval o).run P w = (callFunc f (args.map a.eval)).run P w := by
  simp [execOp, ho, resolve, hc, hargs, Act.eval, Deferred.ofValue, invoke]
end X
/- One operation is sound. -/
namespace X
open Go Go.RowKit
set_option linter.unusedVariables false
set_option linter.unusedSimpArgs false
set_option linter.unusedSectionVars false
variable [Luck]
variable {P : Program} {w0 w : World} {s : St} {μ : Mu} {a : Act} {o : Oper}
/-- a method, called through an interface -/
def InvOk (P : Program) (inv : Env → Operand → String → List Operand → St → K → Bool) : Prop := ∀ (e : Env) (r : Operand) (n : String) (as : List Operand) (s : St) (k : K), inv e r n as s k = true → ∀ (w0 w : World) (μ : Mu) (a : Act), R w0 s w μ → Fm μ e a →
  Op1 P w0 s μ k ((invoke (.fn (.method n) #[]) (#[a.eval r] ++ (as.map a.eval).toArray)).run P w)
theorem fill_struct {t : TypeId} {fs : Array Field} {pl : List (Nat × Nat)} (ht : P.underlying t = some (.struct fs)) (hp : plc P fs.toList = some pl) (parts : List (Nat × Value)) (v : Value) (it : TypeInfo) (hi : P.info? t = some it) (hv : it.zero = some v) : P.built t parts = Instr.fill (fun i => pl[i]?) v.cells parts := by
  rw [plc_eq] at hp
  unfold Program.built
  rw [hi, ht]
  simp only [hv, hp]
  congr 1
  funext i
  simp
theorem fill_array {t el : TypeId} {n m : Nat} (ht : P.underlying t = some (.array n el)) (hm : szT P el = some m) (parts : List (Nat × Value)) (v : Value) (it : TypeInfo) (hi : P.info? t = some it) (hv : it.zero = some v) : P.built t parts = Instr.fill (fun i => some (i * m, m)) v.cells parts := by
  obtain ⟨ie, hie, rfl⟩ := szT_inv hm
  unfold Program.built
  rw [hi, ht]
  simp only [hv, hie]
theorem snd_call {call : Nat → Fn} (hc : ∀ f, Snd P f (call f)) {f : Nat} (hr : R w0 s w μ) {e : Env} (hf : Fm μ e a) {as : List AV} {xs : Array Value} (hv : VL μ as xs.toList) {k : K} (h : call f as s k = true) : Op1 P w0 s μ k ((callFunc f xs).run P w) :=
  hc f as s k h w0 w μ xs hr hv hf.g0 hf.g2
theorem call_sound {call : Nat → Fn} {inv : Env → Operand → String → List Operand → St → K → Bool} {c : Clo} (hc : ∀ f, Snd P f (call f)) (hi : InvOk P inv) (hv : ∀ f, Snd P f (c f)) (hr : R w0 s w μ) {e : Env} (hf : Fm μ e a) {cl : Call} (ho : o.op = .call cl) {k : K} {r : Result Next} (he : r = (execOp a.eval o).run P w) :
    (∀ f, cl.callee = .value (.func f) → (eL e cl.args.toList fun as => call f as s k) = true → Op1 P w0 s μ k r) ∧
    (∀ f, cl.callee = .value f → (eO e f fun f => eL e cl.args.toList fun as => cvX c f as s k) = true → Op1 P w0 s μ k r) ∧
    (∀ x n, cl.callee = .invoke x n → inv e x n cl.args.toList s k = true → Op1 P w0 s μ k r) := by
  subst he
  refine ⟨fun f hcl h => ?_, fun f hcl h => ?_, fun x n hcl h => ?_⟩
  · obtain ⟨as, h1, hvs⟩ := eL_true hf h
    rw [run_call f cl.args cl hcl rfl ho]
    exact snd_call hc hr hf (xs := cl.args.map a.eval) (by simpa using hvs) h1
  · obtain ⟨g, h0, hg⟩ := eO_true hf h
    obtain ⟨as, h1, hvs⟩ := eL_true hf h0
    obtain ⟨fn, fi, cp, rfl, h2⟩ := wFn_true h1
    obtain ⟨fi', cp', hge, hfi, hcp⟩ := fn_inv hg
    rw [app_eq, app_eq] at h2
    have e1 : (execOp a.eval o).run P w = (callFunc fn (fi' ++ cl.args.map a.eval ++ cp')).run P w := by
      simp [execOp, ho, resolve, hcl, hge, Deferred.ofValue, invoke]
    rw [e1]
    refine snd_call hv hr hf (xs := fi' ++ cl.args.map a.eval ++ cp') ?_ h2
    have := (hfi.app hvs).app hcp
    simpa [List.append_assoc] using this
  · have := hi e x n cl.args.toList s k h w0 w μ a hr hf
    have e1 : (execOp a.eval o).run P w = (invoke (.fn (.method n) #[]) (#[a.eval x] ++ (cl.args.toList.map a.eval).toArray)).run P w := by
      have : (cl.args.toList.map a.eval).toArray = cl.args.map a.eval := by apply Array.ext'; simp
      rw [this]
      simp [execOp, ho, resolve, hcl]
    rw [e1]; exact this
theorem builtin_run {b : Builtin} {cl : Call} (hb : cl.callee = .builtin b) (ho : o.op = .call cl) : (execOp a.eval o).run P w = (builtin b cl.argTypes o.type (cl.args.map fun | .const _ => true | _ => false) (cl.args.map a.eval)).run P w := by
  simp [execOp, ho, resolve, hb, invoke]
  rfl
theorem arr1 {α : Type} {xs : Array α} {x : α} (h : xs.toList = [x]) : xs = #[x] := by apply Array.ext'; simpa using h
theorem arr2 {α : Type} {xs : Array α} {x y : α} (h : xs.toList = [x, y]) : xs = #[x, y] := by apply Array.ext'; simpa using h
end X
