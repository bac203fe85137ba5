/- Maps, calls, a region in the order of the text. -/
import Derived.Test.YtapflcgnihdmoaaGreatDoorA3
import Derived.MapKept
import Derived.Maps.RangeRun
import Derived.Laws.StructEq
/- Maps with keys of int or string: made, looked into, written, gone over. -/
namespace X
open Go Go.RowKit
set_option linter.unusedVariables false
set_option linter.unusedSimpArgs false
set_option linter.unusedSectionVars false
variable [Luck]
variable {P : Program} {w0 w : World} {s : St} {μ : Mu} {a : Act} {o : Oper}
theorem mm_sound (hr : R w0 s w μ) {t kt el : TypeId} (ht : P.underlying t = some (.map kt el)) {k : K} (h : mmX s k = true) : ∃ v s', (nx s).n ≤ (nx s').n ∧ k v s' = true ∧ ∃ v' w' μ', (Instr.makeMap t none).run P w = .ok v' w' ∧ MX (nx s) μ μ' ∧ VRel μ' v v' ∧ R w0 s' w' μ' := by
  obtain ⟨m, hm, hk⟩ := newO_true h
  let p : Pl := ⟨w.heap.size, 0, 0, 0⟩
  have hR := hr.push (o := .map []) (o' := .map #[] 0) hm p rfl ⟨hr.ext.size, #[], by
    show (w.heap.push (.map #[] 0))[w.heap.size]? = _
    rw [Array.getElem?_push, if_pos rfl]; rfl, rfl, fun i e he => by simp at he, fun i k v hk => by simp at hk⟩
  refine ⟨_, _, by show _ ≤ m.n; omega, hk, .map (some w.heap.size), _, _, ?_, MX.set hr p, .map (nx s) p (setM_same _ _ _), hR⟩
  simp [Instr.makeMap, newObj, Sem.run]
/-- entries, one by one -/
def ERel (μ : Mu) (es : List (AV × AV)) (ms : List MapEntry) : Prop := es.length = ms.length ∧ ∀ (i : Nat) (k v : AV), es[i]? = some (k, v) → ∃ e, ms[i]? = some e ∧ VRel μ k e.key ∧ VRel μ v e.val
theorem ERel.inv {μ : Mu} {k v : AV} {es : List (AV × AV)} {ms : List MapEntry} (h : ERel μ ((k, v) :: es) ms) : ∃ e ms', ms = e :: ms' ∧ VRel μ k e.key ∧ VRel μ v e.val ∧ ERel μ es ms' := by
  obtain ⟨h1, h2⟩ := h
  cases ms with
  | nil => simp at h1
  | cons e ms =>
    obtain ⟨e', he, a, b⟩ := h2 0 k v rfl
    have he : e = e' := by simpa using he
    subst he
    exact ⟨e, ms, rfl, a, b, by simpa using h1, fun i k v hi => by
      obtain ⟨e2, he2, c⟩ := h2 (i + 1) k v (by simpa using hi)
      exact ⟨e2, by simpa using he2, c⟩⟩
/-- a key's kind -/
def KdOk (c : Nat) (d : TypeDesc) : Prop := (c = 0 ∧ ∃ k, d = .int k) ∨ (c = 1 ∧ d = .string)
theorem keyK_inv {t : TypeId} {c : Nat} (h : keyK P t = some c) : ∃ d, P.underlying t = some d ∧ KdOk c d := by
  unfold keyK at h
  split at h
  · rename_i k hk; cases h; exact ⟨_, hk, .inl ⟨rfl, k, rfl⟩⟩
  · rename_i hk; cases h; exact ⟨_, hk, .inr ⟨rfl, rfl⟩⟩
  · cases h
/-- keys, held against one another -/
theorem key_same {c : Nat} {d : TypeDesc} (hd : KdOk c d) {x y : AV} {x' y' : Value} (hx : VRel μ x x') (hy : VRel μ y y') {k : Bool → Bool} (h : wEqK c x y k = true) : ∃ e, k e = true ∧ Instr.sameNow d x' y' = some e ∧ (e = true → Instr.sameBits 10000 y' x' = true) := by
  have hN : ∀ N a b, Instr.sameBits (N + 1) a b = Instr.sameBits (N + 1) a b := fun _ _ _ => rfl
  rcases hd with ⟨rfl, kk, rfl⟩ | ⟨rfl, rfl⟩
  · obtain ⟨t, m, rfl, h1⟩ := wI_true (v := x) h
    obtain ⟨u, n, rfl, h2⟩ := wI_true (v := y) h1
    obtain ⟨h3, h4⟩ := brec_true h2
    obtain ⟨h5, h6⟩ := brec_true h4
    obtain rfl := kq_true h3
    obtain rfl := kq_true h5
    rw [int_inv hx, int_inv hy]
    rw [ieq_eq] at h6
    refine ⟨_, h6, by simp [Instr.sameNow]; rfl, fun he => ?_⟩
    have he := of_decide_eq_true he
    subst he
    show Instr.sameBits (9999 + 1) _ _ = true
    generalize 9999 = N
    unfold Instr.sameBits
    simp
  · obtain ⟨l, rfl, h1⟩ := wS_true (v := x) h
    obtain ⟨m, rfl, h2⟩ := wS_true (v := y) h1
    obtain ⟨b, rfl, rfl⟩ := str_inv hx
    obtain ⟨b', rfl, rfl⟩ := str_inv hy
    refine ⟨_, h2, ?_, fun he => ?_⟩
    · rw [← bytes_eq, ← beq_toListBytes]; rfl
    · rw [← bytes_eq] at he
      have h5 : b.toList = b'.toList := by simpa using he
      show Instr.sameBits (9999 + 1) _ _ = true
      generalize 9999 = N
      unfold Instr.sameBits
      show (b' == b) = true
      rw [beq_toListBytes, h5]
      simp
theorem findM_true {c : Nat} {d : TypeDesc} (hd : KdOk c d) {x : AV} {x' : Value} (hx : VRel μ x x') : ∀ {es : List (AV × AV)} {ms : List MapEntry} {j : Nat} {k : Option AV → Bool}, ERel μ es ms → findM c x es k = true →
    (k none = true ∧ Instr.findNow d x' ms j = some none) ∨ ∃ v i y, k (some v) = true ∧ Instr.findNow d x' ms j = some (some (i, y)) ∧ VRel μ v y
  | [], ms, j, k, h, hk => by
    have : ms = [] := List.eq_nil_of_length_eq_zero (by simpa using h.1.symm)
    subst this
    exact .inl ⟨hk, rfl⟩
  | (key, v) :: es, ms, j, k, h, hk => by
    obtain ⟨e, ms', rfl, h1, h2, h3⟩ := h.inv
    obtain ⟨b, h4, hs, _⟩ := key_same hd hx h1 (show wEqK c x key (fun e => (Bool.rec (findM c x es k) (k (some v)) e : Bool)) = true from hk)
    cases b with
    | true =>
      refine .inr ⟨v, j, e.val, h4, ?_, h2⟩
      unfold Instr.findNow
      rw [hs]
    | false =>
      have hnext : Instr.findNow d x' (e :: ms') j = Instr.findNow d x' ms' (j + 1) := by
        conv => lhs; unfold Instr.findNow
        rw [hs]
      rw [hnext]
      exact findM_true hd hx h3 h4
theorem R.mp {w0 w : World} {s : St} {μ : Mu} (hr : R w0 s w μ) {b : Id} {p : Pl} {k : List (AV × AV) → Bool} (h : getM s b k = true) (hp' : μ b = some p) : ∃ es ms, k es = true ∧ hget b (hp s) = .ob (.map es) ∧ w0.heap.size ≤ p.g ∧ w.heap[p.g]? = some (.map ms ms.size) ∧ (∀ (i : Nat) (e : MapEntry), ms[i]? = some e → e.born = i) ∧ ERel μ es ms.toList := by
  obtain ⟨hh, n⟩ := s
  have h : wMap (hget b hh) k = true := h
  show ∃ es ms, k es = true ∧ hget b hh = .ob (.map es) ∧ _
  cases hb : hget b hh with
  | e => rw [hb] at h; cases h
  | nd => rw [hb] at h; cases h
  | ob o =>
    rw [hb] at h
    cases o with
    | map es =>
      obtain ⟨h1, ms, h2, h3, h5, h4⟩ := hr.ob b _ p hb hp'
      exact ⟨es, ms, h, rfl, h1, h2, h5, by simpa using h3.symm, fun i k v hi => by
        obtain ⟨e, he, a⟩ := h4 i k v hi
        exact ⟨e, by simpa using he, a⟩⟩
    | _ => cases h
theorem wKd_true {c : Nat} {d : TypeDesc} (hd : KdOk c d) {x : AV} {x' : Value} (hx : VRel μ x x') {k : Bool} (h : wKd c x k = true) : k = true ∧ ∀ (t : TypeId) (b : Bool), P.underlying t = some d → (Instr.checkKey b 10000 t x').run P w = .ok () w := by
  rcases hd with ⟨rfl, kk, rfl⟩ | ⟨rfl, rfl⟩
  · obtain ⟨t, n, rfl, h1⟩ := wI_true (v := x) h
    obtain ⟨h2, h3⟩ := brec_true h1
    refine ⟨h3, fun t b ht => ?_⟩
    rw [int_inv hx]
    show (Instr.checkKey b (9999 + 1) t _).run P w = _
    generalize 9999 = N
    unfold Instr.checkKey
    simp [run_underlying ht]
  · obtain ⟨l, rfl, h1⟩ := wS_true (v := x) h
    refine ⟨h1, fun t b ht => ?_⟩
    obtain ⟨y, rfl, _⟩ := str_inv hx
    show (Instr.checkKey b (9999 + 1) t _).run P w = _
    generalize 9999 = N
    unfold Instr.checkKey
    simp [run_underlying ht]
theorem map_inv {μ : Mu} {b : Id} {x : Value} (h : VRel μ (.map b) x) : ∃ p, μ b = some p ∧ x = .map (some p.g) := by
  cases h with
  | map b p hp => exact ⟨p, hp, rfl⟩
theorem run_findKey {t : TypeId} {d : TypeDesc} (ht : P.underlying t = some d) {x : Value} {ms : List MapEntry} {r : Option (Nat × Value)} (h : Instr.findNow d x ms 0 = some r) : (Instr.findKey t x ms).run P w = .ok r w := by
  unfold Instr.findKey
  simp [run_underlying ht, h]
theorem zeroV1_inv {t : TypeId} {z : AV} (h : zeroV1 P t = some z) : ∃ v, (∀ w, (zeroValue t).run P w = .ok v w) ∧ VRel μ z v := by
  unfold zeroV1 at h
  split at h
  · rename_i i hi
    split at h
    · rename_i cs hv
      split at h
      · rename_i l hl
        cases h
        refine ⟨.agg cs, fun w => by simp [zeroValue, typeInfo, hi, hv], ?_⟩
        simpa using (ofCells_rel (μ := μ) hl).agg
      · cases h
    · rename_i v _ hv
      exact ⟨v, fun w => by simp [zeroValue, typeInfo, hi, hv], (ofVal_rel (μ := μ) h).1⟩
    · cases h
  · cases h
theorem wMf_true {v : AV} {k : Id → Bool} (h : wM v false k = true) : ∃ b, v = .map b ∧ k b = true := by
  cases v <;> first | exact ⟨_, rfl, h⟩ | cases h
theorem lk_run (hr : R w0 s w μ) {t kt el : TypeId} (ht : P.underlying t = some (.map kt el)) {c : Nat} (hkt : keyK P kt = some c) {z : AV} (hz : zeroV1 P el = some z) {m x : AV} {m' x' : Value} (hm : VRel μ m m') (hx : VRel μ x x') {k : Option AV → Bool} (h : (wM m false fun b => wKd c x (getM s b fun es => findM c x es k)) = true) (ok : Bool) :
    ∃ o v y, k o = true ∧ (o = none ∧ v = z ∨ o = some v) ∧ VRel μ v y ∧ (Instr.lookup t m' x' ok).run P w = .ok (if ok = true then .tuple #[y, .bool o.isSome] else y) w := by
  obtain ⟨b, rfl, h1⟩ := wMf_true h
  obtain ⟨d, hkd, hd⟩ := keyK_inv hkt
  obtain ⟨h2, hck⟩ := wKd_true (P := P) (w := w) hd hx h1
  obtain ⟨p, hp', rfl⟩ := map_inv hm
  obtain ⟨es, ms, h3, h4, h5, h6, h6b, h7⟩ := hr.mp h2 hp'
  obtain ⟨zv, hzr, hzv⟩ := zeroV1_inv (μ := μ) hz
  rcases findM_true (j := 0) hd hx h7 h3 with ⟨h8, h9⟩ | ⟨v, i, y, h8, h9, h10⟩
  · refine ⟨none, z, zv, h8, .inl ⟨rfl, rfl⟩, hzv, ?_⟩
    cases ok <;> simp [Instr.lookup, run_underlying ht, run_getObj_map _ _ _ _ h6, hck kt _ hkd, run_findKey hkd h9, hzr]
  · refine ⟨some v, v, y, h8, .inr rfl, h10, ?_⟩
    cases ok <;> simp [Instr.lookup, run_underlying ht, run_getObj_map _ _ _ _ h6, hck kt _ hkd, run_findKey hkd h9]
theorem lko_sound (hr : R w0 s w μ) {t kt el : TypeId} (ht : P.underlying t = some (.map kt el)) {c : Nat} (hkt : keyK P kt = some c) {z : AV} (hz : zeroV1 P el = some z) {m x : AV} {m' x' : Value} (hm : VRel μ m m') (hx : VRel μ x x') {k : AV → Bool} (h : lkoX c z m x s k = true) :
    ∃ v v', k v = true ∧ VRel μ v v' ∧ (Instr.lookup t m' x' true).run P w = .ok v' w := by
  obtain ⟨o, v, y, h1, h2, h3, h4⟩ := lk_run hr ht hkt hz hm hx (k := fun o => Option.rec (motive := fun _ => Bool) (k (.tup [z, .bool false])) (fun v => k (.tup [v, .bool true])) o) h true
  rcases h2 with ⟨rfl, rfl⟩ | rfl
  · exact ⟨_, _, h1, VL.tup (VL.nil.cons (.bool false) |>.cons h3), h4⟩
  · exact ⟨_, _, h1, VL.tup (VL.nil.cons (.bool true) |>.cons h3), h4⟩
theorem lk_sound (hr : R w0 s w μ) {t kt el : TypeId} (ht : P.underlying t = some (.map kt el)) {c : Nat} (hkt : keyK P kt = some c) {z : AV} (hz : zeroV1 P el = some z) {m x : AV} {m' x' : Value} (hm : VRel μ m m') (hx : VRel μ x x') {k : AV → Bool} (h : lkX c z m x s k = true) :
    ∃ v v', k v = true ∧ VRel μ v v' ∧ (Instr.lookup t m' x' false).run P w = .ok v' w := by
  obtain ⟨o, v, y, h1, h2, h3, h4⟩ := lk_run hr ht hkt hz hm hx (k := fun o => Option.rec (motive := fun _ => Bool) (k z) (fun v => k v) o) h false
  rcases h2 with ⟨rfl, rfl⟩ | rfl
  · exact ⟨_, _, h1, h3, h4⟩
  · exact ⟨_, _, h1, h3, h4⟩
theorem lnm_sound (hr : R w0 s w μ) {t kt el : TypeId} (ht : P.underlying t = some (.map kt el)) {m : AV} {m' : Value} (hm : VRel μ m m') {k : AV → Bool} (h : lnmX m s k = true) {ats : Array TypeId} {ty : TypeId} (ha : ats = #[t]) : ∃ v v', k v = true ∧ VRel μ v v' ∧ (Builtin.len_ ats ty #[m']).run P w = .ok v' w := by
  subst ha
  have h0 : (m = .nilm ∧ k (goI 0) = true) ∨ ∃ b, m = .map b ∧ (getM s b fun es => k (goI (len es))) = true := by
    have h : (wM m (k (goI 0)) fun b => getM s b fun es => k (goI (len es))) = true := h
    cases m <;> first | exact .inl ⟨rfl, h⟩ | exact .inr ⟨_, rfl, h⟩ | cases h
  rcases h0 with ⟨rfl, h1⟩ | ⟨b, rfl, h1⟩
  · have : m' = .map none := by cases hm; rfl
    subst this
    exact ⟨_, goInt 0, h1, .int _ _, by simp [Builtin.len_, run_underlying ht]⟩
  · obtain ⟨p, hp', rfl⟩ := map_inv hm
    obtain ⟨es, ms, h3, h4, h5, h6, h6b, h7⟩ := hr.mp h1 hp'
    refine ⟨_, goInt ms.size, h3, ?_, by simp [Builtin.len_, run_underlying ht, run_getObj_map _ _ _ _ h6]⟩
    have : len es = ms.size := by rw [len_eq, h7.1]; simp
    rw [this]; exact .int _ _
theorem putM_true {c : Nat} {d : TypeDesc} (hd : KdOk c d) {x v : AV} {x' : Value} (hx : VRel μ x x') : ∀ {es : List (AV × AV)} {ms : List MapEntry} {j : Nat} {k : List (AV × AV) → Bool}, ERel μ es ms → putM c x v es k = true →
    (k (es ++ [(x, v)]) = true ∧ Instr.findNow d x' ms j = some none) ∨ ∃ i y e, k (es.set i (x, v)) = true ∧ Instr.findNow d x' ms j = some (some (i + j, y)) ∧ ms[i]? = some e ∧ Instr.sameBits 10000 e.key x' = true
  | [], ms, j, k, h, hk => by
    have : ms = [] := List.eq_nil_of_length_eq_zero (by simpa using h.1.symm)
    subst this
    exact .inl ⟨hk, rfl⟩
  | (key, u) :: es, ms, j, k, h, hk => by
    obtain ⟨e, ms', rfl, h1, h2, h3⟩ := h.inv
    obtain ⟨b, h4, hs, hsb⟩ := key_same hd hx h1 (show wEqK c x key (fun e => (Bool.rec (putM c x v es fun r => k ((key, u) :: r)) (k ((x, v) :: es)) e : Bool)) = true from hk)
    cases b with
    | true =>
      refine .inr ⟨0, e.val, e, h4, ?_, rfl, hsb rfl⟩
      unfold Instr.findNow
      rw [hs]; simp
    | false =>
      have hnext : Instr.findNow d x' (e :: ms') j = Instr.findNow d x' ms' (j + 1) := by
        conv => lhs; unfold Instr.findNow
        rw [hs]
      rw [hnext]
      rcases putM_true (j := j + 1) hd hx h3 h4 with ⟨g1, g2⟩ | ⟨i, y, e2, g1, g2, g3, g4⟩
      · exact .inl ⟨g1, g2⟩
      · exact .inr ⟨i + 1, y, e2, g1, by rw [g2]; congr 3; omega, by simpa using g3, g4⟩
/-- an object of one's own, changed -/
theorem R.objw {w0 w : World} {s : St} {μ : Mu} (h : R w0 s w μ) {b : Id} {o o1 : Ob} {p : Pl} {ob ob' : Obj} {dr : Nat} (hb : hget b (hp s) = .ob o) (hng : isGlob o = false) (hp' : μ b = some p) (hg : w0.heap.size ≤ p.g) (hm : w.heap[p.g]? = some ob)
    (hok : ObOk μ { w with heap := w.heap.setIfInBounds p.g ob', drawn := dr } w0 p o1) : R w0 (putO b (.ob o1) s) { w with heap := w.heap.setIfInBounds p.g ob', drawn := dr } μ := by
  have hlt := (Array.getElem?_eq_some_iff.1 hm).1
  have hoth : ∀ k, k ≠ p.g → (w.heap.setIfInBounds p.g ob')[k]? = w.heap[k]? := fun k hk => Array.getElem?_setIfInBounds_ne (Ne.symm hk)
  have hdis : ∀ c oc q, c ≠ b → hget c (hp s) = .ob oc → μ c = some q → q.g ≠ p.g := fun c oc q hc hoc hq e => hc (h.inj b c o oc p q hb hng hoc hp' hq e.symm).symm
  refine h.step b (h.ext.trans ⟨rfl, rfl, rfl, by simp, fun k hk => hoth k (by omega)⟩) MLe.rfl' (fun c hc o1 => by
    rw [putO_nx] at hc
    have e : c ≠ b := fun e => h.fr c hc _ (by rw [e]; exact hb)
    rw [putO_hp, hget_hset_ne _ _ e]; exact h.fr c hc o1) (fun c hc => h.nxt c (by rwa [putO_nx] at hc)) (fun c q hq => by have := h.bd c q hq; simpa using this) (fun c oc hc hoc => ?_) (fun o2 q ho hq => ?_)
  · rw [putO_hp, hget_hset_ne _ _ hc] at hoc
    exact ⟨hoc, rfl, fun q hq => hoth _ (hdis c oc q hc hoc hq)⟩
  · rw [putO_hp, hget_hset] at ho
    cases ho
    rw [hp'] at hq; cases hq
    refine ⟨hok, fun c oc q hc hoc hq => ?_⟩
    rw [putO_hp, hget_hset_ne _ _ hc] at hoc
    exact hdis c oc q hc hoc hq
theorem mu_sound (hr : R w0 s w μ) {t kt el : TypeId} (ht : P.underlying t = some (.map kt el)) {c : Nat} (hkt : keyK P kt = some c) {m x y : AV} {m' x' y' : Value} (hm : VRel μ m m') (hx : VRel μ x x') (hy : VRel μ y y') {k : St → Bool} (h : muX c m x y s k = true) :
    ∃ s' w', (nx s).n ≤ (nx s').n ∧ k s' = true ∧ R w0 s' w' μ ∧ (Instr.mapUpdate t m' x' y').run P w = .ok () w' := by
  obtain ⟨b, rfl, h1⟩ := wMf_true h
  obtain ⟨d, hkd, hd⟩ := keyK_inv hkt
  obtain ⟨h2, hck⟩ := wKd_true (P := P) (w := w) hd hx h1
  obtain ⟨p, hp', rfl⟩ := map_inv hm
  obtain ⟨es, ms, h3, h4, h5, h6, h6b, h7⟩ := hr.mp h2 hp'
  have hlt := (Array.getElem?_eq_some_iff.1 h6).1
  have hself : ∀ ob', (w.heap.setIfInBounds p.g ob')[p.g]? = some ob' := fun ob' => by simp [hlt]
  rcases putM_true (j := 0) hd hx h7 h3 with ⟨g1, g2⟩ | ⟨i, xv, e, g1, g2, g3, g4⟩
  · have hR := hr.objw (o1 := .map (es ++ [(x, y)])) (ob' := .map (ms.push { key := x', val := y', born := ms.size }) (ms.size + 1)) (dr := w.drawn) h4 rfl hp' h5 h6 ⟨h5, ms.push { key := x', val := y', born := ms.size }, by
        show (w.heap.setIfInBounds p.g _)[p.g]? = _
        rw [hself]; simp, by simp; have := h7.1; simp at this; omega, fun i e he => by
        rw [Array.getElem?_push] at he
        split at he
        · rename_i hi; cases he; exact hi.symm
        · exact h6b i e he, fun i k v hi => by
        rw [List.getElem?_append] at hi
        have hl : es.length = ms.size := by simpa using h7.1
        split at hi
        · rename_i hlt'
          obtain ⟨e, he, h8⟩ := h7.2 i k v hi
          have he : ms[i]? = some e := by simpa using he
          exact ⟨e, by rw [Array.getElem?_push, if_neg (by omega)]; exact he, h8⟩
        · rename_i hge
          cases hj : i - es.length with
          | zero =>
            rw [hj] at hi
            simp only [List.getElem?_cons_zero, Option.some.injEq, Prod.mk.injEq] at hi
            obtain ⟨rfl, rfl⟩ := hi
            exact ⟨_, by rw [Array.getElem?_push, if_pos (by omega)], hx, hy⟩
          | succ j => rw [hj] at hi; simp at hi⟩
    refine ⟨_, _, by rw [putO_nx]; exact Nat.le_refl _, g1, hR, ?_⟩
    simp [Instr.mapUpdate, run_underlying ht, run_getObj_map _ _ _ _ h6, hck kt _ hkd, run_findKey hkd g2, Go.MapKept.run_setObj_map _ h6]
  · have hil := (List.getElem?_eq_some_iff.1 g3).1
    have hia : ms[i]? = some e := by simpa using g3
    have hmod : ∀ q, (ms.modify i fun e => { e with key := x', val := y' })[q]? = (ms[q]?).map (fun e => if i = q then { e with key := x', val := y' } else e) := fun q => by
      rw [Array.getElem?_modify]
      split
      · rename_i hq; subst hq; simp
      · rename_i hq; simp [hq]
    have hR := hr.objw (o1 := .map (es.set i (x, y))) (ob' := .map (ms.modify i fun e => { e with key := x', val := y' }) ms.size) (dr := w.drawn) h4 rfl hp' h5 h6 ⟨h5, ms.modify i fun e => { e with key := x', val := y' }, by
        show (w.heap.setIfInBounds p.g _)[p.g]? = _
        rw [hself]; simp, by simp; have := h7.1; simp at this; omega, fun q e2 he => by
        rw [hmod, Option.map_eq_some_iff] at he
        obtain ⟨e3, h8, h9⟩ := he
        have := h6b q e3 h8
        split at h9 <;> (subst h9; exact this), fun q k v hi => by
        rw [List.getElem?_set] at hi
        split at hi
        · rename_i hiq
          subst hiq
          split at hi
          · cases hi
            exact ⟨{ e with key := x', val := y' }, by rw [hmod, hia]; simp, hx, hy⟩
          · cases hi
        · rename_i hiq
          obtain ⟨e2, h8, h9⟩ := h7.2 q k v hi
          have h8 : ms[q]? = some e2 := by simpa using h8
          exact ⟨e2, by rw [hmod, h8]; simp [hiq], h9⟩⟩
    refine ⟨_, _, by rw [putO_nx]; exact Nat.le_refl _, g1, hR, ?_⟩
    have hst : (Instr.keyThatStays (((ms[i]?).map (·.key)).getD x') x').run P w = .ok x' w := by
      rw [hia]
      simp only [Option.map_some, Option.getD_some]
      unfold Instr.keyThatStays
      simp [g4]
    simp only [Instr.mapUpdate, Sem.run_bind, run_underlying ht, Result.andThen_ok, run_getObj_map _ _ _ _ h6, hck kt _ hkd, run_findKey hkd g2, Nat.add_zero, hst, Go.MapKept.run_setObj_map _ h6]
/-! going over a map -/
theorem rg_sound (hr : R w0 s w μ) {t kt el : TypeId} (ht : P.underlying t = some (.map kt el)) {m : AV} {m' : Value} (hm : VRel μ m m') {k : K} (h : rgX m s k = true) : ∃ v s', (nx s).n ≤ (nx s').n ∧ k v s' = true ∧ ∃ v' w' μ', (Instr.range t m').run P w = .ok v' w' ∧ MX (nx s) μ μ' ∧ VRel μ' v v' ∧ R w0 s' w' μ' := by
  obtain ⟨b, rfl, h1⟩ := wMf_true h
  obtain ⟨p, hp', rfl⟩ := map_inv hm
  obtain ⟨es, ms, h3, h4, h5, h6, h6b, h7⟩ := hr.mp h1 hp'
  obtain ⟨n, hn, hk⟩ := newO_true h3
  let q : Pl := ⟨w.heap.size, 0, 0, 0⟩
  have hlen : len es = ms.size := by rw [len_eq, h7.1]; simp
  have hne : b ≠ nx s := fun e => by
    have := hr.nxt (nx s) (Nat.le_refl _)
    rw [← e, hp'] at this; cases this
  have hR := hr.push (o := .iter b (len es) []) (o' := .mapIter (some p.g) ms.size #[] ms.size) hn q rfl ⟨hr.ext.size, rfl, rfl, p, #[], by
    show setM μ (nx s) q b = _
    simp [setM, hne, hp'], by
    show (w.heap.push _)[w.heap.size]? = _
    rw [Array.getElem?_push, if_pos rfl, hlen], rfl⟩
  refine ⟨_, _, by show _ ≤ n.n; omega, hk, .pointer (some ⟨w.heap.size, 0, none⟩), _, _, ?_, MX.set hr q, vptr (setM_same _ _ _) 0 0 (by simp [q]), hR⟩
  simp [Instr.range, run_underlying ht, run_getObj_map _ _ _ _ h6, newObj, Sem.run]
theorem memB_eq (j : Nat) : ∀ l : List Nat, memB j l = decide (j ∈ l)
  | [] => by simp; rfl
  | u :: l => by
    show (Bool.rec (memB j l) true (Nat.beq j u) : Bool) = _
    rw [memB_eq j l]
    cases h : Nat.beq j u with
    | true => simp [neq_true h]
    | false =>
      have : j ≠ u := fun e => by rw [e, Nat.beq_refl] at h; cases h
      simp [this]
theorem allN_true : ∀ {n : Nat} {l : List Nat}, allN n l = true ↔ ∀ i, i < n → i ∈ l
  | 0, l => ⟨fun _ i hi => absurd hi (by omega), fun _ => rfl⟩
  | n + 1, l => by
    have e : allN (n + 1) l = (Bool.rec false (allN n l) (memB n l) : Bool) := rfl
    rw [e, memB_eq]
    constructor
    · intro h i hi
      obtain ⟨h1, h2⟩ := brec_true h
      rcases Nat.lt_or_ge i n with hl | hg
      · exact allN_true.1 h2 i hl
      · have : i = n := by omega
        subst this; exact of_decide_eq_true h1
    · intro h
      have h1 : decide (n ∈ l) = true := decide_eq_true (h n (by omega))
      rw [h1]
      exact allN_true.2 fun i hi => h i (by omega)
theorem nxL_true {seen : List Nat} {each : Nat → AV → AV → Bool} : ∀ {es : List (AV × AV)} {j : Nat}, nxL es seen each j = true → ∀ (i : Nat) (x y : AV), es[i]? = some (x, y) → j + i ∉ seen → each (j + i) x y = true
  | [], j, h, i, x, y, hi, _ => by simp at hi
  | (a, b) :: es, j, h, i, x, y, hi, hn => by
    have h : (Bool.rec (Bool.rec false (nxL es seen each (Nat.succ j)) (each j a b)) (nxL es seen each (Nat.succ j)) (memB j seen) : Bool) = true := h
    rw [memB_eq] at h
    have htl : nxL es seen each (j + 1) = true := by
      rcases brec_cases h with ⟨_, h1⟩ | ⟨_, h1⟩
      · exact h1
      · exact (brec_true h1).2
    cases i with
    | zero =>
      simp at hi
      obtain ⟨rfl, rfl⟩ := hi
      rcases brec_cases h with ⟨h1, _⟩ | ⟨_, h1⟩
      · exact absurd (of_decide_eq_true h1) (by simpa using hn)
      · simpa using (brec_true h1).1
    | succ i =>
      have := nxL_true htl i x y (by simpa using hi) (by rw [show j + 1 + i = j + (i + 1) by omega]; exact hn)
      rwa [show j + 1 + i = j + (i + 1) by omega] at this
theorem R.it {w0 w : World} {s : St} {μ : Mu} (hr : R w0 s w μ) {b : Id} {p : Pl} {k : Id → Nat → List Nat → Bool} (h : getI s b k = true) (hp' : μ b = some p) : ∃ m n seen pm arr, k m n seen = true ∧ hget b (hp s) = .ob (.iter m n seen) ∧ w0.heap.size ≤ p.g ∧ p.sh = 0 ∧ p.z = 0 ∧ μ m = some pm ∧ w.heap[p.g]? = some (.mapIter (some pm.g) n arr n) ∧ arr.toList.reverse = seen := by
  obtain ⟨hh, n⟩ := s
  have h : wIt (hget b hh) k = true := h
  show ∃ m n seen pm arr, k m n seen = true ∧ hget b hh = _ ∧ _
  cases hb : hget b hh with
  | e => rw [hb] at h; cases h
  | nd => rw [hb] at h; cases h
  | ob o =>
    rw [hb] at h
    cases o with
    | iter m n seen =>
      obtain ⟨h1, h5, h6, pm, arr, h2, h3, h4⟩ := hr.ob b _ p hb hp'
      exact ⟨m, n, seen, pm, arr, h, rfl, h1, h5, h6, h2, h3, h4⟩
    | _ => cases h
theorem nx_sound (hr : R w0 s w μ) {i : AV} {i' : Value} (hi : VRel μ i i') {k : K} (h : nxX i s k = true) (ty : TypeId) : ∃ v s' v' w', (nx s).n ≤ (nx s').n ∧ k v s' = true ∧ (Instr.next i' false ty).run P w = .ok v' w' ∧ VRel μ v v' ∧ R w0 s' w' μ := by
  obtain ⟨b, q, o, rfl, h1⟩ := wP_true h
  obtain ⟨h2, h3⟩ := brec_true h1
  obtain rfl := neq_true h2
  obtain ⟨p, hp', rfl⟩ := ptr_inv hi
  obtain ⟨m, n, seen, pm, arr, h4, h5, h6, hsh, hz, h7, h8, h9⟩ := hr.it h3 hp'
  obtain ⟨es, ms, g1, g2, g3, g4, g5, g6⟩ := hr.mp h4 h7
  obtain ⟨c1, c2⟩ := brec_true g1
  have c1 := neq_true c1
  have hlen : len es = ms.size := by rw [len_eq, g6.1]; simp
  have hn : n = ms.size := by omega
  subst hn
  have hoff : p.sh + q * p.z + 0 = 0 := by rw [hsh, hz]; simp
  rw [hoff]
  have hmem : ∀ j, j ∈ seen ↔ j ∈ arr.toList := fun j => by rw [← h9]; simp
  have hborn : ∀ x ∈ ms.toList, ∃ j, j < ms.size ∧ ms[j]? = some x ∧ x.born = j := fun x hx => by
    obtain ⟨j, hj, e⟩ := List.getElem_of_mem hx
    have hj' : j < ms.size := by simpa using hj
    have e1 : ms[j]? = some x := by rw [Array.getElem?_eq_getElem hj']; simpa using e
    exact ⟨j, hj', e1, g5 j x e1⟩
  have hleft : ∀ e : MapEntry, e ∈ (leftOf ms arr).toList ↔ e ∈ ms.toList ∧ e.born ∉ seen := fun e => by
    unfold leftOf
    rw [Array.toList_filter, List.mem_filter]
    simp [hmem]
  rcases run_next_at (P := P) w ty p.g pm.g ms.size ms.size arr ms ms.size h8 g4 (fun x hx => by
    obtain ⟨j, hj, _, e⟩ := hborn x hx
    omega) (Nat.le_refl _) with ⟨d1, d2⟩ | ⟨e, d1, w1, d2, d3⟩
  · have hall : allN ms.size seen = true := allN_true.2 fun j hj => by
      refine Classical.byContradiction fun hn => ?_
      have e1 : ms[j]? = some ms[j] := Array.getElem?_eq_getElem hj
      have hmm : ms[j] ∈ (leftOf ms arr).toList := (hleft _).2 ⟨by simp, by rw [g5 j _ e1]; exact hn⟩
      have hz : (leftOf ms arr).toList = [] := List.eq_nil_of_length_eq_zero (by simpa using d1)
      rw [hz] at hmm; cases hmm
    rw [hall] at c2
    exact ⟨_, s, _, w, Nat.le_refl _, c2, d2, VL.tup (VL.nil.cons (.bool false)), hr⟩
  · obtain ⟨hm1, hm2⟩ := (hleft e).1 d1
    obtain ⟨j, hj, hje, hjb⟩ := hborn e hm1
    have hnall : allN ms.size seen = false := by
      cases ha : allN ms.size seen with
      | false => rfl
      | true => exact absurd (allN_true.1 ha j hj) (by rw [← hjb]; exact hm2)
    rw [hnall] at c2
    have hjl : j < es.length := by have := g6.1; simp at this; omega
    obtain ⟨x, y, hxy⟩ : ∃ x y, es[j]? = some (x, y) := ⟨(es[j]).1, (es[j]).2, List.getElem?_eq_getElem hjl⟩
    have hk := nxL_true c2 j x y hxy (by rw [Nat.zero_add, ← hjb]; exact hm2)
    rw [Nat.zero_add] at hk
    obtain ⟨e2, k1, k2, k3⟩ := g6.2 j x y hxy
    have : e2 = e := by
      have k1 : ms[j]? = some e2 := by simpa using k1
      rw [hje] at k1; exact (Option.some.inj k1).symm
    subst this
    have hw1 : w1.heap = w.heap ∧ w1.os = w.os ∧ w1.tape = w.tape ∧ w1.output = w.output := by rcases d2 with rfl | rfl <;> exact ⟨rfl, rfl, rfl, rfl⟩
    have hlt := (Array.getElem?_eq_some_iff.1 h8).1
    have hR1 : R w0 s w1 μ := hr.same hw1.1 hw1.2.1 hw1.2.2.1 hw1.2.2.2
    have hR := hR1.objw (o1 := .iter m ms.size (j :: seen)) (ob' := .mapIter (some pm.g) ms.size (arr.push e2.born) ms.size) (dr := w1.drawn) h5 rfl hp' h6 (by rw [hw1.1]; exact h8) ⟨h6, hsh, hz, pm, arr.push e2.born, h7, by
      show (w1.heap.setIfInBounds p.g _)[p.g]? = _
      rw [hw1.1]
      simp [hlt], by simp [h9, hjb]⟩
    refine ⟨_, _, _, _, ?_, hk, d3, VL.tup ((VL.nil.cons k3).cons k2 |>.cons (.bool true)), hR⟩
    rw [putO_nx]; exact Nat.le_refl _
theorem en_sound (hr : R w0 s w μ) {i : AV} {i' : Value} (hi : VRel μ i i') {k : AV → Bool} (h : enX i s k = true) : ∃ v v', k v = true ∧ VRel μ v v' ∧ (Instr.entry i').run P w = .ok v' w := by
  obtain ⟨b, q, o, rfl, h1⟩ := wP_true h
  obtain ⟨h2, h3⟩ := brec_true h1
  obtain rfl := neq_true h2
  obtain ⟨p, hp', rfl⟩ := ptr_inv hi
  obtain ⟨m, n, seen, pm, arr, h4, h5, h6, hsh, hz, h7, h8, h9⟩ := hr.it h3 hp'
  obtain ⟨es, ms, g1, g2, g3, g4, g5, g6⟩ := hr.mp h4 h7
  obtain ⟨c1, c2⟩ := brec_true g1
  have c1 := neq_true c1
  have hlen : len es = ms.size := by rw [len_eq, g6.1]; simp
  have hn : n = ms.size := by omega
  subst hn
  have hoff : p.sh + q * p.z + 0 = 0 := by rw [hsh, hz]; simp
  rw [hoff]
  cases seen with
  | nil => cases c2
  | cons j seen =>
    obtain ⟨⟨x, y⟩, hxy, hk⟩ := nthL_true (show nthL es j (fun p => (Prod.rec (fun x y => k (.tup [x, y])) p : Bool)) = true from c2)
    obtain ⟨e, k1, k2, k3⟩ := g6.2 j x y hxy
    have k1 : ms[j]? = some e := by simpa using k1
    have hb := g5 j e k1
    have harr : arr = (arr.pop).push e.born := by
      have h10 : arr.toList = seen.reverse ++ [j] := by
        have := congrArg List.reverse h9
        simpa using this
      have h11 : arr = (seen.reverse).toArray.push j := by
        apply Array.ext'
        simp [h10]
      rw [h11, hb]; simp
    rw [harr] at h8
    have hnd : (ms.toList.map (·.born)).Nodup := by
      have : ms.toList.map (·.born) = List.range ms.size := by
        apply List.ext_getElem?
        intro q
        rw [List.getElem?_map]
        by_cases hq : q < ms.size
        · have e1 : ms.toList[q]? = some ms[q] := by rw [Array.getElem?_toList]; exact Array.getElem?_eq_getElem hq
          rw [e1, Option.map_some, g5 q _ (Array.getElem?_eq_getElem hq)]
          simp [hq]
        · simp [hq]
      rw [this]; exact List.nodup_range
    refine ⟨_, _, hk, VL.tup ((VL.nil.cons k3).cons k2), run_entry_at (P := P) w p.g pm.g ms.size arr.pop ms ms.size e h8 g4 ?_ hnd⟩
    exact List.mem_of_getElem? (by rw [Array.getElem?_toList]; exact k1)
end X
/- One operation is sound: all of them. -/
namespace X
open Go Go.RowKit
set_option linter.unusedVariables false
set_option linter.unusedSimpArgs false
set_option linter.unusedSectionVars false
variable [Luck]
variable {P : Program} {w0 w : World} {s : St} {μ : Mu} {a : Act} {o : Oper}
theorem callB_sound (hr : R w0 s w μ) {e : Env} (hf : Fm μ e a) {b : Builtin} {cl : Call} (hb : cl.callee = .builtin b) (ho : o.op = .call cl) {k : K} (h : callB P e b cl.args.toList cl.argTypes.toList s k = true) : Op1 P w0 s μ k ((execOp a.eval o).run P w) := by
  rw [builtin_run hb ho]
  unfold callB at h
  split at h
  case h_1 x t h1 h2 =>
    rw [arr1 h2]
    have ha : cl.args.map a.eval = #[a.eval x] := by rw [arr1 h1]; simp
    rw [ha]
    split at h
    case h_1 n el ht => exact op1_pure hr rfl ⟨goI n, goInt n, h, .int _ _, by simp [Builtin.len_, run_underlying ht]⟩
    case h_2 u hu =>
      split at h
      case h_1 n el ht => exact op1_pure hr rfl ⟨goI n, goInt n, h, .int _ _, by simp [Builtin.len_, run_underlying hu, run_underlying ht]⟩
      case h_2 => cases h
    case h_3 ht =>
      obtain ⟨v, h3, hv⟩ := eO_true hf h
      exact op1_pure hr rfl (lns_sound ht hv h3)
    case h_4 el ht =>
      obtain ⟨v, h3, hv⟩ := eO_true hf h
      exact op1_pure hr rfl (len_sound ht hv h3)
    case h_5 kt el ht =>
      split at h
      case h_1 =>
        obtain ⟨v, h3, hv⟩ := eO_true hf h
        exact op1_pure hr rfl (lnm_sound hr ht hv h3 rfl)
      case h_2 => cases h
    case h_6 => cases h
  case h_2 x t h1 h2 =>
    rw [arr1 h2]
    have ha : cl.args.map a.eval = #[a.eval x] := by rw [arr1 h1]; simp
    rw [ha]
    split at h
    case h_1 el ht =>
      obtain ⟨v, h3, hv⟩ := eO_true hf h
      exact op1_pure hr rfl (cap_sound ht hv h3)
    case h_2 => cases h
  case h_3 x y t u h1 h2 =>
    rw [arr2 h2]
    have ha : cl.args.map a.eval = #[a.eval x, a.eval y] := by rw [arr2 h1]; simp
    rw [ha]
    split at h
    case h_2 => cases h
    case h_1 el ht =>
      split at h
      case h_2 => cases h
      case h_1 z zr hz hzr hby =>
        obtain ⟨i, hi, rfl⟩ := szT_inv hz
        obtain ⟨i', v, hi', hv, hc, hlen⟩ := zeroC_inv (μ := μ) hzr
        rw [hi] at hi'; cases hi'
        have hbt := bytesOk_inv hby hi
        have hzs : v.cells.size = i.size := by rw [← hlen]; simpa using hc.1.1.symm
        split at h
        case h_1 ku hu =>
          obtain ⟨xv, h3, hxv⟩ := eO_true hf h
          obtain ⟨yv, h4, hyv⟩ := eO_true hf h3
          obtain ⟨t1, n, rfl, h5⟩ := wNat_true h4
          obtain ⟨h6, h7⟩ := brec_true h5
          have h6 := nle_true h6
          rw [int_inv hyv]
          have har := run_append_zeros (P := P) (w := w) t u o.type el i v ku t1 n ht hu hi hv hzs hbt h6 hc.2
          have hvc : VC μ (rep zr n).flatten (Builtin.zeroCells v.cells n).toList := rep_flat hc hlen n _ (by rw [hzs]) _ (fun q hq => zc_get hzs (by rwa [hzs] at hq))
          exact op1_mem hr rfl (apd_sound hr hzs hxv (by rw [rep_eq, List.length_replicate]) (rep_rows hlen) hvc har h7)
        case h_2 el' hu =>
          obtain ⟨xv, h3, hxv⟩ := eO_true hf h
          obtain ⟨yv, h4, hyv⟩ := eO_true hf h3
          obtain ⟨n, rs, xs, h5, hrows⟩ := rowsOf_true hr hyv h4
          exact op1_mem hr rfl (apd_sound hr hzs hxv hrows.len hrows.row hrows.vc (AR.ofSrc (ty := o.type) ht hi hv hbt (hrows.src rfl hu)) h5)
        case h_3 => cases h
  case h_4 x y t u h1 h2 =>
    rw [arr2 h2]
    have ha : cl.args.map a.eval = #[a.eval x, a.eval y] := by rw [arr2 h1]; simp
    rw [ha]
    split at h
    case h_2 => cases h
    case h_1 el ht =>
      split at h
      case h_2 => cases h
      case h_1 z el' hz hu =>
        obtain ⟨i, hi, rfl⟩ := szT_inv hz
        obtain ⟨xv, h3, hxv⟩ := eO_true hf h
        obtain ⟨yv, h4, hyv⟩ := eO_true hf h3
        obtain ⟨v, s', hn, hk, v', w', hv, hR, hrun⟩ := cp_sound (P := P) (u := u) (ty := o.type) hr ht hi hxv hyv h4
        exact op1_mem hr rfl ⟨v, s', hn, hk, v', w', μ, hrun, MX.rfl', hv, hR⟩
  case h_5 x t h1 h2 =>
    rw [arr1 h2]
    have ha : cl.args.map a.eval = #[a.eval x] := by rw [arr1 h1]; simp
    rw [ha]
    split at h
    case h_2 => cases h
    case h_1 el ht =>
      split at h
      case h_2 => cases h
      case h_1 z zr hz hzr =>
        obtain ⟨i, hi, rfl⟩ := szT_inv hz
        obtain ⟨i', v, hi', hv, hc, hlen⟩ := zeroC_inv (μ := μ) hzr
        rw [hi] at hi'; cases hi'
        obtain ⟨xv, h3, hxv⟩ := eO_true hf h
        obtain ⟨s', w', hn, hk, hR, hrun⟩ := cl_sound (P := P) (ty := o.type) hr ht hi hv hc hlen hxv h3
        exact op1_mem hr rfl ⟨und, s', hn, hk, _, w', μ, hrun, MX.rfl', vund, hR⟩
  case h_6 ts x y h1 =>
    have ha : cl.args.map a.eval = #[a.eval x, a.eval y] := by rw [arr2 h1]; simp
    rw [ha]
    obtain ⟨xv, h3, hxv⟩ := eO_true hf h
    obtain ⟨yv, h4, hyv⟩ := eO_true hf h3
    obtain ⟨t1, m, n, rfl, rfl, h5⟩ := wII_true h4
    rw [int_inv hxv, int_inv hyv]
    rw [nt_eq, ile_eq] at h5
    refine op1_pure hr rfl ?_
    rcases brec_cases h5 with ⟨hc, hk⟩ | ⟨hc, hk⟩
    · exact ⟨_, .int t1 n, hk, .int _ _, by
        have hc : m < n := by simpa using hc
        simp [Builtin.max_, Builtin.max2, hc]⟩
    · exact ⟨_, .int t1 m, hk, .int _ _, by
        have hc : ¬ m < n := by simpa using hc
        simp [Builtin.max_, Builtin.max2, hc]⟩
  case h_7 ts x y h1 =>
    have ha : cl.args.map a.eval = #[a.eval x, a.eval y] := by rw [arr2 h1]; simp
    rw [ha]
    obtain ⟨xv, h3, hxv⟩ := eO_true hf h
    obtain ⟨yv, h4, hyv⟩ := eO_true hf h3
    obtain ⟨t1, m, n, rfl, rfl, h5⟩ := wII_true h4
    rw [int_inv hxv, int_inv hyv]
    rw [nt_eq, ile_eq] at h5
    refine op1_pure hr rfl ?_
    rcases brec_cases h5 with ⟨hc, hk⟩ | ⟨hc, hk⟩
    · exact ⟨_, .int t1 n, hk, .int _ _, by
        have hc : n < m := by simpa using hc
        simp [Builtin.min_, Builtin.min2, hc]⟩
    · exact ⟨_, .int t1 m, hk, .int _ _, by
        have hc : ¬ n < m := by simpa using hc
        simp [Builtin.min_, Builtin.min2, hc]⟩
  case h_8 => cases h
end X
/- One operation is sound. -/
namespace X
open Go Go.RowKit
set_option linter.unusedVariables false
set_option linter.unusedSimpArgs false
set_option linter.unusedSectionVars false
variable [Luck]
variable {P : Program} {w0 w : World} {s : St} {μ : Mu} {a : Act} {o : Oper}
def refV : Value → Bool
  | .pointer _ | .slice .. | .func .. | .nilFunc | .iface .. | .nilIface | .map _ => true
  | _ => false
theorem bin_ref {t : TypeId} {x y : Value} (hx : refV x = true) (hy : refV y = true) : binOp .eql t x y = (do pure (.bool (← Op.equal t x y))) ∧ binOp .neq t x y = (do pure (.bool (!(← Op.equal t x y)))) := by
  cases x <;> first | (cases hx; done) | (cases y <;> first | (cases hy; done) | exact ⟨rfl, rfl⟩)
theorem guard_ref {op : BinOp} {t : TypeId} {p q : Operand} {x y : Value} (hx : refV x = true) (hpq : (∃ v, p = .const v) ∨ ∃ v, q = .const v) : (eqGuard op t p q x y).run P w = .ok () w := by
  cases x <;> first
    | (cases hx; done)
    | (cases op <;> simp [eqGuard]; done)
    | (cases y <;> first
        | (cases op <;> simp [eqGuard]; done)
        | (rcases hpq with ⟨v, rfl⟩ | ⟨v, rfl⟩ <;> cases op <;> simp [eqGuard]; done))
theorem nil_ref {d : TypeDesc} {b : Operand} {n : Nat} (hb : nilK d b = n + 1) {x : AV} {x' : Value} (hx : VRel μ x x') {k : AV → Bool} (h : eqnX (n + 1) x k = true ∨ nenX (n + 1) x k = true) : refV x' = true ∧ refV (a.eval b) = true ∧ ∃ v, b = .const v := by
  unfold nilK at hb
  split at hb
  case h_1 =>
    cases hb
    refine ⟨?_, rfl, _, rfl⟩
    rcases h with h | h <;> rcases isNilP_true h with ⟨rfl, _⟩ | ⟨_, _, _, rfl, _⟩ <;> cases hx <;> rfl
  case h_2 =>
    cases hb
    refine ⟨?_, rfl, _, rfl⟩
    rcases h with h | h <;> rcases isNilS_true h with ⟨rfl, _⟩ | ⟨_, _, _, _, _, _, rfl, _⟩ <;> cases hx <;> rfl
  case h_3 =>
    cases hb
    refine ⟨?_, rfl, _, rfl⟩
    rcases h with h | h <;> rcases isNilF_true h with ⟨rfl, _⟩ | ⟨_, _, _, rfl, _⟩ <;> cases hx <;> rfl
  case h_4 =>
    cases hb
    refine ⟨?_, rfl, _, rfl⟩
    rcases h with h | h <;> rcases isNilI_true h with ⟨rfl, _⟩ | ⟨_, _, rfl, _⟩ <;> cases hx <;> rfl
  case h_5 =>
    cases hb
    refine ⟨?_, rfl, _, rfl⟩
    rcases h with h | h <;> rcases isNilM_true h with ⟨rfl, _⟩ | ⟨_, rfl, _⟩ <;> cases hx <;> rfl
  case h_6 => cases hb
theorem agg_sound {t : TypeId} {p q : Operand} {op : BinOp} {g : List Nat} (he : EqOk P t g) {x y : AV} {x' y' : Value} (hx : VRel μ x x') (hy : VRel μ y y') :
    (∀ k : AV → Bool, eqcX g x y k = true → ∃ v v', k v = true ∧ VRel μ v v' ∧ (do eqGuard .eql t p q x' y'; binOp .eql t x' y' : Sem Value).run P w = .ok v' w) ∧
    (∀ k : AV → Bool, necX g x y k = true → ∃ v v', k v = true ∧ VRel μ v v' ∧ (do eqGuard .neq t p q x' y'; binOp .neq t x' y' : Sem Value).run P w = .ok v' w) := by
  obtain ⟨hg, he⟩ := he
  constructor <;> intro k h <;> (
    obtain ⟨l, rfl, h1⟩ := wAg_true h
    obtain ⟨m, rfl, h2⟩ := wAg_true h1
    obtain ⟨xs, rfl, hl⟩ := hx.agg_inv
    obtain ⟨ys, rfl, hm⟩ := hy.agg_inv
    obtain ⟨e, hk, hrun⟩ := he w μ l m xs ys _ hl hm h2)
  · exact ⟨_, .bool e, hk, .bool e, by simp [eqGuard, hg, binOp, hrun]⟩
  · exact ⟨_, .bool (!e), hk, by rw [nt_eq]; exact .bool _, by simp [eqGuard, hg, binOp, hrun]⟩
theorem cmpOp_sound {call : Nat → Fn} {inv : Env → Operand → String → List Operand → St → K → Bool} {eqs : List (Nat × List Nat)} {c : Clo} (hc : ∀ f, Snd P f (call f)) (hi : InvOk P inv) (he : ∀ p ∈ eqs, EqOk P p.1 p.2) (hv : ∀ f, Snd P f (c f))
    (hr : R w0 s w μ) {e : Env} (hf : Fm μ e a) {k : K} (h : cmpOp P call inv eqs c e o s k = true) : Op1 P w0 s μ k ((execOp a.eval o).run P w) := by
  unfold cmpOp at h
  split at h
  case h_1 x ho =>
    obtain ⟨v, h1, hv1⟩ := eO_true hf h
    exact op1_intro ⟨v, s, Nat.le_refl _, h1, good_val hr hv1 (by simp [execOp, ho])⟩
  case h_2 x ho =>
    obtain ⟨v, h1, hv1⟩ := eO_true hf h
    exact op1_intro ⟨v, s, Nat.le_refl _, h1, good_val hr hv1 (by simp [execOp, ho])⟩
  case h_3 c1 x y ho =>
    obtain ⟨cv, h1, hcv⟩ := eO_true hf h
    obtain ⟨xv, h2, hxv⟩ := eO_true hf h1
    obtain ⟨yv, h3, hyv⟩ := eO_true hf h2
    rcases wB_true h3 with ⟨rfl, h4⟩ | ⟨rfl, h4⟩
    · exact op1_intro ⟨xv, s, Nat.le_refl _, h4, good_val hr hxv (by simp [execOp, ho, bool_inv hcv, asBool])⟩
    · exact op1_intro ⟨yv, s, Nat.le_refl _, h4, good_val hr hyv (by simp [execOp, ho, bool_inv hcv, asBool])⟩
  case h_4 t ho =>
    split at h
    case h_1 z l hz hl => exact op1_intro (op_alloc hr ho hz hl h)
    case h_2 => cases h
  case h_5 t x ho =>
    split at h
    case h_1 z hz =>
      obtain ⟨v, h1, hv1⟩ := eO_true hf h
      exact op1_intro (op_box hr ho hv1 h1)
    case h_2 => cases h
  case h_6 t ps ho =>
    split at h
    case h_2 => cases h
    case h_1 n z hn hz =>
      split at h
      case h_1 fs ht =>
        split at h
        case h_1 pl hp => exact op1_intro (op_build hr hf ho hn hz (fill_struct ht hp) h)
        case h_2 => cases h
      case h_2 nn el ht =>
        split at h
        case h_1 m hm => exact op1_intro (op_build hr hf ho hn hz (fill_array ht hm) h)
        case h_2 => cases h
      case h_3 => cases h
  case h_7 t n ps ho =>
    split at h
    case h_2 => cases h
    case h_1 el ht =>
      split at h
      case h_2 => cases h
      case h_1 z zr hz hzr =>
        split at h
        case h_2 => cases h
        case h_1 hsm => exact op1_intro (op_buildSlice hr hf ho ht hz hzr (nle_true hsm) h)
  case h_8 t x ho =>
    split at h
    case h_1 n hg hn =>
      obtain ⟨v, h1, hv1⟩ := eO_true hf h
      obtain ⟨u, u', hk, hu, hrun⟩ := lg_sound (P := P) hr hg hn hv1 h1
      exact op1_intro ⟨u, s, Nat.le_refl _, hk, op_load hr ho hu hrun⟩
    case h_2 q hg =>
      obtain ⟨v, h1, hv1⟩ := eO_true hf h
      obtain ⟨u, u', hk, hu, hrun⟩ := ld_sound (P := P) hr hg hv1 h1
      exact op1_intro ⟨u, s, Nat.le_refl _, hk, op_load hr ho hu hrun⟩
    case h_3 => cases h
  case h_9 t x y ho =>
    split at h
    case h_1 n hg hn =>
      obtain ⟨xv, h1, hx⟩ := eO_true hf h
      obtain ⟨yv, h2, hy⟩ := eO_true hf h1
      obtain ⟨s', w', hn', hk, hR, hrun⟩ := sg_sound (P := P) hr hn hx hy h2
      exact op1_intro ⟨und, s', hn', hk, op_store hr ho hn' hR hrun⟩
    case h_2 hg hn =>
      obtain ⟨xv, h1, hx⟩ := eO_true hf h
      obtain ⟨yv, h2, hy⟩ := eO_true hf h1
      obtain ⟨s', w', hn', hk, hR, hrun⟩ := st_sound (P := P) hr hn hx hy h2
      exact op1_intro ⟨und, s', hn', hk, op_store hr ho hn' hR hrun⟩
    case h_3 => cases h
  case h_10 x ho =>
    obtain ⟨xv, h1, hx⟩ := eO_true hf h
    have h2 := (nc_true hx h1).1
    generalize hxe : a.eval x = x' at hx
    refine op1_intro ⟨xv, s, Nat.le_refl _, h2, good_val hr hx ?_⟩
    cases hx <;> first | (cases h1; done) | (simp [execOp, ho, hxe]; done)
  case h_11 op t p q yt ho =>
    have fin : ∀ {x : Sem Value}, (∃ v v', k v s = true ∧ VRel μ v v' ∧ x.run P w = .ok v' w) → (execOp a.eval o = (do pure (Next.value (← x)) : Sem Next)) → Op1 P w0 s μ k ((execOp a.eval o).run P w) := fun hh hx => op1_pure hr (by rw [hx]) hh
    have heq : execOp a.eval o = (do pure (Next.value (← (do eqGuard op t p q (a.eval p) (a.eval q); binOp op t (a.eval p) (a.eval q) : Sem Value))) : Sem Next) := by simp only [execOp, ho]
    split at h
    case h_2 => cases h
    case h_1 d hd =>
      have fin2 : (∃ v v', k v s = true ∧ VRel μ v v' ∧ (do eqGuard op t p q (a.eval p) (a.eval q); binOp op t (a.eval p) (a.eval q) : Sem Value).run P w = .ok v' w) → Op1 P w0 s μ k ((execOp a.eval o).run P w) := fun hh => op1_pure hr (by rw [heq]) hh
      split at h
      case h_1 _ _ n hb =>
        obtain ⟨xv, h1, hx⟩ := eO_true hf h
        obtain ⟨r1, r2, hcq⟩ := nil_ref (a := a) hb hx (.inl h1)
        obtain ⟨e, hk, g1, g2⟩ := (nil_sound (P := P) (w := w) (a := a) hd hb hx).1 _ h1
        exact fin2 ⟨_, .bool e, hk, .bool e, by simp [guard_ref r1 (.inr hcq), (bin_ref r1 r2).1, g1]⟩
      case h_2 _ _ n hb =>
        obtain ⟨xv, h1, hx⟩ := eO_true hf h
        obtain ⟨r1, r2, hcq⟩ := nil_ref (a := a) hb hx (.inr h1)
        obtain ⟨e, hk, g1, g2⟩ := (nil_sound (P := P) (w := w) (a := a) hd hb hx).2 _ h1
        exact fin2 ⟨_, .bool (!e), hk, .bool (!e), by simp [guard_ref r1 (.inr hcq), (bin_ref r1 r2).2, g1]⟩
      case h_3 m hb0 hb =>
        obtain ⟨xv, h1, hx⟩ := eO_true hf h
        obtain ⟨r1, r2, hcq⟩ := nil_ref (a := a) hb hx (.inl h1)
        obtain ⟨e, hk, g1, g2⟩ := (nil_sound (P := P) (w := w) (a := a) hd hb hx).1 _ h1
        exact fin2 ⟨_, .bool e, hk, .bool e, by simp [guard_ref r2 (.inl hcq), (bin_ref r2 r1).1, g2]⟩
      case h_4 m hb0 hb =>
        obtain ⟨xv, h1, hx⟩ := eO_true hf h
        obtain ⟨r1, r2, hcq⟩ := nil_ref (a := a) hb hx (.inr h1)
        obtain ⟨e, hk, g1, g2⟩ := (nil_sound (P := P) (w := w) (a := a) hd hb hx).2 _ h1
        exact fin2 ⟨_, .bool (!e), hk, .bool (!e), by simp [guard_ref r2 (.inl hcq), (bin_ref r2 r1).2, g2]⟩
      case h_5 =>
        split at h
        case h_1 fs =>
          split at h
          case h_1 _ _ hm =>
            obtain ⟨xv, h1, hx⟩ := eO_true hf h
            obtain ⟨yv, h2, hy⟩ := eO_true hf h1
            exact fin2 ((agg_sound (op := .eql) (he (t, _) (sigOf_mem (by assumption))) hx hy).1 _ h2)
          case h_2 _ _ hm =>
            obtain ⟨xv, h1, hx⟩ := eO_true hf h
            obtain ⟨yv, h2, hy⟩ := eO_true hf h1
            exact fin2 ((agg_sound (op := .neq) (he (t, _) (sigOf_mem (by assumption))) hx hy).2 _ h2)
          case h_3 => cases h
        case h_2 => cases h
        case h_3 =>
          obtain ⟨xv, h1, hx⟩ := eO_true hf h
          obtain ⟨yv, h2, hy⟩ := eO_true hf h1
          obtain ⟨v, hk, v', hvr, hrun⟩ := bin_sound (P := P) (w := w) (t := t) (a := p) (b := q) hd hx hy h2
          exact fin2 ⟨v, v', hk, hvr, hrun⟩
  case h_12 t x ho =>
    obtain ⟨xv, h1, hx⟩ := eO_true hf h
    refine op1_pure hr (x := Op.unary .not (a.eval x)) (by simp only [execOp, ho]) ?_
    rcases wB_true h1 with ⟨rfl, h4⟩ | ⟨rfl, h4⟩
    · exact ⟨_, .bool false, h4, .bool _, by rw [bool_inv hx]; rfl⟩
    · exact ⟨_, .bool true, h4, .bool _, by rw [bool_inv hx]; rfl⟩
  case h_13 t x ho =>
    obtain ⟨xv, h1, hx⟩ := eO_true hf h
    refine op1_pure hr (x := Op.unary .neg (a.eval x)) (by simp only [execOp, ho]) ?_
    obtain ⟨u, n, rfl, h2⟩ := wI_true h1
    exact ⟨_, .int u (u.wrap (0 - n)), h2, .int _ _, by rw [int_inv hx]; rfl⟩
  case h_14 t d x ho =>
    split at h
    case h_1 _ _ u u2 hu ht =>
      obtain ⟨xv, h1, hx⟩ := eO_true hf h
      refine op1_pure hr (x := convert t d (a.eval x)) (by simp only [execOp, ho]) ?_
      obtain ⟨u3, n, rfl, h2⟩ := wI_true h1
      exact ⟨_, .int u2 (u2.wrap n), h2, by rw [wrp_eq]; exact .int _ _, by simp [convert, run_underlying hu, run_underlying ht, int_inv hx, Conv.intToInt]⟩
    case h_2 _ _ el hu ht =>
      split at h
      case h_2 => cases h
      case h_1 hel =>
        obtain ⟨xv, h1, hx⟩ := eO_true hf h
        refine op1_pure hr (x := convert t d (a.eval x)) (by simp only [execOp, ho]) ?_
        obtain ⟨v, v', g1, g2, g3⟩ := bstr_sound (P := P) hr hx h1
        refine ⟨v, v', g1, g2, ?_⟩
        rw [← g3]
        rcases wSl_true h1 with ⟨rfl, _⟩ | ⟨b, j, n, r, y, ex, rfl, _⟩
        · rw [nils_inv hx]; exact run_convert_bytes_string (P := P) w t d el none 0 0 hu hel ht
        · obtain ⟨p, ad, cap, e1, _⟩ := sl_inv hx
          rw [e1]; exact run_convert_bytes_string (P := P) w t d el (some ad) n cap hu hel ht
    case h_3 => cases h
  case h_15 t x ho =>
    split at h
    case h_1 => cases h
    case h_2 d hn ht =>
      obtain ⟨xv, h1, hx⟩ := eO_true hf h
      refine op1_pure hr (x := Instr.makeInterface t (a.eval x)) (by simp only [execOp, ho]) ⟨_, _, h1, .ifc t xv _ hx, ?_⟩
      cases d <;> first | exact absurd rfl (hn _) | simp [Instr.makeInterface, run_underlying ht]
    case h_3 => cases h
  case h_16 f fi cp ho =>
    obtain ⟨as, h1, ha⟩ := eL_true hf h
    obtain ⟨cs, h2, hcs⟩ := eL_true hf h1
    refine op1_pure hr (x := Instr.makeFunc (.func f) (fi.map a.eval) (cp.map a.eval)) (by simp only [execOp, ho]) ⟨_, _, h2, .fn f as cs (fi.map a.eval) (cp.map a.eval) (by simpa using ha.1) (fun i v x p q => ha.2 i v x p (by simpa using q)) (by simpa using hcs.1) (fun i v x p q => hcs.2 i v x p (by simpa using q)), rfl⟩
  case h_17 t l cc ho =>
    split at h
    case h_2 => cases h
    case h_1 el ht =>
      split at h
      case h_2 => cases h
      case h_1 z zr hz hzr hby =>
        obtain ⟨i, hi, rfl⟩ := szT_inv hz
        obtain ⟨i', v, hi', hv', hcv, hlen⟩ := zeroC_inv (μ := μ) hzr
        rw [hi] at hi'; cases hi'
        obtain ⟨lv, h1, hl⟩ := eO_true hf h
        obtain ⟨cv, h2, hcv2⟩ := eO_true hf h1
        exact op1_intro (op_makeSlice hr ho ht hi hv' hcv hlen (bytesOk_inv hby hi) hl hcv2 h2)
  case h_18 t x lo hi' mx ho =>
    have heq : execOp a.eval o = (do pure (Next.value (← Instr.sliceAt t (a.eval x) (lo.map a.eval) (hi'.map a.eval) (mx.map a.eval))) : Sem Next) := by simp only [execOp, ho]
    split at h
    case h_1 el ht =>
      split at h
      case h_2 => cases h
      case h_1 z hz =>
        obtain ⟨i, hi2, rfl⟩ := szT_inv hz
        split at h
        case h_1 => cases h
        case h_2 hne =>
          obtain ⟨xv, h1, hx⟩ := eO_true hf h
          obtain ⟨lv, h2, hl⟩ := eOo_true hf h1
          obtain ⟨hv', h3, hh⟩ := eOo_true hf h2
          obtain ⟨mv, h4, hm⟩ := eOo_true hf h3
          refine op1_pure hr (by rw [heq]) (sl_sound ht hi2 hx hl hh hm ?_ h4)
          cases mx with
          | none => exact .inl rfl
          | some m => cases hi' with
            | none => exact absurd rfl (hne m rfl)
            | some _ => exact .inr (by simp)
    case h_2 => cases h
  case h_19 t x n ho =>
    split at h
    case h_2 => cases h
    case h_1 fs ht =>
      split at h
      case h_2 => cases h
      case h_1 f hfs =>
        split at h
        case h_2 => cases h
        case h_1 z hz =>
          obtain ⟨i, hi2, hzi⟩ := szT_inv hz
          obtain ⟨xv, h1, hx⟩ := eO_true hf h
          exact op1_pure hr (x := Instr.fieldAt t (a.eval x) n) (by simp only [execOp, ho]) (fa_sound ht hfs hi2 (by omega) hx h1)
  case h_20 t x n ho =>
    split at h
    case h_2 => cases h
    case h_1 fs ht =>
      split at h
      case h_2 => cases h
      case h_1 f hfs =>
        split at h
        case h_1 z hg hz =>
          obtain ⟨i, hi2, rfl⟩ := szT_inv hz
          obtain ⟨xv, h1, hx⟩ := eO_true hf h
          exact op1_pure hr (x := Instr.field t (a.eval x) n) (by simp only [execOp, ho]) (fg_sound ht hfs hg hi2 hx h1)
        case h_2 hg =>
          obtain ⟨xv, h1, hx⟩ := eO_true hf h
          exact op1_pure hr (x := Instr.field t (a.eval x) n) (by simp only [execOp, ho]) (fl_sound ht hfs hg hx h1)
        case h_3 => cases h
  case h_21 t x q ho =>
    split at h
    case h_1 n el ht =>
      split at h
      case h_2 => cases h
      case h_1 z hz =>
        obtain ⟨i, hi2, rfl⟩ := szT_inv hz
        obtain ⟨xv, h1, hx⟩ := eO_true hf h
        obtain ⟨qv, h2, hq⟩ := eO_true hf h1
        exact op1_pure hr (x := Instr.indexAt t (a.eval x) (a.eval q)) (by simp only [execOp, ho]) (iar_sound ht hi2 hx hq h2)
    case h_2 el ht =>
      split at h
      case h_2 => cases h
      case h_1 z hz =>
        obtain ⟨i, hi2, rfl⟩ := szT_inv hz
        obtain ⟨xv, h1, hx⟩ := eO_true hf h
        obtain ⟨qv, h2, hq⟩ := eO_true hf h1
        exact op1_pure hr (x := Instr.indexAt t (a.eval x) (a.eval q)) (by simp only [execOp, ho]) (ia_sound ht hi2 hx hq h2)
    case h_3 => cases h
  case h_22 t x q ho =>
    split at h
    case h_1 n el ht =>
      split at h
      case h_2 => cases h
      case h_1 hg hz =>
        obtain ⟨i, hi2, hzi⟩ := szT_inv hz
        obtain ⟨xv, h1, hx⟩ := eO_true hf h
        obtain ⟨qv, h2, hq⟩ := eO_true hf h1
        exact op1_pure hr (x := Instr.index t (a.eval x) (a.eval q)) (by simp only [execOp, ho]) (ix_sound ht hi2 hzi hg hx hq h2)
    case h_2 ht =>
      obtain ⟨xv, h1, hx⟩ := eO_true hf h
      obtain ⟨qv, h2, hq⟩ := eO_true hf h1
      exact op1_pure hr (x := Instr.index t (a.eval x) (a.eval q)) (by simp only [execOp, ho]) (is_sound ht hx hq h2)
    case h_3 => cases h
  case h_23 x n ho =>
    obtain ⟨xv, h1, hx⟩ := eO_true hf h
    exact op1_pure hr (x := Instr.extract (a.eval x) n) (by simp only [execOp, ho]) (ex_sound hx h1)
  case h_24 x t t2 ho =>
    split at h
    case h_1 => cases h
    case h_2 d hn ht =>
      obtain ⟨xv, h1, hx⟩ := eO_true hf h
      obtain ⟨u, v, rfl, h2⟩ := wIf_true h1
      obtain ⟨h3, h4⟩ := brec_true h2
      have h3 := neq_true h3
      obtain ⟨y, hy, hyr⟩ := ifc_inv hx
      refine op1_pure hr (x := Instr.typeAssert (a.eval x) t t2 false) (by simp only [execOp, ho]) ⟨v, y, h4, hyr, ?_⟩
      subst h3
      rw [hy]
      cases d <;> first | exact absurd rfl (hn _) | simp [Instr.typeAssert, run_underlying ht]
    case h_3 => cases h
  case h_25 t ho =>
    split at h
    case h_1 kt el ht => exact op1_mem hr (x := Instr.makeMap t none) (by simp only [execOp, ho]; rfl) (mm_sound hr ht h)
    case h_2 => cases h
  case h_26 t m x ok ho =>
    split at h
    case h_2 => cases h
    case h_1 kt el ht =>
      split at h
      case h_1 c z hkt hz =>
        obtain ⟨mv, h1, hm⟩ := eO_true hf h
        obtain ⟨xv, h2, hx⟩ := eO_true hf h1
        exact op1_pure hr (x := Instr.lookup t (a.eval m) (a.eval x) true) (by simp only [execOp, ho]) (lko_sound hr ht hkt hz hm hx h2)
      case h_2 c z hkt hz =>
        obtain ⟨mv, h1, hm⟩ := eO_true hf h
        obtain ⟨xv, h2, hx⟩ := eO_true hf h1
        exact op1_pure hr (x := Instr.lookup t (a.eval m) (a.eval x) false) (by simp only [execOp, ho]) (lk_sound hr ht hkt hz hm hx h2)
      case h_3 => cases h
  case h_27 t m x y ho =>
    split at h
    case h_2 => cases h
    case h_1 kt el ht =>
      split at h
      case h_2 => cases h
      case h_1 c hkt =>
        obtain ⟨mv, h1, hm⟩ := eO_true hf h
        obtain ⟨xv, h2, hx⟩ := eO_true hf h1
        obtain ⟨yv, h3, hy⟩ := eO_true hf h2
        obtain ⟨s', w', hn, hk, hR, hrun⟩ := mu_sound (P := P) hr ht hkt hm hx hy h3
        refine op1_intro ⟨und, s', hn, hk, ?_⟩
        have e1 : (execOp a.eval o).run P w = .ok .skip w' := by simp [execOp, ho, hrun]
        rw [e1]
        exact ⟨μ, MX.rfl', vund, hR⟩
  case h_28 t m ho =>
    split at h
    case h_2 => cases h
    case h_1 kt el ht =>
      obtain ⟨mv, h1, hm⟩ := eO_true hf h
      exact op1_mem hr (x := Instr.range t (a.eval m)) (by simp only [execOp, ho]) (rg_sound hr ht hm h1)
  case h_29 i ho =>
    obtain ⟨iv, h1, hi'⟩ := eO_true hf h
    obtain ⟨v, s', v', w', hn, hk, hrun, hv', hR⟩ := nx_sound (P := P) hr hi' h1 o.type
    exact op1_mem hr (x := Instr.next (a.eval i) false o.type) (by simp only [execOp, ho]) ⟨v, s', hn, hk, v', w', μ, hrun, MX.rfl', hv', hR⟩
  case h_30 i ho =>
    obtain ⟨iv, h1, hi'⟩ := eO_true hf h
    exact op1_pure hr (x := Instr.entry (a.eval i)) (by simp only [execOp, ho]) (en_sound hr hi' h1)
  case h_31 f args _ ho => exact (call_sound hc hi hv hr hf ho rfl).1 f rfl h
  case h_32 f args _ hne ho => exact (call_sound hc hi hv hr hf ho rfl).2.1 f rfl h
  case h_33 r n args _ ho => exact (call_sound hc hi hv hr hf ho rfl).2.2 r n rfl h
  case h_34 b args ts ho => exact callB_sound hr hf rfl ho h
  case h_35 => cases h
end X
/- A region in the order of the text. -/
namespace X
open Go Go.RowKit
set_option linter.unusedVariables false
set_option linter.unusedSimpArgs false
set_option linter.unusedSectionVars false
variable [Luck]
variable {P : Program} {w0 w : World} {s : St} {μ : Mu} {a : Act} {o : Oper} {Q : Exit → Act → World → Prop}
theorem wp_of_op1 {k : K} (h : Op1 P w0 s μ k ((execOp a.eval o).run P w)) {next : Act → World → Prop} (hn : ∀ v s' x w' μ', k v s' = true → (nx s).n ≤ (nx s').n → MX (nx s) μ μ' → VRel μ' v x → R w0 s' w' μ' → next (a.put o.dst x) w') : o.wp P a w next Q := by
  unfold Oper.wp
  unfold Op1 at h
  generalize (execOp a.eval o).run P w = r at h ⊢
  cases r with
  | ok n w' =>
    cases n <;> simp only [outR] at h <;> simp only [Oper.upon]
    case value => obtain ⟨v, s', μ', hle, hk, h1, h2, h3⟩ := h; exact hn v s' _ _ μ' hk hle h1 h2 h3
    case skip => obtain ⟨v, s', μ', hle, hk, h1, h2, h3⟩ := h; exact hn v s' _ _ μ' hk hle h1 h2 h3
    case enter => exact h.mono fun e w'' ⟨x, he, v, s', μ', hle, hk, h1, h2, h3⟩ => by subst he; exact hn v s' _ _ μ' hk hle h1 h2 h3
    case row => exact Rows.mono h (fun _ _ ⟨v, s', μ', hle, hk, h1, h2, h3⟩ => hn v s' _ _ μ' hk hle h1 h2 h3)
  | halt x w' => simp only [outR] at h
/-- the state behind a piece of code -/
structure Nx (w0 : World) (s : St) (μ : Mu) (a : Act) (e : Env) (ds : List Nat) (e' : Env) (s' : St) (μ' : Mu) (a' : Act) (w' : World) : Prop where
  r : R w0 s' w' μ'
  f : Fm μ' e' a'
  size : a'.tmps.size = a.tmps.size
  defers : a'.defers = a.defers
  mx : MX (nx s) μ μ'
  le : (nx s).n ≤ (nx s').n
  same : ∀ t, t ∉ ds → lk e' t = lk e t
theorem Nx.rfl' {e : Env} (hr : R w0 s w μ) (hf : Fm μ e a) : Nx w0 s μ a e [] e s μ a w := ⟨hr, hf, rfl, rfl, MX.rfl', Nat.le_refl _, fun _ _ => rfl⟩
theorem Nx.tr {e e' e'' : Env} {ds ds' : List Nat} {s' s'' : St} {μ' μ'' : Mu} {a' a'' : Act} {w' w'' : World} (h : Nx w0 s μ a e ds e' s' μ' a' w') (k : Nx w0 s' μ' a' e' ds' e'' s'' μ'' a'' w'') : Nx w0 s μ a e (ds ++ ds') e'' s'' μ'' a'' w'' :=
  ⟨k.r, k.f, k.size.trans h.size, k.defers.trans h.defers, h.mx.tr h.le k.mx, Nat.le_trans h.le k.le, fun t ht => (k.same t (fun hm => ht (List.mem_append_right _ hm))).trans (h.same t (fun hm => ht (List.mem_append_left _ hm)))⟩
theorem lk_put (e : Env) (d : Option Nat) (v : AV) (t : Nat) (h : d ≠ some t) : lk (put e d v) t = lk e t := by
  cases d with
  | none => rfl
  | some d =>
    show lk ((d, some v) :: e) t = _
    rw [lk_cons, if_neg (fun e => h (by rw [e]))]
theorem put_size (a : Act) (d : Option Tmp) (x : Value) : (a.put d x).tmps.size = a.tmps.size := by cases d <;> simp [Act.put]
theorem put_defers (a : Act) (d : Option Tmp) (x : Value) : (a.put d x).defers = a.defers := by cases d <;> rfl
theorem Nx.op {e : Env} (hr : R w0 s w μ) (hf : Fm μ e a) {d : Option Nat} (hd : ∀ t, d = some t → t < a.tmps.size) {v : AV} {x : Value} {s' : St} {μ' : Mu} {w' : World} (hle : (nx s).n ≤ (nx s').n) (hx : MX (nx s) μ μ') (hv : VRel μ' v x) (hR : R w0 s' w' μ') : Nx w0 s μ a e d.toList (put e d v) s' μ' (a.put d x) w' :=
  ⟨hR, (hf.mono (hr.mle hx)).put d hv hd, put_size _ _ _, put_defers _ _ _, hx, hle, fun t ht => lk_put e d v t (fun e => ht (by rw [e]; simp))⟩
theorem dOk_spec {n : Nat} : ∀ {l : List Oper}, dOk n l = true → ∀ o ∈ l, ∀ t, o.dst = some t → t < n
  | [], _, o, ho => by cases ho
  | p :: l, h, o, ho => by
    unfold dOk at h
    have rest : dOk n l = true → o ∈ l → ∀ t, o.dst = some t → t < n := fun h ho => dOk_spec h o ho
    cases hd : p.dst with
    | none =>
      rw [hd] at h
      rcases List.mem_cons.1 ho with rfl | ho
      · intro t ht; rw [hd] at ht; cases ht
      · exact rest h ho
    | some d =>
      rw [hd] at h
      have h : (match Nat.ble (d + 1) n with | true => dOk n l | false => false) = true := h
      cases hb : Nat.ble (d + 1) n with
      | false => rw [hb] at h; cases h
      | true =>
        rw [hb] at h
        rcases List.mem_cons.1 ho with rfl | ho
        · intro t ht; rw [hd] at ht; cases ht; exact nle_true hb
        · exact rest h ho
theorem mem_dsts {l : List Oper} {o : Oper} (ho : o ∈ l) {t : Nat} (ht : o.dst = some t) : t ∈ dsts l := by
  induction l with
  | nil => cases ho
  | cons p l ih =>
    unfold dsts
    rcases List.mem_cons.1 ho with rfl | ho
    · rw [ht]; simp
    · cases p.dst with
      | none => exact ih ho
      | some d => exact List.mem_cons_of_mem _ (ih ho)
theorem dsts_cons (o : Oper) (l : List Oper) : dsts (o :: l) = o.dst.toList ++ dsts l := by
  conv => lhs; unfold dsts
  cases o.dst <;> rfl
theorem dsts_app (l m : List Oper) : dsts (l ++ m) = dsts l ++ dsts m := by
  induction l with
  | nil => rfl
  | cons o l ih => rw [List.cons_append, dsts_cons, dsts_cons, ih, List.append_assoc]
theorem grpOf_spec {g : Nat} {want : Bool} : ∀ {l grp l' : List Oper}, grpOf g want l = (grp, l') → l = grp ++ l' ∧ ∀ o ∈ grp, o.guard = some (g, want)
  | [], grp, l', h => by cases h; exact ⟨rfl, by simp⟩
  | o :: l, grp, l', h => by
    have h : (match sameG o.guard g want with
      | true => match grpOf g want l with | (a, b) => (o :: a, b)
      | false => ([], o :: l)) = (grp, l') := h
    cases hs : sameG o.guard g want with
    | false => rw [hs] at h; cases h; exact ⟨rfl, by simp⟩
    | true =>
      rw [hs] at h
      have hg : o.guard = some (g, want) := by
        cases hgd : o.guard with
        | none => rw [hgd] at hs; cases hs
        | some q =>
          obtain ⟨h', b⟩ := q
          rw [hgd] at hs
          cases b <;> cases want <;> first | (cases hs; done) | rw [neq_true (show Nat.beq h' g = true from hs)]
      obtain ⟨gr, lr, e⟩ : ∃ gr lr, grpOf g want l = (gr, lr) := ⟨_, _, rfl⟩
      rw [e] at h
      cases h
      obtain ⟨h1, h2⟩ := grpOf_spec e
      exact ⟨by rw [h1]; rfl, fun o' ho' => by
        rcases List.mem_cons.1 ho' with rfl | ho'
        · exact hg
        · exact h2 o' ho'⟩
theorem dstOf_spec : ∀ {l : List Oper} {g t : Nat}, dstOf l g = some t → (l[g]?).bind (·.dst) = some t
  | [], _, _, h => by cases h
  | o :: l, 0, t, h => h
  | o :: l, g + 1, t, h => by simpa using dstOf_spec (l := l) (g := g) h
section
variable {call : Nat → Fn} {inv : Env → Operand → String → List Operand → St → K → Bool} {eqs : List (Nat × List Nat)} {c : Clo} {ops : Array Oper}
/-- the operations at i, i + 1, .. -/
def At (ops : Array Oper) (i : Nat) (l : List Oper) : Prop := ∀ j o, l[j]? = some o → ops[i + j]? = some o
theorem At.head {i : Nat} {l : List Oper} (h : At ops i (o :: l)) : ops[i]? = some o := h 0 o rfl
theorem At.tail {i : Nat} {l : List Oper} (h : At ops i (o :: l)) : At ops (i + 1) l := fun j p hj => by
  have := h (j + 1) p (by simpa using hj)
  rwa [show i + 1 + j = i + (j + 1) by omega]
theorem At.left {i : Nat} {l m : List Oper} (h : At ops i (l ++ m)) : At ops i l := fun j p hj => h j p (by rw [List.getElem?_append_left (List.getElem?_eq_some_iff.1 hj).1]; exact hj)
theorem At.right {i : Nat} {l m : List Oper} (h : At ops i (l ++ m)) : At ops (i + l.length) m := fun j p hj => by
  have := h (l.length + j) p (by rw [List.getElem?_append_right (by omega)]; simpa using hj)
  rwa [show i + l.length + j = i + (l.length + j) by omega]
theorem range'_app (i m n : Nat) : List.range' i (m + n) = List.range' i m ++ List.range' (i + m) n := by
  rw [List.range'_append_1]
/-- what is skipped -/
theorem skip_sound {e : Env} {t g : Nat} {want : Bool} (hg : (ops[g]?).bind (·.dst) = some t) (hno : ∀ x, a.tmps[t]? = some x → x ≠ .bool want) : ∀ {l : List Oper} {i : Nat} {a' : Act}, At ops i l → (∀ o ∈ l, o.guard = some (g, want)) → (∀ o ∈ l, ∀ d, o.dst = some d → d < a'.tmps.size) → t ∉ dsts l → a'.tmps[t]? = a.tmps[t]? → ∀ {μ : Mu} {e : Env}, Fm μ e a' →
    ∀ (rest : List Nat), (∀ a'', a''.tmps.size = a'.tmps.size → a''.defers = a'.defers → (∀ u, u ∉ dsts l → a''.tmps[u]? = a'.tmps[u]?) → (∀ u ∈ dsts l, a''.tmps[u]? = some undef) → wpOps P ops Q rest a'' w) → wpOps P ops Q (List.range' i l.length ++ rest) a' w
  | [], i, a', _, _, _, _, _, μ, e, _, rest, hk => hk a' rfl rfl (fun _ _ => rfl) (fun u hu => by cases hu)
  | o :: l, i, a', hat, hgs, hds, ht, hta, μ, e, hf, rest, hk => by
    rw [List.length_cons, List.range'_succ, List.cons_append]
    simp only [wpOps, hat.head]
    have hw : Region.wanted o (yielded ops a'.tmps) = false := by
      unfold Region.wanted
      rw [hgs o (by simp)]
      show (yielded ops a'.tmps g == some want) = false
      unfold yielded
      rw [hg, Option.bind_some, hta]
      cases hx : a.tmps[t]? with
      | none => simp
      | some x =>
        have := hno x hx
        cases x <;> simp
        intro e; subst e; exact this rfl
    rw [if_neg (by simp [hw])]
    rw [dsts_cons] at ht
    simp only [List.mem_append, not_or] at ht
    have hsz : (a'.put o.dst undef).tmps.size = a'.tmps.size := put_size _ _ _
    have hpt : ∀ u, o.dst ≠ some u → (a'.put o.dst undef).tmps[u]? = a'.tmps[u]? := fun u hu => by
      cases hd : o.dst with
      | none => rfl
      | some d =>
        have : d ≠ u := fun e => hu (by rw [hd, e])
        simp only [Act.put, Array.getElem?_setIfInBounds_ne this]
    have hdt : o.dst ≠ some t := fun e => ht.1 (by rw [e]; simp)
    refine skip_sound hg hno hat.tail (fun p hp => hgs p (by simp [hp])) (fun p hp d hd => by rw [hsz]; exact hds p (by simp [hp]) d hd) ht.2 ((hpt t hdt).trans hta) (μ := μ) (e := put e o.dst und) (hf.put o.dst vund (fun u hu => hds o (by simp) u hu)) rest (fun a'' h1 h2 h3 h4 => hk a'' (h1.trans hsz) (h2.trans (put_defers _ _ _)) (fun u hu => ?_) (fun u hu => ?_))
    · rw [dsts_cons] at hu
      simp only [List.mem_append, not_or] at hu
      exact (h3 u hu.2).trans (hpt u (fun e => hu.1 (by rw [e]; simp)))
    · by_cases hm : u ∈ dsts l
      · exact h4 u hm
      · rw [dsts_cons] at hu
        have hu' : u ∈ o.dst.toList := (List.mem_append.1 hu).resolve_right hm
        have hd : o.dst = some u := by simpa using hu'
        rw [h3 u hm, hd]
        have := hds o (by simp) u hd
        simp [Act.put, this]
end
end X
/- A region in the order of the text is sound. -/
namespace X
open Go Go.RowKit
set_option linter.unusedVariables false
set_option linter.unusedSimpArgs false
set_option linter.unusedSectionVars false
variable [Luck]
variable {P : Program} {w0 w : World} {s : St} {μ : Mu} {a : Act} {o : Oper} {Q : Exit → Act → World → Prop}
theorem cap_cur : ∀ {n : Nat} {f : List AV → St → Bool} {vs : List AV} {s : St}, vs.length = n → cap n (cur n f) vs s = f vs s
  | 0, f, [], s, _ => rfl
  | 0, f, _ :: _, s, h => by simp at h
  | n + 1, f, [], s, h => by simp at h
  | n + 1, f, v :: vs, s, h => cap_cur (n := n) (f := fun l => f (v :: l)) (by simpa using h)
theorem rd_true {e : Env} : ∀ {js : List Nat} {k : List AV → Bool}, rd e js k = true → ∃ vs, k vs = true ∧ vs.length = js.length ∧ ∀ (j t : Nat), js[j]? = some t → ∃ v, vs[j]? = some v ∧ lk e t = some v
  | [], k, h => ⟨[], h, rfl, fun j t ht => by simp at ht⟩
  | t :: js, k, h => by
    have h : (match lk e t with | some v => rd e js fun vs => k (v :: vs) | none => false) = true := h
    cases hv : lk e t with
    | none => rw [hv] at h; cases h
    | some v =>
      rw [hv] at h
      obtain ⟨vs, h1, h2, h3⟩ := rd_true h
      refine ⟨v :: vs, h1, by simp [h2], fun j u hu => ?_⟩
      cases j with
      | zero => simp at hu; subst hu; exact ⟨v, rfl, hv⟩
      | succ j => exact h3 j u (by simpa using hu)
theorem lk_upd {e : Env} : ∀ {js : List Nat} {vs : List AV} {u : Nat} {v : AV}, lk (upd e js vs) u = some v → (∃ j : Nat, js[j]? = some u ∧ vs[j]? = some v) ∨ lk e u = some v
  | [], vs, u, v, h => .inr (by cases vs <;> exact h)
  | t :: js, [], u, v, h => .inr h
  | t :: js, x :: vs, u, v, h => by
    have h : lk ((t, some x) :: upd e js vs) u = some v := h
    rw [lk_cons] at h
    split at h
    · rename_i e1; cases h; exact .inl ⟨0, by simp [e1], rfl⟩
    · rcases lk_upd h with ⟨j, h1, h2⟩ | h1
      · exact .inl ⟨j + 1, by simpa using h1, by simpa using h2⟩
      · exact .inr h1
theorem lk_upd_ne {e : Env} : ∀ {js : List Nat} {vs : List AV} {u : Nat}, u ∉ js → lk (upd e js vs) u = lk e u
  | [], vs, u, h => by cases vs <;> rfl
  | t :: js, [], u, h => rfl
  | t :: js, x :: vs, u, h => by
    show lk ((t, some x) :: upd e js vs) u = _
    rw [lk_cons, if_neg (fun e => h (by simp [e]))]
    exact lk_upd_ne (fun hm => h (List.mem_cons_of_mem _ hm))
theorem lk_forget {e : Env} : ∀ {ds : List Nat} {u : Nat} {v : AV}, lk (forget e ds) u = some v → u ∉ ds ∧ lk e u = some v
  | [], u, v, h => ⟨by simp, h⟩
  | t :: ds, u, v, h => by
    have h : lk ((t, none) :: forget e ds) u = some v := h
    rw [lk_cons] at h
    split at h
    · cases h
    · rename_i hne
      obtain ⟨h1, h2⟩ := lk_forget h
      exact ⟨fun hm => (List.mem_cons.1 hm).elim (fun e => hne e.symm) h1, h2⟩
theorem lk_forget_ne {e : Env} : ∀ {ds : List Nat} {u : Nat}, u ∉ ds → lk (forget e ds) u = lk e u
  | [], u, h => rfl
  | t :: ds, u, h => by
    show lk ((t, none) :: forget e ds) u = _
    rw [lk_cons, if_neg (fun e => h (by simp [e]))]
    exact lk_forget_ne (fun hm => h (List.mem_cons_of_mem _ hm))
/-- the environment behind a join -/
theorem Fm.join {e e' : Env} {ds js : List Nat} {vs : List AV} (hf : Fm μ e' a) (hs : ∀ t, t ∉ ds → lk e' t = lk e t) (hv : ∀ (j t : Nat), js[j]? = some t → ∃ v, vs[j]? = some v ∧ lk e' t = some v) : Fm μ (upd (forget e ds) js vs) a := by
  refine ⟨fun t v ht => ?_, hf.g0, hf.g2⟩
  rcases lk_upd ht with ⟨j, h1, h2⟩ | h1
  · obtain ⟨v', h3, h4⟩ := hv j t h1
    rw [h2] at h3; cases h3
    exact hf.fr t v h4
  · obtain ⟨h2, h3⟩ := lk_forget h1
    exact hf.fr t v ((hs t h2).trans h3)
theorem Nx.join {e e' : Env} {ds js : List Nat} {vs : List AV} {s' : St} {μ' : Mu} {a' : Act} {w' : World} (h : Nx w0 s μ a e ds e' s' μ' a' w') (hv : ∀ (j t : Nat), js[j]? = some t → ∃ v, vs[j]? = some v ∧ lk e' t = some v) (ds' : List Nat) (hds : ∀ t ∈ ds, t ∈ ds') (hjs : ∀ t ∈ js, t ∈ ds') : Nx w0 s μ a e ds' (upd (forget e ds) js vs) s' μ' a' w' :=
  ⟨h.r, h.f.join h.same hv, h.size, h.defers, h.mx, h.le, fun t ht => by
    rw [lk_upd_ne (fun hm => ht (hjs t hm)), lk_forget_ne (fun hm => ht (hds t hm))]⟩
section
variable {call : Nat → Fn} {inv : Env → Operand → String → List Operand → St → K → Bool} {eqs : List (Nat × List Nat)} {c : Clo} {ops : Array Oper}
/-- what the calls, the methods and the equalities are known for -/
structure Known (P : Program) (call : Nat → Fn) (inv : Env → Operand → String → List Operand → St → K → Bool) (eqs : List (Nat × List Nat)) (c : Clo) : Prop where
  call : ∀ f, Snd P f (call f)
  inv : InvOk P inv
  eqs : ∀ p ∈ eqs, EqOk P p.1 p.2
  clo : ∀ f, Snd P f (c f)
theorem wanted_true {o : Oper} {g t : Nat} {want : Bool} (hg : (ops[g]?).bind (·.dst) = some t) (ho : o.guard = some (g, want)) (ht : a.tmps[t]? = some (.bool want)) : Region.wanted o (yielded ops a.tmps) = true := by
  unfold Region.wanted
  rw [ho]
  show (yielded ops a.tmps g == some want) = true
  unfold yielded
  rw [hg, Option.bind_some, ht]
  simp
theorem put_ne (a : Act) (d : Option Tmp) (x : Value) (u : Nat) (h : d ≠ some u) : (a.put d x).tmps[u]? = a.tmps[u]? := by
  cases d with
  | none => rfl
  | some d => simp only [Act.put, Array.getElem?_setIfInBounds_ne (show d ≠ u from fun e => h (by rw [e]))]
theorem grp_sound (K1 : Known P call inv eqs c) {g t : Nat} {want : Bool} (hg : (ops[g]?).bind (·.dst) = some t) : ∀ {l : List Oper} {i : Nat} {e : Env} {s : St} {μ : Mu} {a : Act} {w : World} {k : Env → St → Bool}, grpOps P call inv eqs c l e s k = true → At ops i l → (∀ o ∈ l, o.guard = some (g, want)) → (∀ o ∈ l, ∀ d, o.dst = some d → d < a.tmps.size) → t ∉ dsts l → a.tmps[t]? = some (.bool want) → R w0 s w μ → Fm μ e a →
    ∀ (rest : List Nat), (∀ e' s' μ' a' w', k e' s' = true → Nx w0 s μ a e (dsts l) e' s' μ' a' w' → wpOps P ops Q rest a' w') → wpOps P ops Q (List.range' i l.length ++ rest) a w
  | [], i, e, s, μ, a, w, k, h, _, _, _, _, _, hr, hf, rest, hk => hk e s μ a w h (Nx.rfl' hr hf)
  | o :: l, i, e, s, μ, a, w, k, h, hat, hgs, hds, ht, hta, hr, hf, rest, hk => by
    rw [List.length_cons, List.range'_succ, List.cons_append]
    simp only [wpOps, hat.head]
    rw [if_pos (wanted_true hg (hgs o (by simp)) hta)]
    have h : cmpOp P call inv eqs c e o s (fun v s => grpOps P call inv eqs c l (put e o.dst v) s k) = true := h
    rw [dsts_cons] at ht
    simp only [List.mem_append, not_or] at ht
    refine .inl (wp_of_op1 (cmpOp_sound K1.call K1.inv K1.eqs K1.clo hr hf h) fun v s' x w' μ' hk' hle hX hv hR => ?_)
    have hnx := Nx.op hr hf (d := o.dst) (fun u hu => hds o (by simp) u hu) hle hX hv hR
    refine grp_sound K1 hg hk' hat.tail (fun p hp => hgs p (by simp [hp])) (fun p hp d hd => by rw [put_size]; exact hds p (by simp [hp]) d hd) ht.2 ((put_ne a o.dst x t (fun e => ht.1 (by rw [e]; simp))).trans hta) hR hnx.f rest (fun e'' s'' μ'' a'' w'' hk'' hnx' => hk e'' s'' μ'' a'' w'' hk'' ?_)
    rw [dsts_cons]
    exact hnx.tr hnx'
theorem gd_true {v : AV} {x : Value} (hx : VRel μ v x) {p q r : Bool} (h : gd v p q r = true) : (x = .bool true ∧ p = true) ∨ (x = .bool false ∧ q = true) ∨ ((∀ b, x ≠ .bool b) ∧ r = true) := by
  cases hx with
  | bool b => cases b with
    | true => exact .inl ⟨rfl, h⟩
    | false => exact .inr (.inl ⟨rfl, h⟩)
  | _ => exact .inr (.inr ⟨by simp, h⟩)
theorem all_mem {js ds : List Nat} (h : js.all (fun j => memN j ds) = true) : ∀ t ∈ js, t ∈ ds := fun t ht => memN_true (by
  rw [List.all_eq_true] at h
  exact h t ht)
theorem notMem {t : Nat} : ∀ {l : List Nat}, memN t l = false → t ∉ l
  | [], _ => by simp
  | u :: l, h => by
    have h : (match Nat.beq t u with | true => true | false => memN t l) = false := h
    cases e : Nat.beq t u with
    | true => rw [e] at h; cases h
    | false =>
      rw [e] at h
      intro hm
      rcases List.mem_cons.1 hm with rfl | hm
      · rw [Nat.beq_refl] at e; cases e
      · exact notMem h hm
theorem ops_sound (K1 : Known P call inv eqs c) {all : List Oper} (hall : all = ops.toList) : ∀ {n : Nat} {l : List Oper} {gs : List (List Nat)} {i : Nat} {e : Env} {s : St} {μ : Mu} {a : Act} {w : World} {k : Env → St → Bool}, cmpOps P call inv eqs c all n l gs e s k = true → At ops i l → (∀ o ∈ l, ∀ d, o.dst = some d → d < a.tmps.size) → R w0 s w μ → Fm μ e a →
    (∀ e' s' μ' a' w', k e' s' = true → Nx w0 s μ a e (dsts l) e' s' μ' a' w' → Q .normal a' w') → wpOps P ops Q (List.range' i l.length) a w
  | 0, [], gs, i, e, s, μ, a, w, k, h, _, _, hr, hf, hk => hk e s μ a w h (Nx.rfl' hr hf)
  | n + 1, [], gs, i, e, s, μ, a, w, k, h, _, _, hr, hf, hk => hk e s μ a w h (Nx.rfl' hr hf)
  | 0, o :: l, gs, i, e, s, μ, a, w, k, h, _, _, hr, hf, hk => by cases h
  | n + 1, o :: l, gs, i, e, s, μ, a, w, k, h, hat, hds, hr, hf, hk => by
    unfold cmpOps at h
    split at h
    · rename_i hgd
      rw [List.length_cons, List.range'_succ]
      simp only [wpOps, hat.head]
      rw [if_pos (by simp [Region.wanted, hgd])]
      refine .inl (wp_of_op1 (cmpOp_sound K1.call K1.inv K1.eqs K1.clo hr hf h) fun v s' x w' μ' hk' hle hX hv hR => ?_)
      have hnx := Nx.op hr hf (d := o.dst) (fun u hu => hds o (by simp) u hu) hle hX hv hR
      refine ops_sound K1 hall hk' hat.tail (fun p hp d hd => by rw [put_size]; exact hds p (by simp [hp]) d hd) hR hnx.f (fun e'' s'' μ'' a'' w'' hk'' hnx' => hk e'' s'' μ'' a'' w'' hk'' ?_)
      rw [dsts_cons]
      exact hnx.tr hnx'
    · rename_i g want hgd
      split at h
      · rename_i js gs' t grp l' hdst hgrp
        obtain ⟨hl, hgs⟩ := grpOf_spec hgrp
        have hg : (ops[g]?).bind (·.dst) = some t := by
          have := dstOf_spec hdst
          rw [hall] at this
          simpa using this
        split at h
        · rename_i v hlv hjs htn
          obtain ⟨x, hx, hv⟩ := hf.fr t v hlv
          have hjs := all_mem hjs
          have htn := notMem htn
          rw [hl] at hat hds hk ⊢
          have hds1 : ∀ o ∈ grp, ∀ d, o.dst = some d → d < a.tmps.size := fun p hp d hd => hds p (List.mem_append_left _ hp) d hd
          rw [List.length_append, range'_app]
          -- behind the group, executed
          have exec : grpOps P call inv eqs c grp e s (fun e' s => rd e' js fun vs => cap js.length (cur js.length fun vs s => cmpOps P call inv eqs c all n l' gs' (upd (forget e (dsts grp)) js vs) s k) vs s) = true → x = .bool want → wpOps P ops Q (List.range' i grp.length ++ List.range' (i + grp.length) l'.length) a w := fun hA hxe => by
            refine grp_sound K1 hg hA hat.left hgs hds1 htn (by rw [hx, hxe]) hr hf _ (fun e' s' μ' a' w' hk' hnx => ?_)
            obtain ⟨vs, h1, h2, h3⟩ := rd_true hk'
            rw [cap_cur h2] at h1
            have hj := hnx.join h3 (dsts grp) (fun _ h => h) hjs
            refine ops_sound K1 hall h1 hat.right (fun p hp d hd => by rw [hnx.size]; exact hds p (List.mem_append_right _ hp) d hd) hnx.r hj.f (fun e'' s'' μ'' a'' w'' hk'' hnx' => hk e'' s'' μ'' a'' w'' hk'' ?_)
            rw [dsts_app]
            exact hj.tr hnx'
          have skip : cap js.length (cur js.length fun vs s => cmpOps P call inv eqs c all n l' gs' (upd (forget e (dsts grp)) js vs) s k) (rep und js.length) s = true → x ≠ .bool want → wpOps P ops Q (List.range' i grp.length ++ List.range' (i + grp.length) l'.length) a w := fun hD hxe => by
            rw [cap_cur (by rw [rep_eq, List.length_replicate])] at hD
            refine skip_sound (e := e) hg (fun x' hx' => by rw [hx] at hx'; cases hx'; exact hxe) hat.left hgs hds1 htn rfl hf _ (fun a'' h1 h2 h3 h4 => ?_)
            have hf'' : Fm μ (upd (forget e (dsts grp)) js (rep und js.length)) a'' := by
              refine ⟨fun u v hu => ?_, hf.g0, hf.g2⟩
              rcases lk_upd hu with ⟨j, g1, g2⟩ | g1
              · rw [rep_eq, List.getElem?_replicate] at g2
                split at g2
                · cases g2
                  exact ⟨undef, h4 u (hjs u (List.mem_of_getElem? g1)), vund⟩
                · cases g2
              · obtain ⟨g2, g3⟩ := lk_forget g1
                rw [h3 u g2]
                exact hf.fr u v g3
            have hnx : Nx w0 s μ a e (dsts grp) (upd (forget e (dsts grp)) js (rep und js.length)) s μ a'' w := ⟨hr, hf'', h1, h2, MX.rfl', Nat.le_refl _, fun u hu => by
              rw [lk_upd_ne (fun hm => hu (hjs u hm)), lk_forget_ne hu]⟩
            refine ops_sound K1 hall hD hat.right (fun p hp d hd => by rw [h1]; exact hds p (List.mem_append_right _ hp) d hd) hr hf'' (fun e'' s'' μ'' a3 w'' hk'' hnx' => hk e'' s'' μ'' a3 w'' hk'' ?_)
            rw [dsts_app]
            exact hnx.tr hnx'
          cases want with
          | true =>
            rcases gd_true hv (show gd v _ _ _ = true from h) with ⟨he, hA⟩ | ⟨he, hD⟩ | ⟨he, hD⟩
            · exact exec hA he
            · exact skip hD (by rw [he]; simp)
            · exact skip hD (he true)
          | false =>
            rcases gd_true hv (show gd v _ _ _ = true from h) with ⟨he, hD⟩ | ⟨he, hA⟩ | ⟨he, hD⟩
            · exact skip hD (by rw [he]; simp)
            · exact exec hA he
            · exact skip hD (he false)
        · cases h
      · cases h
end
end X
