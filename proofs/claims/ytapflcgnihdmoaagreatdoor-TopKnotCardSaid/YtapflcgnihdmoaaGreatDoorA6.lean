/- A whole function; trees, tables. -/
import Derived.Test.YtapflcgnihdmoaaGreatDoorA5
import Derived.Deep.LoopGhost
import Derived.Test.YtapflcgnihdmoaaGreatDoorA1
/- Code is sound. -/
namespace X
open Go Go.RowKit
set_option linter.unusedVariables false
set_option linter.unusedSimpArgs false
set_option linter.unusedSectionVars false
variable [Luck]
variable {P : Program} {w0 w : World} {s : St} {μ : Mu} {a : Act} {o : Oper}
def outE : Out → Exit
  | .nor => .normal
  | .ex i => .exit i
  | .ret => .ret
section
variable {call : Nat → Fn} {inv : Env → Operand → String → List Operand → St → K → Bool} {eqs : List (Nat × List Nat)} {c : Clo} {N : Nat}
theorem Nx.weak {e e' : Env} {ds ds' : List Nat} {s' : St} {μ' : Mu} {a' : Act} {w' : World} (h : Nx w0 s μ a e ds e' s' μ' a' w') (hd : ∀ t ∈ ds, t ∈ ds') : Nx w0 s μ a e ds' e' s' μ' a' w' :=
  ⟨h.r, h.f, h.size, h.defers, h.mx, h.le, fun t ht => h.same t (fun hm => ht (hd t hm))⟩
/-- what a piece of code comes to -/
def Ends (w0 : World) (s : St) (μ : Mu) (a : Act) (e : Env) (ds : List Nat) (k : Out → Env → St → Bool) (x : Exit) (a' : Act) (w' : World) : Prop :=
  ∃ o e' s' μ', x = outE o ∧ k o e' s' = true ∧ Nx w0 s μ a e ds e' s' μ' a' w'
theorem region_sound (K1 : Known P call inv eqs c) {id : Nat} {ops : Array Oper} {gs : List (List Nat)} {e : Env} {k : Out → Env → St → Bool} (hd : dOk N ops.toList = true) (h : cmpOps P call inv eqs c ops.toList ops.size ops.toList gs e s (k .nor) = true) (hr : R w0 s w μ) (hf : Fm μ e a) (hN : a.tmps.size = N) :
    (Code.region id ops false).wp P (Ends w0 s μ a e (dsts ops.toList) k) a w := by
  refine wp_region ?_
  have hat : At ops 0 ops.toList := fun j o hj => by simpa using hj
  have := ops_sound (Q := Ends w0 s μ a e (dsts ops.toList) k) K1 (ops := ops) rfl h hat (fun o ho d hdd => by rw [hN]; exact dOk_spec hd o ho d hdd) hr hf (fun e' s' μ' a' w' hk hnx => ⟨.nor, e', s', μ', rfl, hk, hnx⟩)
  rw [List.range_eq_range']
  simpa using this
theorem cmpC_sound (K1 : Known P call inv eqs c) (hE : InvEnv inv) (hmix : P.follows .mixedOrders = true) : ∀ {b : Code} {x : An} {e : Env} {s : St} {μ : Mu} {a : Act} {w : World} {k : Out → Env → St → Bool}, cmpC P call inv eqs c N b x e s k = true → R w0 s w μ → Fm μ e a → a.tmps.size = N → b.wp P (Ends w0 s μ a e (asg b) k) a w := by
  intro b
  induction b with
  | skip => intro x e s μ a w k h hr hf hN; exact wp_skip ⟨.nor, e, s, μ, rfl, h, Nx.rfl' hr hf⟩
  | label l => intro x e s μ a w k h hr hf hN; exact wp_label ⟨.nor, e, s, μ, rfl, h, Nx.rfl' hr hf⟩
  | exit id => intro x e s μ a w k h hr hf hN; exact wp_exit ⟨.ex id, e, s, μ, rfl, h, Nx.rfl' hr hf⟩
  | ret => intro x e s μ a w k h hr hf hN; exact wp_ret ⟨.ret, e, s, μ, rfl, h, Nx.rfl' hr hf⟩
  | goto l => intro x e s μ a w k h; cases h
  | refuse y => intro x e s μ a w k h; cases h
  | rangeFunc f ps y z => intro x e s μ a w k h; cases h
  | scope b ih =>
    intro x e s μ a w k h hr hf hN
    refine wp_scope_straight (wp_mono (ih h hr hf hN) fun x a' w' hq => ?_)
    obtain ⟨o, e', s', μ', rfl, hk, hnx⟩ := hq
    cases o <;> exact ⟨_, e', s', μ', rfl, hk, hnx⟩
  | region id ops draw =>
    intro x e s μ a w k h hr hf hN
    cases draw with
    | false =>
      cases x with
      | r gs =>
        have h1 : (match dOk N ops.toList with
          | true => cmpOps P call inv eqs c ops.toList ops.size ops.toList gs e s (k .nor)
          | false => false) = true := h
        clear h
        cases hd : dOk N ops.toList with
        | false => rw [hd] at h1; cases h1
        | true =>
          rw [hd] at h1
          exact region_sound K1 hd h1 hr hf hN
      | _ => cases h
    | true =>
      cases x with
      | d ord =>
        have h1 : (match dOk N ops.toList with
          | true => match ordOk ops.toList ord with
            | true => cmpD P call inv eqs c ops.toList ord [] e s (k .nor)
            | false => false
          | false => false) = true := h
        clear h
        cases hd : dOk N ops.toList with
        | false => rw [hd] at h1; cases h1
        | true =>
          rw [hd] at h1
          cases ho : ordOk ops.toList ord with
          | false => rw [ho] at h1; cases h1
          | true =>
            rw [ho] at h1
            exact drawn_sound hmix K1 hE hr hf (fun o ho t ht => by rw [hN]; exact dOk_spec hd o ho t ht) ho h1 (fun e' s' μ' a' w' hk hnx => ⟨.nor, e', s', μ', rfl, hk, hnx⟩)
      | _ => cases h
  | seq b1 b2 ih1 ih2 =>
    intro x e s μ a w k h hr hf hN
    cases x with
    | s x y =>
      refine wp_seq (wp_mono (ih1 (x := x) h hr hf hN) fun z a' w' hq => ?_)
      obtain ⟨o, e', s', μ', rfl, hk, hnx⟩ := hq
      cases o with
      | nor =>
        refine wp_mono (ih2 (x := y) hk hnx.r hnx.f (hnx.size.trans hN)) fun z a'' w'' hq' => ?_
        obtain ⟨o', e'', s'', μ'', rfl, hk', hnx'⟩ := hq'
        exact ⟨o', e'', s'', μ'', rfl, hk', hnx.tr hnx'⟩
      | ex i => exact ⟨.ex i, e', s', μ', rfl, hk, hnx.weak (fun t ht => List.mem_append_left _ ht)⟩
      | ret => exact ⟨.ret, e', s', μ', rfl, hk, hnx.weak (fun t ht => List.mem_append_left _ ht)⟩
    | _ => cases h
  | cond q b1 b2 ih1 ih2 =>
    intro x e s μ a w k h hr hf hN
    cases x with
    | c js x y =>
      cases js with
      | none =>
        obtain ⟨v, h1, hv⟩ := eO_true hf (show eO e q (fun v => condX v (cmpC P call inv eqs c N b1 x e s k) (cmpC P call inv eqs c N b2 y e s k)) = true from h)
        rcases wB_true h1 with ⟨rfl, h2⟩ | ⟨rfl, h2⟩
        · refine wp_cond_true (bool_inv hv) (wp_mono (ih1 (x := x) h2 hr hf hN) fun z a' w' hq => ?_)
          obtain ⟨o, e', s', μ', rfl, hk, hnx⟩ := hq
          exact ⟨o, e', s', μ', rfl, hk, hnx.weak (fun t ht => List.mem_append_left _ ht)⟩
        · refine wp_cond_false (bool_inv hv) (wp_mono (ih2 (x := y) h2 hr hf hN) fun z a' w' hq => ?_)
          obtain ⟨o, e', s', μ', rfl, hk, hnx⟩ := hq
          exact ⟨o, e', s', μ', rfl, hk, hnx.weak (fun t ht => List.mem_append_right _ ht)⟩
      | some js =>
        unfold cmpC at h
        split at h
        · cases h
        · rename_i hjs
          have hjs := all_mem hjs
          obtain ⟨v, h1, hv⟩ := eO_true hf (show eO e q _ = true from h)
          have fin : ∀ (b : Code), (∀ t ∈ asg b, t ∈ asg b1 ++ asg b2) → ∀ {z : Exit} {a' : Act} {w' : World}, Ends w0 s μ a e (asg b) (fun o e' s => match o with
              | .nor => rd e' js fun vs => cap js.length (cur js.length fun vs s => k .nor (upd (forget e (asg b1 ++ asg b2)) js vs) s) vs s
              | .ex i => k (.ex i) e' s
              | .ret => k .ret e' s) z a' w' → Ends w0 s μ a e (asg b1 ++ asg b2) k z a' w' := fun b hb {z a' w'} hq => by
            obtain ⟨o, e', s', μ', rfl, hk, hnx⟩ := hq
            cases o with
            | nor =>
              obtain ⟨vs, g1, g2, g3⟩ := rd_true hk
              rw [cap_cur g2] at g1
              exact ⟨.nor, _, s', μ', rfl, g1, (hnx.weak hb).join g3 _ (fun _ h => h) hjs⟩
            | ex i => exact ⟨.ex i, e', s', μ', rfl, hk, hnx.weak hb⟩
            | ret => exact ⟨.ret, e', s', μ', rfl, hk, hnx.weak hb⟩
          rcases wB_true h1 with ⟨rfl, h2⟩ | ⟨rfl, h2⟩
          · exact wp_cond_true (bool_inv hv) (wp_mono (ih1 (x := x) h2 hr hf hN) fun z a' w' hq => fin b1 (fun t ht => List.mem_append_left _ ht) hq)
          · exact wp_cond_false (bool_inv hv) (wp_mono (ih2 (x := y) h2 hr hf hN) fun z a' w' hq => fin b2 (fun t ht => List.mem_append_right _ ht) hq)
    | _ => cases h
  | block id b ih =>
    intro x e s μ a w k h hr hf hN
    cases x with
    | b js x =>
      cases js with
      | none =>
        refine wp_block (wp_mono (ih (x := x) h hr hf hN) fun z a' w' hq => ?_)
        obtain ⟨o, e', s', μ', rfl, hk, hnx⟩ := hq
        cases o with
        | nor => exact ⟨.nor, e', s', μ', rfl, hk, hnx⟩
        | ret => exact ⟨.ret, e', s', μ', rfl, hk, hnx⟩
        | ex i =>
          have hk : (match Nat.beq i id with | true => k .nor e' s' | false => k (.ex i) e' s') = true := hk
          show (if i = id then _ else _)
          cases hb : Nat.beq i id with
          | true => rw [hb] at hk; rw [if_pos (neq_true hb)]; exact ⟨.nor, e', s', μ', rfl, hk, hnx⟩
          | false =>
            rw [hb] at hk
            rw [if_neg (fun e => by rw [e, Nat.beq_refl] at hb; cases hb)]
            exact ⟨.ex i, e', s', μ', rfl, hk, hnx⟩
      | some js =>
        unfold cmpC at h
        split at h
        · cases h
        · rename_i hjs
          have hjs := all_mem hjs
          have fin : ∀ {e' : Env} {s' : St} {μ' : Mu} {a' : Act} {w' : World}, Nx w0 s μ a e (asg b) e' s' μ' a' w' → (rd e' js fun vs => cap js.length (cur js.length fun vs s => k .nor (upd (forget e (asg b)) js vs) s) vs s') = true → Ends w0 s μ a e (asg b) k .normal a' w' := fun hnx hk => by
            obtain ⟨vs, g1, g2, g3⟩ := rd_true hk
            rw [cap_cur g2] at g1
            exact ⟨.nor, _, _, _, rfl, g1, hnx.join g3 _ (fun _ h => h) hjs⟩
          refine wp_block (wp_mono (ih (x := x) h hr hf hN) fun z a' w' hq => ?_)
          obtain ⟨o, e', s', μ', rfl, hk, hnx⟩ := hq
          cases o with
          | nor => exact fin hnx hk
          | ret => exact ⟨.ret, e', s', μ', rfl, hk, hnx⟩
          | ex i =>
            have hk : (match Nat.beq i id with
              | true => rd e' js fun vs => cap js.length (cur js.length fun vs s => k .nor (upd (forget e (asg b)) js vs) s) vs s'
              | false => k (.ex i) e' s') = true := hk
            show (if i = id then _ else _)
            cases hb : Nat.beq i id with
            | true => rw [hb] at hk; rw [if_pos (neq_true hb)]; exact fin hnx hk
            | false =>
              rw [hb] at hk
              rw [if_neg (fun e => by rw [e, Nat.beq_refl] at hb; cases hb)]
              exact ⟨.ex i, e', s', μ', rfl, hk, hnx⟩
    | _ => cases h
  | loop b ih =>
    intro x e s μ a w k h hr hf hN
    cases x with
    | l js x =>
      unfold cmpC at h
      split at h
      · cases h
      · rename_i hjs
        have hjs := all_mem hjs
        obtain ⟨vs, h1, h2, h3⟩ := rd_true h
        let body : Cur js.length → Cur js.length := fun self => cur js.length fun vs s => cmpC P call inv eqs c N b x (upd (forget e (asg b)) js vs) s fun o e s => match o with
          | .nor => rd e js fun vs => cap js.length self vs s
          | .ex i => k (.ex i) e s
          | .ret => k .ret e s
        let rec_ : Nat → Cur js.length := fun n => lpN n body (cur js.length fun _ _ => false)
        have h1 : cap js.length (rec_ lpM) vs s = true := h1
        generalize lpM = n0 at h1
        refine wp_loop_ghost (fun n a' w' => ∃ vs s' μ', cap js.length (rec_ n) vs s' = true ∧ vs.length = js.length ∧ Nx w0 s μ a e (asg b) (upd (forget e (asg b)) js vs) s' μ' a' w') n0 ⟨vs, s, μ, h1, h2, ((Nx.rfl' hr hf).weak (fun _ h => by cases h)).join h3 _ (fun _ h => h) hjs⟩ ?_
        rintro n a' w' ⟨vs, s', μ', g1, g2, hnx⟩
        cases n with
        | zero =>
          have g1 : cap js.length (cur js.length fun _ _ => false) vs s' = true := g1
          rw [cap_cur g2] at g1; cases g1
        | succ n =>
          have g1 : cap js.length (body (rec_ n)) vs s' = true := g1
          rw [cap_cur g2] at g1
          refine wp_mono (ih (x := x) g1 hnx.r hnx.f (hnx.size.trans hN)) fun z a'' w'' hq => ?_
          obtain ⟨o, e'', s'', μ'', rfl, hk, hnx'⟩ := hq
          have hnx2 : Nx w0 s μ a e (asg b) e'' s'' μ'' a'' w'' := (hnx.tr hnx').weak (fun t ht => (List.mem_append.1 ht).elim id id)
          cases o with
          | nor =>
            obtain ⟨vs', k1, k2, k3⟩ := rd_true hk
            exact ⟨n, Nat.lt_succ_self n, vs', s'', μ'', k1, k2, hnx2.join k3 _ (fun _ h => h) hjs⟩
          | ex i => exact ⟨.ex i, e'', s'', μ'', rfl, hk, hnx2⟩
          | ret => exact ⟨.ret, e'', s'', μ'', rfl, hk, hnx2⟩
    | _ => cases h
end
end X
/- A function is sound. -/
namespace X
open Go Go.RowKit
set_option linter.unusedVariables false
set_option linter.unusedSimpArgs false
set_option linter.unusedSectionVars false
variable [Luck]
variable {P : Program} {w0 w : World} {s : St} {μ : Mu} {a : Act} {o : Oper}
section
variable {call : Nat → Fn} {inv : Env → Operand → String → List Operand → St → K → Bool} {eqs : List (Nat × List Nat)} {c : Clo} {N : Nat}
theorem ar1_true {as : List AV} {k : AV → List AV → Bool} (h : ar1 as k = true) : ∃ v l, as = v :: l ∧ k v l = true := by
  cases as with
  | nil => cases h
  | cons v l => exact ⟨v, l, rfl, h⟩
theorem ar0_true {as : List AV} {k : Bool} (h : ar0 as k = true) : as = [] ∧ k = true := by
  cases as with
  | nil => exact ⟨rfl, h⟩
  | cons v l => cases h
theorem args_true : ∀ {n i : Nat} {e : Env} {as : List AV} {k : Env → Bool}, args n i e as k = true → as.length = n ∧ ∃ e', k e' = true ∧ ∀ t v, lk e' t = some v → (i ≤ t ∧ as[t - i]? = some v) ∨ lk e t = some v
  | 0, i, e, as, k, h => by
    obtain ⟨rfl, h0⟩ := ar0_true (show ar0 as (k e) = true from h)
    exact ⟨rfl, e, h0, fun t v ht => .inr ht⟩
  | n + 1, i, e, as, k, h => by
    obtain ⟨v, l, rfl, h0⟩ := ar1_true (show ar1 as (fun v as => args n (i + 1) ((i, some v) :: e) as k) = true from h)
    obtain ⟨h1, e', h2, h3⟩ := args_true h0
    refine ⟨by simp [h1], e', h2, fun t u ht => ?_⟩
    rcases h3 t u ht with ⟨h4, h5⟩ | h4
    · refine .inl ⟨by omega, ?_⟩
      rw [show t - i = (t - (i + 1)) + 1 by omega]
      simpa using h5
    · rw [lk_cons] at h4
      split at h4
      · rename_i e1; cases h4; exact .inl ⟨by omega, by rw [e1]; simp⟩
      · exact .inr h4
/-- one result -/
def res1 (tmps : Array Value) : ResultVar → Sem Value
  | .tmp t => pure (tmps.getD t undef)
  | .cell a t => do loadVar t (← asAddr (tmps.getD a undef))
theorem resX_true (hr : R w0 s w μ) {e : Env} (hf : Fm μ e a) : ∀ {l : List ResultVar} {k : List AV → Bool}, resX P l e s k = true → ∃ vs xs, k vs = true ∧ VL μ vs xs ∧ (l.mapM (res1 a.tmps)).run P w = .ok xs w
  | [], k, h => ⟨[], [], h, VL.nil, by simp⟩
  | .tmp t :: l, k, h => by
    have h : (match lk e t with | some v => resX P l e s fun vs => k (v :: vs) | none => false) = true := h
    cases hv : lk e t with
    | none => rw [hv] at h; cases h
    | some v =>
      rw [hv] at h
      obtain ⟨x, hx, hxr⟩ := hf.fr t v hv
      obtain ⟨vs, xs, h1, h2, h3⟩ := resX_true hr hf h
      refine ⟨v :: vs, x :: xs, h1, h2.cons hxr, ?_⟩
      have e1 : a.tmps.getD t undef = x := by simp only [Array.getD_eq_getD_getElem?, hx, Option.getD_some]
      simp [List.mapM_cons, res1, h3, e1]
  | .cell b t :: l, k, h => by
    have h : (match lk e b, aggT P t, szT P t with
      | some x, some true, some n => lgX n x s fun v => resX P l e s fun vs => k (v :: vs)
      | some x, some false, _ => ldX x s fun v => resX P l e s fun vs => k (v :: vs)
      | _, _, _ => false) = true := h
    have fin : ∀ {x : AV} {x' v' : Value} {v : AV}, VRel μ x x' → a.tmps[b]? = some x' → (Instr.loadAt t x').run P w = .ok v' w → VRel μ v v' → (resX P l e s fun vs => k (v :: vs)) = true → (∃ A, x' = .pointer (some A)) → ∃ vs xs, k vs = true ∧ VL μ vs xs ∧ ((ResultVar.cell b t :: l).mapM (res1 a.tmps)).run P w = .ok xs w := fun {x x' v' v} hx hxb hrun hv h hA => by
      obtain ⟨vs, xs, h1, h2, h3⟩ := resX_true hr hf h
      obtain ⟨A, rfl⟩ := hA
      refine ⟨v :: vs, v' :: xs, h1, h2.cons hv, ?_⟩
      have e1 : a.tmps.getD b undef = .pointer (some A) := by simp only [Array.getD_eq_getD_getElem?, hxb, Option.getD_some]
      have e2 : (loadVar t A).run P w = .ok v' w := by simpa [Instr.loadAt, Instr.sureAddr] using hrun
      simp [List.mapM_cons, res1, h3, e1, asAddr, e2]
    split at h
    · rename_i x n hl hg hn
      obtain ⟨x', hx', hxr⟩ := hf.fr b x hl
      obtain ⟨v, v', g1, g2, g3⟩ := lg_sound (P := P) hr hg hn hxr h
      obtain ⟨bb, i, q, rfl, _⟩ := wP_true h
      obtain ⟨p, hp, rfl⟩ := ptr_inv hxr
      exact fin hxr hx' g3 g2 g1 ⟨_, rfl⟩
    · rename_i x hl hg
      obtain ⟨x', hx', hxr⟩ := hf.fr b x hl
      obtain ⟨v, v', g1, g2, g3⟩ := ld_sound (P := P) hr hg hxr h
      obtain ⟨bb, i, q, rfl, _⟩ := wP_true h
      obtain ⟨p, hp, rfl⟩ := ptr_inv hxr
      exact fin hxr hx' g3 g2 g1 ⟨_, rfl⟩
    · cases h
theorem results_run {f : Func} {xs : List Value} {tmps : Array Value} (h : (f.results.toList.mapM (res1 tmps)).run P w = .ok xs w) : (results f tmps).run P w = .ok (if h : xs.length = 1 then xs[0] else .tuple xs.toArray) w := by
  have e : results f tmps = (do let vs ← f.results.mapM (res1 tmps); pure (if h : vs.size = 1 then vs[0] else .tuple vs)) := by
    unfold results
    rfl
  have h2 : (f.results.mapM (res1 tmps)).run P w = .ok xs.toArray w := by
    rw [Array.mapM_eq_mapM_toList]
    simp [h]
  rw [e]
  simp only [Sem.run_bind, h2, Result.andThen_ok, Sem.run_pure]
  simp
theorem tup_rel {vs : List AV} {xs : List Value} (h : VL μ vs xs) : VRel μ (tupOf vs) (if h : xs.length = 1 then xs[0] else .tuple xs.toArray) := by
  match vs, xs, h with
  | [v], [x], h => exact h.2 0 v x rfl rfl
  | [], [], h => exact h.tup
  | v :: u :: vs, x :: y :: xs, h =>
    have : ¬ ((x :: y :: xs).length = 1) := by simp
    rw [dif_neg this]
    exact h.tup
  | [v], [], h => exact absurd h.1 (by simp)
  | [v], x :: y :: xs, h => exact absurd h.1 (by simp)
  | [], x :: xs, h => exact absurd h.1 (by simp)
  | v :: u :: vs, [], h => exact absurd h.1 (by simp)
  | v :: u :: vs, [x], h => exact absurd h.1 (by simp)
theorem cmpF_sound (K1 : Known P call inv eqs c) (hE : InvEnv inv) (hmix : P.follows .mixedOrders = true) {f : Nat} {fn : Func} {body : Code} {x : An} (hfn : P.funcs[f]? = some fn) (hb : fn.body = some body) (hnm : (fn.name == "runtime.NumGoroutine") = false) : Snd P f (cmpF P call inv eqs c fn body x) := by
  intro as s k h w0 w μ xs hr hvl g0 g2
  have h : (match Nat.ble (fn.params.size + fn.nfree) fn.ntmps with
    | false => false
    | true => args (fn.params.size + fn.nfree) 0 [] as fun e => cmpC P call inv eqs c fn.ntmps body x e s fun o e s => match o with
      | .ex _ => false
      | .nor => resX P fn.results.toList e s fun vs => k (tupOf vs) s
      | .ret => resX P fn.results.toList e s fun vs => k (tupOf vs) s) = true := h
  cases hle : Nat.ble (fn.params.size + fn.nfree) fn.ntmps with
  | false => rw [hle] at h; cases h
  | true =>
    rw [hle] at h
    have hle := nle_true hle
    obtain ⟨hlen, e, h1, he⟩ := args_true h
    have hxs : xs.size = fn.params.size + fn.nfree := by rw [← hlen]; simpa using hvl.1.symm
    let act : Act := { tmps := xs ++ Array.replicate (fn.ntmps - xs.size) undef, defers := [] }
    have hsz : act.tmps.size = fn.ntmps := by simp [act]; omega
    have hfr : ∀ t v, lk e t = some v → ∃ x, act.tmps[t]? = some x ∧ VRel μ v x := fun t v ht => by
      rcases he t v ht with ⟨_, h2⟩ | h2
      · rw [Nat.sub_zero] at h2
        obtain ⟨y, hy, hyr⟩ := hvl.get h2
        have hlt := (List.getElem?_eq_some_iff.1 hy).1
        refine ⟨y, ?_, hyr⟩
        have hlt' : t < xs.size := by simpa using hlt
        simp only [act, Array.getElem?_append, hlt', if_true]
        simpa using hy
      · cases h2
    have hf : Fm μ e act := ⟨hfr, g0, g2⟩
    have hwp := cmpC_sound (w0 := w0) K1 hE hmix (N := fn.ntmps) h1 hr hf hsz
    have hnm' : ¬ fn.name = "runtime.NumGoroutine" := by simpa using hnm
    have hrun : (callFunc f xs).run P w = .ok (.enter f xs) w := by
      unfold callFunc
      simp [program, Sem.run, hfn, hnm', hb]
    rw [hrun]
    refine calls_of_wp hfn hb (wp_mono hwp fun z a' w' hq => ?_)
    obtain ⟨o, e', s', μ', rfl, hk, hnx⟩ := hq
    have fin : (resX P fn.results.toList e' s' fun vs => k (tupOf vs) s') = true → a'.defers = [] ∧ ∃ v, (results fn a'.tmps).run P w' = .ok v w' ∧ ∃ x, (Ending.returned v = .returned x) ∧ ∃ u s'' μ'', (nx s).n ≤ (nx s'').n ∧ k u s'' = true ∧ MX (nx s) μ μ'' ∧ VRel μ'' u x ∧ R w0 s'' w' μ'' := fun hk => by
      obtain ⟨vs, ys, h1, h2, h3⟩ := resX_true (P := P) hnx.r hnx.f hk
      exact ⟨hnx.defers, _, results_run h3, _, rfl, _, s', μ', hnx.le, h1, hnx.mx, tup_rel h2, hnx.r⟩
    cases o with
    | nor => exact fin hk
    | ret => exact fin hk
    | ex i => cases hk
end
end X
/- Functions are sound, put together. -/
namespace X
open Go Go.RowKit
set_option linter.unusedVariables false
set_option linter.unusedSimpArgs false
set_option linter.unusedSectionVars false
variable [Luck]
variable {P : Program}
theorem snd_nof : ∀ f, Snd P f nof := fun f as s k h => by cases h
theorem snd_no (f : Nat) : Snd P f nof := snd_nof f
theorem snd_cons {g : Nat} {F : Fn} {G : Nat → Fn} (h : Snd P g F) (hr : ∀ f, Snd P f (G f)) : ∀ f, Snd P f (Bool.rec (G f) F (Nat.beq f g)) := fun f => by
  cases e : Nat.beq f g with
  | true => rw [neq_true e]; exact h
  | false => exact hr f
theorem snd_lp {g : Nat} {F : Fn → Fn} (h : ∀ G, Snd P g G → Snd P g (F G)) : Snd P g (lpX F (fun _ _ _ => false)) := by
  unfold lpX
  generalize lpM = n
  induction n with
  | zero => intro as s k h; cases h
  | succ n ih => exact h _ ih
theorem snd_clo {F : Clo → Clo} (h : ∀ c : Clo, (∀ f, Snd P f (c f)) → ∀ f, Snd P f (F c f)) : ∀ f, Snd P f (lpX F (fun _ _ _ _ => false) f) := by
  unfold lpX
  generalize lpM = n
  induction n with
  | zero => intro f as s k h; cases h
  | succ n ih => exact h _ ih
structure Kn (P : Program) (call : Nat → Fn) (c : Clo) : Prop where
  call : ∀ f, Snd P f (call f)
  clo : ∀ f, Snd P f (c f)
theorem known {call : Nat → Fn} {c : Clo} (hc : ∀ f, Snd P f (c f)) (hs : ∀ f, Snd P f (call f)) : Kn P call c := ⟨hs, hc⟩
def InvK (P : Program) (inv : Env → Operand → String → List Operand → St → K → Bool) : Prop := InvOk P inv ∧ InvEnv inv
theorem no_known : InvK P noInv := ⟨fun e r n as s k h => (by cases h), fun e e' r n as s k _ _ => rfl⟩
theorem snd_cmp0 {call : Nat → Fn} {inv : Env → Operand → String → List Operand → St → K → Bool} {eqs : List (Nat × List Nat)} {c : Clo} {f : Nat} {fn : Func} {body : Code} {x : An} (he : ∀ p ∈ eqs, EqOk P p.1 p.2) (hmix : P.follows .mixedOrders = true)
    (hi : InvK P inv) (hk : Kn P call c) (hfn : P.funcs[f]? = some fn) (hb : fn.body = some body) (hnm : (fn.name == "runtime.NumGoroutine") = false) : Snd P f (cmpF P call inv eqs c fn body x) :=
  cmpF_sound ⟨hk.call, hi.1, he, hk.clo⟩ hi.2 hmix hfn hb hnm
/-- methods of *frontier, as the program has them -/
def MethOk (P : Program) : Prop := ∀ n f b, methT n = some (f, b) → ∀ (w : World) (v : Value) (as : Array Value), (b = true → (callMethod (.iface 88 v) n as).run P w = (callFunc f (#[v] ++ as)).run P w) ∧
  (b = false → ∀ A, v = .pointer (some A) → (callMethod (.iface 88 v) n as).run P w = (do let x ← loadVar 93 A; callFunc f (#[x] ++ as) : Sem Next).run P w)
theorem invoke_meth (n : String) (x : Value) (as : Array Value) : (invoke (.fn (.method n) #[]) (#[x] ++ as)) = callMethod x n as := by
  have h0 : (#[x] ++ as)[0]? = some x := by rw [Array.getElem?_append_left (by simp)]; rfl
  have h1 : (#[x] ++ as).extract 1 (#[x] ++ as).size = as := by
    apply Array.ext'
    rw [Array.toList_extract]
    simp [List.extract]
    rw [← Array.length_toList, List.take_length]
  unfold invoke
  simp only [h0, h1]
theorem inv_sound (hM : MethOk P) (h93 : aggT P 93 = some false) {call : Nat → Fn} (hc : ∀ f, Snd P f (call f)) : InvK P (invF call) := by
  refine ⟨fun e r n as s k h w0 w μ a hr hf => ?_, fun e e' r n as s k hr ha => ?_⟩
  · unfold invF at h
    split at h
    case h_1 f hm =>
      obtain ⟨rv, h1, hrv⟩ := eO_true hf h
      obtain ⟨avs, h2, hav⟩ := eL_true hf h1
      obtain ⟨t, v, rfl, h3⟩ := wIf_true h2
      obtain ⟨h4, h5⟩ := brec_true h3
      obtain rfl := neq_true h4
      obtain ⟨y, hy, hyv⟩ := ifc_inv hrv
      have e1 : (invoke (.fn (.method n) #[]) (#[a.eval r] ++ (as.map a.eval).toArray)).run P w = (callFunc f (#[y] ++ (as.map a.eval).toArray)).run P w := by
        rw [← ((hM n f true hm w y (as.map a.eval).toArray).1 rfl), hy, invoke_meth]
      rw [e1]
      exact hc f _ s k h5 w0 w μ _ hr (by simpa using hav.cons hyv) hf.g0 hf.g2
    case h_2 f hm =>
      obtain ⟨rv, h1, hrv⟩ := eO_true hf h
      obtain ⟨avs, h2, hav⟩ := eL_true hf h1
      obtain ⟨t, v, rfl, h3⟩ := wIf_true h2
      obtain ⟨h4, h5⟩ := brec_true h3
      obtain rfl := neq_true h4
      obtain ⟨y, hy, hyv⟩ := ifc_inv hrv
      obtain ⟨x, x', g1, g2, g3⟩ := ld_sound (P := P) (t := 93) hr h93 hyv h5
      obtain ⟨bb, i, q, rfl, _⟩ := wP_true h5
      obtain ⟨p, hp, rfl⟩ := ptr_inv hyv
      have e2 : (loadVar 93 ⟨p.g, p.sh + i * p.z + q, none⟩).run P w = .ok x' w := by simpa [Instr.loadAt, Instr.sureAddr] using g3
      have e1 : (invoke (.fn (.method n) #[]) (#[a.eval r] ++ (as.map a.eval).toArray)).run P w = (callFunc f (#[x'] ++ (as.map a.eval).toArray)).run P w := by
        have := (hM n f false hm w (.pointer (some ⟨p.g, p.sh + i * p.z + q, none⟩)) (as.map a.eval).toArray).2 rfl _ rfl
        simp only [Sem.run_bind, e2, Result.andThen_ok] at this
        rw [← this, hy, invoke_meth]
      rw [e1]
      exact hc f _ s k g1 w0 w μ _ hr (by simpa using hav.cons g2) hf.g0 hf.g2
    case h_3 => cases h
  · have h1 := eO_env hr
    have h2 := eL_env ha
    unfold invF
    split
    · rw [h1, h2]
    · rw [h1, h2]
    · rfl
end X
/- Values, told as trees: what a slice leads to is told with it. -/
namespace X
open Go Go.RowKit
set_option linter.unusedVariables false
set_option linter.unusedSimpArgs false
set_option linter.unusedSectionVars false
/-- a value as a tree: bool, int, string, the nil slice, a slice of no elements, a slice of n elements of z cells, a struct, a tuple, the unknown int -/
inductive Tr where
  | b (x : Bool) | i (n : Int) | s (l : List Nat) | n | e (z : Nat) | r (z n : Nat) (l : List Tr) | a (l : List Tr) | t (l : List Tr) | y
/-! the looks, with another way where the value is of another kind -/
noncomputable def mB (v : AV) (k : Bool → Bool) (d : Bool) : Bool := AV.rec (motive_1 := fun _ => Bool) (motive_2 := fun _ => Unit) (fun x => k x) (fun _ _ => d) (fun _ => d) d (fun _ _ _ => d) d (fun _ _ _ _ _ _ => d) (fun _ _ _ _ _ => d) d (fun _ _ _ => d) d d (fun _ => d) (fun _ _ => d) (fun _ _ => d) d () (fun _ _ _ _ => ()) v
noncomputable def mI (v : AV) (k : IntKind → Int → Bool) (d : Bool) : Bool := AV.rec (motive_1 := fun _ => Bool) (motive_2 := fun _ => Unit) (fun _ => d) (fun t n => k t n) (fun _ => d) d (fun _ _ _ => d) d (fun _ _ _ _ _ _ => d) (fun _ _ _ _ _ => d) d (fun _ _ _ => d) d d (fun _ => d) (fun _ _ => d) (fun _ _ => d) d () (fun _ _ _ _ => ()) v
noncomputable def mS (v : AV) (k : List Nat → Bool) (d : Bool) : Bool := AV.rec (motive_1 := fun _ => Bool) (motive_2 := fun _ => Unit) (fun _ => d) (fun _ _ => d) (fun s => k s) d (fun _ _ _ => d) d (fun _ _ _ _ _ _ => d) (fun _ _ _ _ _ => d) d (fun _ _ _ => d) d d (fun _ => d) (fun _ _ => d) (fun _ _ => d) d () (fun _ _ _ _ => ()) v
noncomputable def mN (v : AV) (k d : Bool) : Bool := AV.rec (motive_1 := fun _ => Bool) (motive_2 := fun _ => Unit) (fun _ => d) (fun _ _ => d) (fun _ => d) d (fun _ _ _ => d) k (fun _ _ _ _ _ _ => d) (fun _ _ _ _ _ => d) d (fun _ _ _ => d) d d (fun _ => d) (fun _ _ => d) (fun _ _ => d) d () (fun _ _ _ _ => ()) v
noncomputable def mSl (v : AV) (k : Id → Nat → Nat → Nat → Bool) (d : Bool) : Bool := AV.rec (motive_1 := fun _ => Bool) (motive_2 := fun _ => Unit) (fun _ => d) (fun _ _ => d) (fun _ => d) d (fun _ _ _ => d) d (fun b i l _ z _ => k b i l z) (fun _ _ _ _ _ => d) d (fun _ _ _ => d) d d (fun _ => d) (fun _ _ => d) (fun _ _ => d) d () (fun _ _ _ _ => ()) v
noncomputable def mA (v : AV) (k : List AV → Bool) (d : Bool) : Bool := AV.rec (motive_1 := fun _ => Bool) (motive_2 := fun _ => Unit) (fun _ => d) (fun _ _ => d) (fun _ => d) d (fun _ _ _ => d) d (fun _ _ _ _ _ _ => d) (fun _ _ _ _ _ => d) d (fun _ _ _ => d) d d (fun _ => d) (fun l _ => k l) (fun _ _ => d) d () (fun _ _ _ _ => ()) v
noncomputable def mT (v : AV) (k : List AV → Bool) (d : Bool) : Bool := AV.rec (motive_1 := fun _ => Bool) (motive_2 := fun _ => Unit) (fun _ => d) (fun _ _ => d) (fun _ => d) d (fun _ _ _ => d) d (fun _ _ _ _ _ _ => d) (fun _ _ _ _ _ => d) d (fun _ _ _ => d) d d (fun _ => d) (fun _ _ => d) (fun l _ => k l) d () (fun _ _ _ _ => ()) v
noncomputable def mY (v : AV) (k d : Bool) : Bool := AV.rec (motive_1 := fun _ => Bool) (motive_2 := fun _ => Unit) (fun _ => d) (fun _ _ => d) (fun _ => d) d (fun _ _ _ => d) d (fun _ _ _ _ _ _ => d) (fun _ _ _ _ _ => d) d (fun _ _ _ => d) d d (fun _ => d) (fun _ _ => d) (fun l _ => d) k () (fun _ _ _ _ => ()) v
theorem mB_true {v : AV} {k : Bool → Bool} {d : Bool} (h : mB v k d = true) : (∃ x, v = .bool x ∧ k x = true) ∨ d = true := by cases v <;> first | exact .inl ⟨_, rfl, h⟩ | exact .inr h
theorem mI_true {v : AV} {k : IntKind → Int → Bool} {d : Bool} (h : mI v k d = true) : (∃ t n, v = .int t n ∧ k t n = true) ∨ d = true := by cases v <;> first | exact .inl ⟨_, _, rfl, h⟩ | exact .inr h
theorem mS_true {v : AV} {k : List Nat → Bool} {d : Bool} (h : mS v k d = true) : (∃ s, v = .str s ∧ k s = true) ∨ d = true := by cases v <;> first | exact .inl ⟨_, rfl, h⟩ | exact .inr h
theorem mN_true {v : AV} {k d : Bool} (h : mN v k d = true) : (v = .nils ∧ k = true) ∨ d = true := by cases v <;> first | exact .inl ⟨rfl, h⟩ | exact .inr h
theorem mSl_true {v : AV} {k : Id → Nat → Nat → Nat → Bool} {d : Bool} (h : mSl v k d = true) : (∃ b i l r z ex, v = .sl b i l r z ex ∧ k b i l z = true) ∨ d = true := by cases v <;> first | exact .inl ⟨_, _, _, _, _, _, rfl, h⟩ | exact .inr h
theorem mA_true {v : AV} {k : List AV → Bool} {d : Bool} (h : mA v k d = true) : (∃ l, v = .agg l ∧ k l = true) ∨ d = true := by cases v <;> first | exact .inl ⟨_, rfl, h⟩ | exact .inr h
theorem mT_true {v : AV} {k : List AV → Bool} {d : Bool} (h : mT v k d = true) : (∃ l, v = .tup l ∧ k l = true) ∨ d = true := by cases v <;> first | exact .inl ⟨_, rfl, h⟩ | exact .inr h
theorem mY_true {v : AV} {k d : Bool} (h : mY v k d = true) : (v = .sym ∧ k = true) ∨ d = true := by cases v <;> first | exact .inl ⟨rfl, h⟩ | exact .inr h
/-- rows, one behind the other -/
noncomputable def flat (l : List (List AV)) : List AV := List.rec [] (fun r _ ih => app r ih) l
/-- n rows of z cells -/
noncomputable def chunk (z n : Nat) : List AV → List (List AV) := Nat.rec (fun _ => []) (fun _ ih l => tk z l :: ih (drp l z)) n
/-- a block's rows: to be written, too (own), or only to be read -/
noncomputable def rdB (own : Bool) (s : St) (b : Id) (k : Nat → List (List AV) → Bool) (d : Bool) : Bool := St.rec (fun h _ => H.rec d (fun o => Ob.rec (fun z l => k z l) (fun z l => Bool.rec (k z l) d own) (fun _ => d) (fun _ _ _ => d) o) (fun _ _ _ _ _ _ _ _ _ _ _ _ _ _ _ _ => d) (hget b h)) s
theorem rdB_true {own : Bool} {s : St} {b : Id} {k : Nat → List (List AV) → Bool} {d : Bool} (h : rdB own s b k d = true) : (∃ z l, (hget b (hp s) = .ob (.cells z l) ∨ own = false ∧ hget b (hp s) = .ob (.glob z l)) ∧ k z l = true) ∨ d = true := by
  obtain ⟨hh, n⟩ := s
  show (∃ z l, (hget b hh = _ ∨ own = false ∧ hget b hh = _) ∧ _) ∨ _
  have h : (H.rec d (fun o => Ob.rec (fun z l => k z l) (fun z l => Bool.rec (k z l) d own) (fun _ => d) (fun _ _ _ => d) o) (fun _ _ _ _ _ _ _ _ _ _ _ _ _ _ _ _ => d) (hget b hh) : Bool) = true := h
  cases hb : hget b hh with
  | e => rw [hb] at h; exact .inr h
  | nd => rw [hb] at h; exact .inr h
  | ob o =>
    rw [hb] at h
    cases o with
    | cells z l => exact .inl ⟨z, l, .inl rfl, h⟩
    | glob z l =>
      cases own with
      | true => exact .inr h
      | false => exact .inl ⟨z, l, .inr ⟨rfl, rfl⟩, h⟩
    | map _ => exact .inr h
    | iter _ _ _ => exact .inr h
/-- is this value told by the tree? -/
noncomputable def mt (own : Bool) (t : Tr) : AV → St → Bool → Bool → Bool := Tr.rec (motive_1 := fun _ => AV → St → Bool → Bool → Bool) (motive_2 := fun _ => List AV → St → Bool → Bool → Bool)
  (fun x v _ kt kf => mB v (fun y => Bool.rec kf kt (bq x y)) kf)
  (fun n v _ kt kf => mI v (fun t m => Bool.rec kf (Bool.rec kf kt (ieq n m)) (kq t .i64)) kf)
  (fun l v _ kt kf => mS v (fun m => Bool.rec kf kt (lbeq l m)) kf)
  (fun v _ kt kf => mN v kt kf)
  (fun z v s kt kf => mSl v (fun b _ l y => Bool.rec kf (Bool.rec kf (rdB own s b (fun _ _ => kt) kf) (Nat.beq l 0)) (Nat.beq y z)) kf)
  (fun z n _ ih v s kt kf => mSl v (fun b i m y => Bool.rec kf (Bool.rec kf (rdB own s b (fun _ rows => Bool.rec kf (ih (flat (tk n (drp rows i))) s kt kf) (has n (drp rows i))) kf) (Nat.beq m n)) (Nat.beq y z)) kf)
  (fun _ ih v s kt kf => mA v (fun m => ih m s kt kf) kf)
  (fun _ ih v s kt kf => mT v (fun m => ih m s kt kf) kf)
  (fun v _ kt kf => mY v kt kf)
  (fun m _ kt kf => List.rec kt (fun _ _ _ => kf) m)
  (fun _ _ ih1 ih2 m s kt kf => List.rec kf (fun v m _ => ih1 v s (ih2 m s kt kf) kf) m) t
noncomputable def mtL (own : Bool) (t : List Tr) : List AV → St → Bool → Bool → Bool := Tr.rec_1 (motive_1 := fun _ => AV → St → Bool → Bool → Bool) (motive_2 := fun _ => List AV → St → Bool → Bool → Bool)
  (fun x v _ kt kf => mB v (fun y => Bool.rec kf kt (bq x y)) kf)
  (fun n v _ kt kf => mI v (fun t m => Bool.rec kf (Bool.rec kf kt (ieq n m)) (kq t .i64)) kf)
  (fun l v _ kt kf => mS v (fun m => Bool.rec kf kt (lbeq l m)) kf)
  (fun v _ kt kf => mN v kt kf)
  (fun z v s kt kf => mSl v (fun b _ l y => Bool.rec kf (Bool.rec kf (rdB own s b (fun _ _ => kt) kf) (Nat.beq l 0)) (Nat.beq y z)) kf)
  (fun z n _ ih v s kt kf => mSl v (fun b i m y => Bool.rec kf (Bool.rec kf (rdB own s b (fun _ rows => Bool.rec kf (ih (flat (tk n (drp rows i))) s kt kf) (has n (drp rows i))) kf) (Nat.beq m n)) (Nat.beq y z)) kf)
  (fun _ ih v s kt kf => mA v (fun m => ih m s kt kf) kf)
  (fun _ ih v s kt kf => mT v (fun m => ih m s kt kf) kf)
  (fun v _ kt kf => mY v kt kf)
  (fun m _ kt kf => List.rec kt (fun _ _ _ => kf) m)
  (fun _ _ ih1 ih2 m s kt kf => List.rec kf (fun v m _ => ih1 v s (ih2 m s kt kf) kf) m) t
/-- a tree, laid into the memory: read alone -/
noncomputable def lay (t : Tr) : St → (AV → St → Bool) → Bool := Tr.rec (motive_1 := fun _ => St → (AV → St → Bool) → Bool) (motive_2 := fun _ => St → (List AV → St → Bool) → Bool)
  (fun x s k => k (.bool x) s) (fun n s k => k (.int .i64 n) s) (fun l s k => k (.str l) s) (fun s k => k .nils s)
  (fun z s k => newO (.glob z []) s fun b s => k (.sl b 0 0 0 z false) s)
  (fun z n _ ih s k => ih s fun l s => newO (.glob z (chunk z n l)) s fun b s => k (.sl b 0 n n z false) s)
  (fun _ ih s k => ih s fun l s => k (.agg l) s) (fun _ ih s k => ih s fun l s => k (.tup l) s) (fun s k => k .sym s)
  (fun s k => k [] s) (fun _ _ ih1 ih2 s k => ih1 s fun v s => ih2 s fun l s => k (v :: l) s) t
noncomputable def layL (t : List Tr) : St → (List AV → St → Bool) → Bool := Tr.rec_1 (motive_1 := fun _ => St → (AV → St → Bool) → Bool) (motive_2 := fun _ => St → (List AV → St → Bool) → Bool)
  (fun x s k => k (.bool x) s) (fun n s k => k (.int .i64 n) s) (fun l s k => k (.str l) s) (fun s k => k .nils s)
  (fun z s k => newO (.glob z []) s fun b s => k (.sl b 0 0 0 z false) s)
  (fun z n _ ih s k => ih s fun l s => newO (.glob z (chunk z n l)) s fun b s => k (.sl b 0 n n z false) s)
  (fun _ ih s k => ih s fun l s => k (.agg l) s) (fun _ ih s k => ih s fun l s => k (.tup l) s) (fun s k => k .sym s)
  (fun s k => k [] s) (fun _ _ ih1 ih2 s k => ih1 s fun v s => ih2 s fun l s => k (v :: l) s) t
variable [Luck]
/-- a value that a tree tells, in a world; its blocks from B on -/
inductive Deep (B : Nat) (w : World) : Tr → Value → Prop
  | b (x : Bool) : Deep B w (.b x) (.bool x)
  | i (n : Int) : Deep B w (.i n) (.int .i64 n)
  | s (s : ByteArray) : Deep B w (.s (s.data.toList.map (·.toNat))) (.string s)
  | n : Deep B w .n (.slice none 0 0)
  | e (z cap g sh : Nat) (ad : Addr) (cs : Array Value) (el : TypeId) : w.heap[g]? = some (.cells cs el (0, 0)) → B ≤ g → (cap ≠ 0 → ad = ⟨g, sh, none⟩) → sh + cap * z ≤ cs.size → Deep B w (.e z) (.slice (some ad) 0 cap)
  | r (z n cap g sh : Nat) (l : List Tr) (ad : Addr) (cs : Array Value) (el : TypeId) (x : Nat → Value) : w.heap[g]? = some (.cells cs el (0, 0)) → B ≤ g → (cap ≠ 0 → ad = ⟨g, sh, none⟩) → n ≤ cap → sh + cap * z ≤ cs.size → l.length = n * z →
      (∀ j : Nat, j < n * z → cs[sh + j]? = some (x j) ∧ (x j).oneCell' = true) → (∀ (j : Nat) (t : Tr), l[j]? = some t → Deep B w t (x j)) → Deep B w (.r z n l) (.slice (some ad) n cap)
  | a (l : List Tr) (xs : Array Value) : l.length = xs.size → (∀ (j : Nat) (t : Tr) (x : Value), l[j]? = some t → xs[j]? = some x → Deep B w t x) → (∀ x ∈ xs.toList, x.oneCell' = true) → Deep B w (.a l) (.agg xs)
  | t (l : List Tr) (xs : Array Value) : l.length = xs.size → (∀ (j : Nat) (t : Tr) (x : Value), l[j]? = some t → xs[j]? = some x → Deep B w t x) → Deep B w (.t l) (.tuple xs)
  | y : Deep B w .y (.int .i64 Luck.val)
theorem Deep.mono {B B' : Nat} {w w' : World} {t : Tr} {x : Value} (h : Deep B w t x) (hB : B' ≤ B) (hw : ∀ g, g < w.heap.size → w'.heap[g]? = w.heap[g]?) : Deep B' w' t x := by
  induction h with
  | b x => exact .b x
  | i n => exact .i n
  | s s => exact .s s
  | n => exact .n
  | e z cap g sh ad cs el h1 h2 h3 h4 => exact .e z cap g sh ad cs el ((hw g (Array.getElem?_eq_some_iff.1 h1).1).trans h1) (Nat.le_trans hB h2) h3 h4
  | r z n cap g sh l ad cs el x h1 h2 h3 h4 h5 h6 h7 h8 ih => exact .r z n cap g sh l ad cs el x ((hw g (Array.getElem?_eq_some_iff.1 h1).1).trans h1) (Nat.le_trans hB h2) h3 h4 h5 h6 h7 ih
  | a l xs h1 h2 h3 ih => exact .a l xs h1 ih h3
  | t l xs h1 h2 ih => exact .t l xs h1 ih
  | y => exact .y
def DeepL (B : Nat) (w : World) (l : List Tr) (xs : List Value) : Prop := l.length = xs.length ∧ ∀ (j : Nat) (t : Tr) (x : Value), l[j]? = some t → xs[j]? = some x → Deep B w t x
theorem DeepL.mono {B B' : Nat} {w w' : World} {l : List Tr} {xs : List Value} (h : DeepL B w l xs) (hB : B' ≤ B) (hw : ∀ g, g < w.heap.size → w'.heap[g]? = w.heap[g]?) : DeepL B' w' l xs := ⟨h.1, fun j t x a b => (h.2 j t x a b).mono hB hw⟩
theorem DeepL.nil {B : Nat} {w : World} : DeepL B w [] [] := ⟨rfl, fun j t x h => by simp at h⟩
theorem DeepL.cons {B : Nat} {w : World} {t : Tr} {x : Value} {l : List Tr} {xs : List Value} (h : Deep B w t x) (k : DeepL B w l xs) : DeepL B w (t :: l) (x :: xs) := ⟨by simp [k.1], fun j u y a b => by
  cases j with
  | zero => simp at a b; subst a; subst b; exact h
  | succ j => exact k.2 j u y (by simpa using a) (by simpa using b)⟩
theorem DeepL.inv {B : Nat} {w : World} {t : Tr} {l : List Tr} {ys : List Value} (h : DeepL B w (t :: l) ys) : ∃ x xs, ys = x :: xs ∧ Deep B w t x ∧ DeepL B w l xs := by
  obtain ⟨h1, h2⟩ := h
  cases ys with
  | nil => simp at h1
  | cons x xs => exact ⟨x, xs, rfl, h2 0 t x rfl rfl, by simpa using h1, fun j u y a b => h2 (j + 1) u y (by simpa using a) (by simpa using b)⟩
theorem flat_eq : ∀ l : List (List AV), flat l = l.flatten
  | [] => rfl
  | r :: l => by
    show app r (flat l) = _
    rw [app_eq, flat_eq l]; rfl
end X
/- Trees, looked for in the memory and laid into it: what that says of the world. Functions told by a table. -/
namespace X
open Go Go.RowKit
set_option linter.unusedVariables false
set_option linter.unusedSimpArgs false
set_option linter.unusedSectionVars false
variable [Luck]
variable {P : Program} {w0 w : World} {s : St} {μ : Mu}
def bdB (own : Bool) (w0 : World) : Nat := match own with
  | true => w0.heap.size
  | false => 0
theorem mtL_cons (own : Bool) (t : Tr) (l : List Tr) (m : List AV) (s : St) (kt kf : Bool) : mtL own (t :: l) m s kt kf = (List.rec kf (fun v m _ => mt own t v s (mtL own l m s kt kf) kf) m : Bool) := rfl
theorem mt_sound {own : Bool} (hr : R w0 s w μ) (t : Tr) : ∀ (v : AV) (x : Value) (kt kf : Bool), VRel μ v x → mt own t v s kt kf = true → (Deep (bdB own w0) w t x ∧ kt = true) ∨ kf = true := by
  refine Tr.rec (motive_1 := fun t => ∀ (v : AV) (x : Value) (kt kf : Bool), VRel μ v x → mt own t v s kt kf = true → (Deep (bdB own w0) w t x ∧ kt = true) ∨ kf = true)
    (motive_2 := fun l => ∀ (vs : List AV) (xs : List Value) (kt kf : Bool), VL μ vs xs → mtL own l vs s kt kf = true → (DeepL (bdB own w0) w l xs ∧ kt = true) ∨ kf = true) ?_ ?_ ?_ ?_ ?_ ?_ ?_ ?_ ?_ ?_ ?_ t
  · intro b v x kt kf hx h
    rcases mB_true (v := v) h with ⟨y, rfl, h1⟩ | h1
    · rcases brec_cases h1 with ⟨h2, h3⟩ | ⟨_, h3⟩
      · rw [bq_eq] at h2
        have h2 : b = y := by simpa using h2
        subst h2
        rw [bool_inv hx]; exact .inl ⟨.b b, h3⟩
      · exact .inr h3
    · exact .inr h1
  · intro n v x kt kf hx h
    rcases mI_true (v := v) h with ⟨t, m, rfl, h1⟩ | h1
    · rcases brec_cases h1 with ⟨h2, h3⟩ | ⟨_, h3⟩
      · obtain rfl := kq_true h2
        rcases brec_cases h3 with ⟨h4, h5⟩ | ⟨_, h5⟩
        · rw [ieq_eq] at h4
          have h4 := of_decide_eq_true h4
          subst h4
          rw [int_inv hx]; exact .inl ⟨.i n, h5⟩
        · exact .inr h5
      · exact .inr h3
    · exact .inr h1
  · intro l v x kt kf hx h
    rcases mS_true (v := v) h with ⟨m, rfl, h1⟩ | h1
    · rcases brec_cases h1 with ⟨h2, h3⟩ | ⟨_, h3⟩
      · rw [lbeq_eq] at h2
        have h2 := of_decide_eq_true h2
        subst h2
        obtain ⟨b, rfl, rfl⟩ := str_inv hx
        exact .inl ⟨.s b, h3⟩
      · exact .inr h3
    · exact .inr h1
  · intro v x kt kf hx h
    rcases mN_true (v := v) h with ⟨rfl, h1⟩ | h1
    · rw [nils_inv hx]; exact .inl ⟨.n, h1⟩
    · exact .inr h1
  · intro z v x kt kf hx h
    rcases mSl_true (v := v) h with ⟨b, i, l, r, y, ex, rfl, h1⟩ | h1
    · rcases brec_cases h1 with ⟨h2, h3⟩ | ⟨_, h3⟩
      · obtain rfl := neq_true h2
        rcases brec_cases h3 with ⟨h4, h5⟩ | ⟨_, h5⟩
        · obtain rfl := neq_true h4
          rcases rdB_true h5 with ⟨z', rows, hb, h6⟩ | h6
          · obtain ⟨p, ad, cap, rfl, hp', hpz, hrc, hex, hlr, had, hsz⟩ := sl_inv hx
            have hcl := hr.cl (hb.imp id (·.2)) hp'
            obtain ⟨_, _, _, cs, el, hcs, hcsz, _⟩ := hcl
            subst hpz
            refine .inl ⟨.e p.z cap p.g (p.sh + i * p.z) ad cs el hcs ?_ had ?_, h6⟩
            · cases own with
              | false => exact Nat.zero_le _
              | true =>
                rcases hb with hb | ⟨hb, _⟩
                · exact (hr.ob b _ p hb hp').2
                · cases hb
            · rw [hcsz]
              have : (i + cap) * p.z = i * p.z + cap * p.z := Nat.add_mul _ _ _
              omega
          · exact .inr h6
        · exact .inr h5
      · exact .inr h3
    · exact .inr h1
  · intro z n l ih v x kt kf hx h
    rcases mSl_true (v := v) h with ⟨b, i, m, r, y, ex, rfl, h1⟩ | h1
    · rcases brec_cases h1 with ⟨h2, h3⟩ | ⟨_, h3⟩
      · obtain rfl := neq_true h2
        rcases brec_cases h3 with ⟨h4, h5⟩ | ⟨_, h5⟩
        · obtain rfl := neq_true h4
          rcases rdB_true h5 with ⟨z', rows, hb, h6⟩ | h6
          · rcases brec_cases h6 with ⟨h7, h8⟩ | ⟨_, h8⟩
            · obtain ⟨p, ad, cap, rfl, hp', hpz, hrc, hex, hlr, had, hsz⟩ := sl_inv hx
              have hcl := hr.cl (hb.imp id (·.2)) hp'
              have h7 := has_true h7
              rw [drp_eq] at h7 h8
              rw [tk_eq, flat_eq] at h8
              simp at h7
              have hfl : ∃ xs : List Value, VC μ ((rows.drop i).take m).flatten xs ∧ xs.length = m * p.z ∧ ∀ (q : Nat) (x : Value), xs[q]? = some x → w.cell? ⟨p.g, p.sh + i * p.z + q, none⟩ = some x := by
                rcases Nat.eq_zero_or_pos m with e | e
                · subst e; exact ⟨[], by simpa using VC.nil, by simp, fun q x hq => by simp at hq⟩
                · exact hcl.flat (by omega)
              obtain ⟨xs, hvc, hxl, hxc⟩ := hfl
              rcases ih _ xs kt kf hvc.1 h8 with ⟨h9, h10⟩ | h9
              · obtain ⟨_, _, _, cs, el, hcs, hcsz, _⟩ := hcl
                subst hpz
                refine .inl ⟨.r p.z m cap p.g (p.sh + i * p.z) l ad cs el (fun j => xs.getD j undef) hcs ?_ had (by omega) ?_ (by rw [h9.1, hxl]) (fun j hj => ?_) (fun j t hj => ?_), h10⟩
                · cases own with
                  | false => exact Nat.zero_le _
                  | true =>
                    rcases hb with hb | ⟨hb, _⟩
                    · exact (hr.ob b _ p hb hp').2
                    · cases hb
                · rw [hcsz]
                  have : (i + cap) * p.z = i * p.z + cap * p.z := Nat.add_mul _ _ _
                  omega
                · have hjx : j < xs.length := by omega
                  have e1 : xs[j]? = some xs[j] := List.getElem?_eq_getElem hjx
                  have h11 := hxc j _ e1
                  have e2 : xs.getD j undef = xs[j] := by simp [List.getD, e1]
                  rw [e2]
                  refine ⟨?_, hvc.2 _ (List.getElem_mem hjx)⟩
                  unfold World.cell? at h11
                  simp only [hcs] at h11
                  simpa using h11
                · have hjx : j < xs.length := by rw [← h9.1]; exact (List.getElem?_eq_some_iff.1 hj).1
                  have e1 : xs[j]? = some xs[j] := List.getElem?_eq_getElem hjx
                  have e2 : xs.getD j undef = xs[j] := by simp [List.getD, e1]
                  rw [e2]
                  exact h9.2 j t _ hj e1
              · exact .inr h9
            · exact .inr h8
          · exact .inr h6
        · exact .inr h5
      · exact .inr h3
    · exact .inr h1
  · intro l ih v x kt kf hx h
    rcases mA_true (v := v) h with ⟨m, rfl, h1⟩ | h1
    · obtain ⟨xs, rfl, hvc⟩ := hx.agg_inv
      rcases ih m xs.toList kt kf hvc.1 h1 with ⟨h2, h3⟩ | h2
      · exact .inl ⟨.a l xs (by simpa using h2.1) (fun j t x a b => h2.2 j t x a (by simpa using b)) hvc.2, h3⟩
      · exact .inr h2
    · exact .inr h1
  · intro l ih v x kt kf hx h
    rcases mT_true (v := v) h with ⟨m, rfl, h1⟩ | h1
    · obtain ⟨xs, rfl, hvl⟩ := hx.tup_inv
      rcases ih m xs.toList kt kf hvl h1 with ⟨h2, h3⟩ | h2
      · exact .inl ⟨.t l xs (by simpa using h2.1) (fun j t x a b => h2.2 j t x a (by simpa using b)), h3⟩
      · exact .inr h2
    · exact .inr h1
  · intro v x kt kf hx h
    rcases mY_true (v := v) h with ⟨rfl, h1⟩ | h1
    · cases hx; exact .inl ⟨.y, h1⟩
    · exact .inr h1
  · intro vs xs kt kf hv h
    cases vs with
    | nil => rw [hv.inv_nil]; exact .inl ⟨DeepL.nil, h⟩
    | cons v vs => exact .inr h
  · intro t l ih1 ih2 vs xs kt kf hv h
    cases vs with
    | nil => exact .inr h
    | cons v vs =>
      obtain ⟨x, xs, rfl, hx, hxs⟩ := hv.inv
      rcases ih1 v x _ kf hx (show mt own t v s (mtL own l vs s kt kf) kf = true from h) with ⟨h1, h2⟩ | h1
      · rcases ih2 vs xs kt kf hxs h2 with ⟨h3, h4⟩ | h3
        · exact .inl ⟨DeepL.cons h1 h3, h4⟩
        · exact .inr h3
      · exact .inr h1
/-- a block of the world, seen from now on: to be read alone -/
theorem R.see (h : R w0 s w μ) {z : Nat} {rows : List (List AV)} {m : Id} (hm : m.n = (nx s).n + 1) (p : Pl) (hpg : p.g < w.heap.size) (hno : ∀ b o q, hget b (hp s) = .ob o → isGlob o = false → μ b = some q → q.g ≠ p.g) (hcl : Cl (setM μ (nx s) p) w p z rows) :
    R w0 (.mk (hset (nx s) (.ob (.glob z rows)) (hp s)) m) w (setM μ (nx s) p) := by
  have hle : MLe μ (setM μ (nx s) p) := h.mle (MX.set h p)
  have hne : ∀ b : Id, b ≠ nx s → setM μ (nx s) p b = μ b := fun b hb => by simp [setM, hb]
  have hold : ∀ b o, b ≠ nx s → hget b (hset (nx s) (.ob (.glob z rows)) (hp s)) = .ob o → hget b (hp s) = .ob o := fun b o hb hh => by rwa [hget_hset_ne _ _ hb] at hh
  refine ⟨h.ext, fun b hb => ?_, fun b o q ho hq => ?_, fun b b' o o' q q' ho hg ho' hq hq' hgg => ?_, fun b q hq => ?_, fun b hb o hh => ?_, h.tb⟩
  · have hb' : m.n ≤ b.n := hb
    rw [hne b (fun e => by rw [e] at hb'; omega)]; exact h.nxt b (by omega)
  · by_cases e : b = nx s
    · subst e
      have ho : hget (nx s) (hset (nx s) (.ob (.glob z rows)) (hp s)) = .ob o := ho
      rw [hget_hset] at ho; cases ho
      rw [setM_same] at hq; cases hq
      exact hcl
    · rw [hne b e] at hq
      exact (h.ob b o q (hold b o e ho) hq).mono hle rfl
  · by_cases e : b = nx s
    · subst e
      have ho : hget (nx s) (hset (nx s) (.ob (.glob z rows)) (hp s)) = .ob o := ho
      rw [hget_hset] at ho; cases ho
      cases hg
    · rw [hne b e] at hq
      by_cases e' : b' = nx s
      · subst e'
        rw [setM_same] at hq'; cases hq'
        exact absurd hgg (hno b o q (hold b o e ho) hg hq)
      · rw [hne b' e'] at hq'
        exact h.inj b b' o o' q q' (hold b o e ho) hg (hold b' o' e' ho') hq hq' hgg
  · by_cases e : b = nx s
    · subst e; rw [setM_same] at hq; cases hq; exact hpg
    · rw [hne b e] at hq; exact h.bd b q hq
  · have hb' : m.n ≤ b.n := hb
    exact h.fr b (by omega) o (hold b o (fun e => by rw [e] at hb'; omega) hh)
/-- no block that may be written lies from B on -/
def Lo (B : Nat) (s : St) (μ : Mu) : Prop := ∀ b o q, hget b (hp s) = .ob o → isGlob o = false → μ b = some q → q.g < B
theorem chunk_flat : ∀ {z n : Nat} {l : List AV}, l.length = n * z → (chunk z n l).flatten = l ∧ (chunk z n l).length = n ∧ ∀ r ∈ chunk z n l, r.length = z
  | z, 0, l, h => by
    have : l = [] := List.eq_nil_of_length_eq_zero (by simpa using h)
    subst this
    exact ⟨rfl, rfl, fun r hr => by cases hr⟩
  | z, n + 1, l, h => by
    have h1 : l.length = z + n * z := by rw [h, Nat.add_mul]; omega
    have e : chunk z (n + 1) l = l.take z :: chunk z n (l.drop z) := by
      show tk z l :: chunk z n (drp l z) = _
      rw [tk_eq, drp_eq]
    obtain ⟨a, b, c⟩ := chunk_flat (z := z) (n := n) (l := l.drop z) (by simp; omega)
    rw [e]
    refine ⟨by simp [a], by simp [b], fun r hr => ?_⟩
    rcases List.mem_cons.1 hr with rfl | hr
    · simp; omega
    · exact c r hr
theorem lay_sound {B : Nat} (t : Tr) : ∀ {s : St} {μ : Mu} {x : Value} {k : AV → St → Bool}, R w0 s w μ → Lo B s μ → Deep B w t x → lay t s k = true → ∃ v s' μ', k v s' = true ∧ (nx s).n ≤ (nx s').n ∧ MX (nx s) μ μ' ∧ VRel μ' v x ∧ R w0 s' w μ' ∧ Lo B s' μ' := by
  refine Tr.rec (motive_1 := fun t => ∀ {s : St} {μ : Mu} {x : Value} {k : AV → St → Bool}, R w0 s w μ → Lo B s μ → Deep B w t x → lay t s k = true → ∃ v s' μ', k v s' = true ∧ (nx s).n ≤ (nx s').n ∧ MX (nx s) μ μ' ∧ VRel μ' v x ∧ R w0 s' w μ' ∧ Lo B s' μ')
    (motive_2 := fun l => ∀ {s : St} {μ : Mu} {xs : List Value} {k : List AV → St → Bool}, R w0 s w μ → Lo B s μ → DeepL B w l xs → layL l s k = true → ∃ vs s' μ', k vs s' = true ∧ (nx s).n ≤ (nx s').n ∧ MX (nx s) μ μ' ∧ VL μ' vs xs ∧ R w0 s' w μ' ∧ Lo B s' μ') ?_ ?_ ?_ ?_ ?_ ?_ ?_ ?_ ?_ ?_ ?_ t
  · intro b s μ x k hr hL hd h
    cases hd; exact ⟨_, s, μ, h, Nat.le_refl _, MX.rfl', .bool b, hr, hL⟩
  · intro n s μ x k hr hL hd h
    cases hd; exact ⟨_, s, μ, h, Nat.le_refl _, MX.rfl', .int _ n, hr, hL⟩
  · intro l s μ x k hr hL hd h
    cases hd; exact ⟨_, s, μ, h, Nat.le_refl _, MX.rfl', .str _, hr, hL⟩
  · intro s μ x k hr hL hd h
    cases hd; exact ⟨_, s, μ, h, Nat.le_refl _, MX.rfl', .nils, hr, hL⟩
  · intro z s μ x k hr hL hd h
    cases hd with
    | e z cap g sh ad cs el h1 h2 h3 h4 =>
      obtain ⟨m, hm, hk⟩ := newO_true (show newO (.glob z []) s (fun b s => k (.sl b 0 0 0 z false) s) = true from h)
      let p : Pl := ⟨g, sh, z, cs.size⟩
      have hR := hr.see (z := z) (rows := []) hm p (Array.getElem?_eq_some_iff.1 h1).1 (fun b o q a b' c => by have := hL b o q a b' c; show q.g ≠ g; omega) (Cl.mk_flat (xs := []) (cs := cs) (el := el) rfl (fun r hr => by cases hr) (by
        show sh + 0 * z ≤ cs.size
        rw [Nat.zero_mul]; omega) h1 rfl VC.nil (fun q x hq => by simp at hq))
      refine ⟨_, _, _, hk, by show _ ≤ m.n; omega, MX.set hr p, .sl (nx s) 0 0 0 z false p ad cap (setM_same _ _ _) rfl (Nat.zero_le _) (fun e => by cases e) (Nat.le_refl _) (fun hc => by rw [h3 hc]; simp [p]) (by simpa [p] using h4), hR, fun b o q hb hg hq => ?_⟩
      by_cases e : b = nx s
      · subst e
        have hb : hget (nx s) (hset (nx s) (.ob (.glob z [])) (hp s)) = .ob o := hb
        rw [hget_hset] at hb; cases hb; cases hg
      · have hb : hget b (hset (nx s) (.ob (.glob z [])) (hp s)) = .ob o := hb
        rw [hget_hset_ne _ _ e] at hb
        exact hL b o q hb hg (by simpa [setM, e] using hq)
  · intro z n l ih s μ x k hr hL hd h
    cases hd with
    | r z n cap g sh l ad cs el xf h1 h2 h3 h4 h5 h6 h7 h8 =>
      have hdl : DeepL B w l ((List.range (n * z)).map xf) := ⟨by simp [h6], fun j t x a b => by
        simp only [List.getElem?_map, Option.map_eq_some_iff] at b
        obtain ⟨q, hq, rfl⟩ := b
        have : q = j := by
          have := (List.getElem?_eq_some_iff.1 hq).2
          simpa using this.symm
        subst this
        exact h8 q t a⟩
      obtain ⟨vs, s1, μ1, hk1, hn1, hX1, hv1, hR1, hL1⟩ := ih (k := fun l s => newO (.glob z (chunk z n l)) s fun b s => k (.sl b 0 n n z false) s) hr hL hdl h
      obtain ⟨m, hm, hk⟩ := newO_true hk1
      have hvl : vs.length = n * z := by rw [hv1.1]; simp
      obtain ⟨c1, c2, c3⟩ := chunk_flat hvl
      let p : Pl := ⟨g, sh, z, cs.size⟩
      have hmul : n * z ≤ cap * z := Nat.mul_le_mul_right _ h4
      have hle1 : MLe μ1 (setM μ1 (nx s1) p) := hR1.mle (MX.set hR1 p)
      have hR := hR1.see (z := z) (rows := chunk z n vs) hm p (Array.getElem?_eq_some_iff.1 h1).1 (fun b o q a b' c => by have := hL1 b o q a b' c; show q.g ≠ g; omega) (Cl.mk_flat (xs := (List.range (n * z)).map xf) (cs := cs) (el := el) rfl c3 (by
        show sh + (chunk z n vs).length * z ≤ cs.size
        rw [c2]; omega) h1 rfl (by
        rw [c1]
        exact ⟨hv1.mono hle1, fun x hx => by
          obtain ⟨q, hq, rfl⟩ := List.mem_map.1 hx
          exact (h7 q (by simpa using hq)).2⟩) (fun q x hq => by
        simp only [List.getElem?_map, Option.map_eq_some_iff] at hq
        obtain ⟨j, hj, rfl⟩ := hq
        have hj1 := List.getElem?_eq_some_iff.1 hj
        obtain ⟨hj2, hj3⟩ := hj1
        have : j = q := by simpa using hj3.symm
        subst this
        exact (h7 j (by simpa using hj2)).1))
      refine ⟨_, _, _, hk, by show _ ≤ m.n; omega, hX1.tr hn1 (MX.set hR1 p), .sl (nx s1) 0 n n z false p ad cap (setM_same _ _ _) rfl h4 (fun e => by cases e) (Nat.le_refl _) (fun hc => by rw [h3 hc]; simp [p]) (by simpa [p] using h5), hR, fun b o q hb hg hq => ?_⟩
      by_cases e : b = nx s1
      · subst e
        have hb : hget (nx s1) (hset (nx s1) (.ob (.glob z (chunk z n vs))) (hp s1)) = .ob o := hb
        rw [hget_hset] at hb; cases hb; cases hg
      · have hb : hget b (hset (nx s1) (.ob (.glob z (chunk z n vs))) (hp s1)) = .ob o := hb
        rw [hget_hset_ne _ _ e] at hb
        exact hL1 b o q hb hg (by simpa [setM, e] using hq)
  · intro l ih s μ x k hr hL hd h
    cases hd with
    | a l xs h1 h2 h3 =>
      obtain ⟨vs, s1, μ1, hk1, hn1, hX1, hv1, hR1, hL1⟩ := ih (k := fun l s => k (.agg l) s) (xs := xs.toList) hr hL ⟨by simpa using h1, fun j t x a b => h2 j t x a (by simpa using b)⟩ h
      exact ⟨_, s1, μ1, hk1, hn1, hX1, (VC.agg ⟨hv1, h3⟩), hR1, hL1⟩
  · intro l ih s μ x k hr hL hd h
    cases hd with
    | t l xs h1 h2 =>
      obtain ⟨vs, s1, μ1, hk1, hn1, hX1, hv1, hR1, hL1⟩ := ih (k := fun l s => k (.tup l) s) (xs := xs.toList) hr hL ⟨by simpa using h1, fun j t x a b => h2 j t x a (by simpa using b)⟩ h
      exact ⟨_, s1, μ1, hk1, hn1, hX1, hv1.tup, hR1, hL1⟩
  · intro s μ x k hr hL hd h
    cases hd; exact ⟨_, s, μ, h, Nat.le_refl _, MX.rfl', .sym, hr, hL⟩
  · intro s μ xs k hr hL hd h
    have : xs = [] := List.eq_nil_of_length_eq_zero (by simpa using hd.1.symm)
    subst this
    exact ⟨[], s, μ, h, Nat.le_refl _, MX.rfl', VL.nil, hr, hL⟩
  · intro t l ih1 ih2 s μ xs k hr hL hd h
    obtain ⟨x, xs, rfl, hdx, hdl⟩ := hd.inv
    obtain ⟨v, s1, μ1, hk1, hn1, hX1, hv1, hR1, hL1⟩ := ih1 (k := fun v s => layL l s fun l s => k (v :: l) s) hr hL hdx h
    obtain ⟨vs, s2, μ2, hk2, hn2, hX2, hv2, hR2, hL2⟩ := ih2 (k := fun l s => k (v :: l) s) hR1 hL1 hdl hk1
    exact ⟨_, s2, μ2, hk2, Nat.le_trans hn1 hn2, hX1.tr hn1 hX2, VL.cons (hv1.mono (hR1.mle hX2)) hv2, hR2, hL2⟩
end X
/- Functions told by a table of trees, each of its entries run once. -/
namespace X
open Go Go.RowKit
set_option linter.unusedVariables false
set_option linter.unusedSimpArgs false
set_option linter.unusedSectionVars false
variable [Luck]
variable {P : Program} {w0 w : World} {s : St} {μ : Mu}
def TabOk (w : World) : Prop := ∀ p ∈ Luck.tab, w.heap[p.1]? = some p.2
theorem R.tab (h : R w0 s w μ) : TabOk w := fun p hp => by
  have h1 := h.tb p hp
  have h2 := (Array.getElem?_eq_some_iff.1 h1).1
  rw [← h1]
  exact h.ext.block p.1 h2
theorem TabOk.below (h : TabOk w) {w' : World} (hb : Below w.heap.size w w') : TabOk w' := fun p hp => by
  have h1 := h p hp
  rw [← h1]
  exact hb.block p.1 (Array.getElem?_eq_some_iff.1 h1).1
theorem R.below (h : R w0 s w μ) {w' : World} (hb : Below w.heap.size w w') : R w0 s w' μ := by
  have hs := h.ext.size
  refine ⟨h.ext.trans ⟨hb.os, hb.tape, hb.output, hb.size, fun k hk => hb.block k (by omega)⟩, h.nxt, fun b o p ho hp' => (h.ob b o p ho hp').mono MLe.rfl' (hb.block _ (h.bd b p hp')), h.inj, fun b p hp' => Nat.lt_of_lt_of_le (h.bd b p hp') hb.size, h.fr, h.tb⟩
theorem mtL_sound {own : Bool} (hr : R w0 s w μ) {l : List Tr} {vs : List AV} {xs : List Value} {kt kf : Bool} (hv : VL μ vs xs) (h : mtL own l vs s kt kf = true) : (DeepL (bdB own w0) w l xs ∧ kt = true) ∨ kf = true := by
  rcases mt_sound (own := own) hr (.t l) (.tup vs) (.tuple xs.toArray) kt kf hv.tup h with ⟨h1, h2⟩ | h1
  · cases h1 with
    | t l xs' a b => exact .inl ⟨⟨by simpa using a, fun j t x c d => b j t x c (by simpa using d)⟩, h2⟩
  · exact .inr h1
theorem layL_sound {B : Nat} {l : List Tr} {xs : List Value} {k : List AV → St → Bool} (hr : R w0 s w μ) (hL : Lo B s μ) (hd : DeepL B w l xs) (h : layL l s k = true) : ∃ vs s' μ', k vs s' = true ∧ (nx s).n ≤ (nx s').n ∧ MX (nx s) μ μ' ∧ VL μ' vs xs ∧ R w0 s' w μ' ∧ Lo B s' μ' := by
  obtain ⟨v, s', μ', h1, h2, h3, h4, h5, h6⟩ := lay_sound (B := B) (.t l) (x := .tuple xs.toArray) (k := fun v s => match v with | .tup l => k l s | _ => false) hr hL (.t l _ (by simpa using hd.1) (fun j t x a b => hd.2 j t x a (by simpa using b))) h
  cases v with
  | tup vs =>
    obtain ⟨ys, e, hv⟩ := h4.tup_inv
    cases e
    exact ⟨vs, s', μ', h1, h2, h3, by simpa using hv, h5, h6⟩
  | _ => cases h1
/-- an entry: called with what these trees tell, the function returns what this tree tells, in blocks of its own -/
def Ent (P : Program) (f : Nat) (ts : List Tr) (t : Tr) : Prop := ∀ (w : World) (xs : Array Value), TabOk w → DeepL 0 w ts xs.toList → outR P (fun y w' => Deep w.heap.size w' t y ∧ Below w.heap.size w w') ((callFunc f xs).run P w)
noncomputable def memoF (tab : List (List Tr × Tr)) : Fn := fun as s k => List.rec false (fun p _ ih => Prod.rec (fun ts t => mtL false ts as s (lay t s k) ih) p) tab
theorem snd_memo {f : Nat} : ∀ {tab : List (List Tr × Tr)}, (∀ p ∈ tab, Ent P f p.1 p.2) → Snd P f (memoF tab)
  | [], _, as, s, k, h => by cases h
  | (ts, t) :: tab, hE, as, s, k, h => fun w0 w μ xs hr hv g0 g2 => by
    rcases mtL_sound hr hv (show mtL false ts as s (lay t s k) (memoF tab as s k) = true from h) with ⟨h1, h2⟩ | h1
    · refine outR_mono (fun y w' ⟨a, b⟩ => ?_) (hE (ts, t) (by simp) w xs hr.tab h1)
      obtain ⟨v, s', μ', c1, c2, c3, c4, c5, c6⟩ := lay_sound (B := w.heap.size) t (hr.below b) (fun b o q _ _ hq => hr.bd b q hq) a h2
      exact ⟨v, s', μ', c2, c1, c3, c4, c5⟩
    · exact snd_memo (fun p hp => hE p (List.mem_cons_of_mem _ hp)) as s k h1 w0 w μ xs hr hv g0 g2
/-- a state of the tables alone -/
structure Start (S : St) : Prop where
  r : ∀ w, TabOk w → ∃ μ, R w S w μ ∧ (∃ p, μ (gl 0) = some p ∧ p.g = 0 ∧ p.sh = 0) ∧ ∃ p, μ (gl 2) = some p ∧ p.g = 2 ∧ p.sh = 0
  lo : ∀ b o, hget b (hp S) = .ob o → isGlob o = true
/-- an entry, run -/
theorem ent_run {f : Nat} {F : Fn} (hF : Snd P f F) {S : St} (hS : Start S) {ts : List Tr} {t : Tr} (h : layL ts S (fun vs s => F vs s fun v s' => mt true t v s' true false) = true) : Ent P f ts t := fun w xs hT hd => by
  obtain ⟨μ, hr, ⟨p0, g0, g0'⟩, ⟨p2, g2, g2'⟩⟩ := hS.r w hT
  obtain ⟨vs, s', μ', h1, h2, h3, h4, h5, h6⟩ := layL_sound (B := 0) hr (fun b o q hb hg _ => by rw [hS.lo b o hb] at hg; cases hg) hd h
  have hle := hr.mle h3
  refine outR_mono (fun y w' ⟨v, s'', μ'', _, c1, _, c2, c3⟩ => ?_) (hF vs s' _ h1 w w μ' xs h5 h4 ⟨p0, hle _ _ g0, g0'⟩ ⟨p2, hle _ _ g2, g2'⟩)
  rcases mt_sound (own := true) c3 t v y true false c2 c1 with ⟨d1, _⟩ | d1
  · exact ⟨d1, c3.ext⟩
  · cases d1
end X
/- The unknown int of one world, known in another. -/
namespace X
open Go Go.RowKit
set_option linter.unusedVariables false
set_option linter.unusedSectionVars false
/-- the unknown int is k -/
noncomputable def sb (k : Int) (t : Tr) : Tr := Tr.rec (motive_1 := fun _ => Tr) (motive_2 := fun _ => List Tr) Tr.b Tr.i Tr.s Tr.n Tr.e (fun z n _ ih => .r z n ih) (fun _ ih => .a ih) (fun _ ih => .t ih) (.i k) [] (fun _ _ a b => a :: b) t
noncomputable def sbL (k : Int) (t : List Tr) : List Tr := Tr.rec_1 (motive_1 := fun _ => Tr) (motive_2 := fun _ => List Tr) Tr.b Tr.i Tr.s Tr.n Tr.e (fun z n _ ih => .r z n ih) (fun _ ih => .a ih) (fun _ ih => .t ih) (.i k) [] (fun _ _ a b => a :: b) t
noncomputable def sbE (k : Int) (p : List Tr × Tr) : List Tr × Tr := (sbL k p.1, sb k p.2)
theorem deep_sb (L : Luck) (k : Int) {B : Nat} {w : World} (t : Tr) : ∀ x, @Deep ⟨k, L.tab⟩ B w t x ↔ @Deep L B w (sb k t) x := by
  refine Tr.rec (motive_1 := fun t => ∀ x, @Deep ⟨k, L.tab⟩ B w t x ↔ @Deep L B w (sb k t) x)
    (motive_2 := fun l => (sbL k l).length = l.length ∧ ∀ (j : Nat) (t u : Tr), l[j]? = some t → (sbL k l)[j]? = some u → ∀ x, @Deep ⟨k, L.tab⟩ B w t x ↔ @Deep L B w u x) ?_ ?_ ?_ ?_ ?_ ?_ ?_ ?_ ?_ ?_ ?_ t
  · intro b x; exact ⟨fun h => by cases h; exact .b b, fun h => by cases h; exact @Deep.b ⟨k, L.tab⟩ _ _ _⟩
  · intro b x; exact ⟨fun h => by cases h; exact .i b, fun h => by cases h; exact @Deep.i ⟨k, L.tab⟩ _ _ _⟩
  · intro b x; exact ⟨fun h => by cases h; exact .s _, fun h => by cases h; exact @Deep.s ⟨k, L.tab⟩ _ _ _⟩
  · intro x; exact ⟨fun h => by cases h; exact .n, fun h => by cases h; exact @Deep.n ⟨k, L.tab⟩ _ _⟩
  · intro z x
    exact ⟨fun h => by cases h with | e z cap g sh ad cs el h1 h2 h3 h4 => exact .e z cap g sh ad cs el h1 h2 h3 h4, fun h => by cases h with | e z cap g sh ad cs el h1 h2 h3 h4 => exact @Deep.e ⟨k, L.tab⟩ _ _ z cap g sh ad cs el h1 h2 h3 h4⟩
  · intro z n l ih x
    have e : sb k (.r z n l) = .r z n (sbL k l) := rfl
    rw [e]
    constructor
    · intro h
      cases h with
      | r z n cap g sh l ad cs el xf h1 h2 h3 h4 h5 h6 h7 h8 =>
        refine .r z n cap g sh _ ad cs el xf h1 h2 h3 h4 h5 (ih.1.trans h6) h7 fun j u hu => ?_
        have hj : j < l.length := by rw [← ih.1]; exact (List.getElem?_eq_some_iff.1 hu).1
        exact (ih.2 j _ u (List.getElem?_eq_getElem hj) hu _).1 (h8 j _ (List.getElem?_eq_getElem hj))
    · intro h
      cases h with
      | r z n cap g sh l' ad cs el xf h1 h2 h3 h4 h5 h6 h7 h8 =>
        refine @Deep.r ⟨k, L.tab⟩ _ _ z n cap g sh _ ad cs el xf h1 h2 h3 h4 h5 (ih.1.symm.trans h6) h7 fun j u hu => ?_
        have hj : j < (sbL k l).length := by rw [ih.1]; exact (List.getElem?_eq_some_iff.1 hu).1
        exact (ih.2 j u _ hu (List.getElem?_eq_getElem hj) _).2 (h8 j _ (List.getElem?_eq_getElem hj))
  · intro l ih x
    have e : sb k (.a l) = .a (sbL k l) := rfl
    rw [e]
    constructor
    · intro h
      cases h with
      | a l xs h1 h2 h3 =>
        refine .a _ xs (ih.1.trans h1) (fun j u y hu hy => ?_) h3
        have hj : j < l.length := by rw [← ih.1]; exact (List.getElem?_eq_some_iff.1 hu).1
        exact (ih.2 j _ u (List.getElem?_eq_getElem hj) hu _).1 (h2 j _ y (List.getElem?_eq_getElem hj) hy)
    · intro h
      cases h with
      | a l' xs h1 h2 h3 =>
        refine @Deep.a ⟨k, L.tab⟩ _ _ _ xs (ih.1.symm.trans h1) (fun j u y hu hy => ?_) h3
        have hj : j < (sbL k l).length := by rw [ih.1]; exact (List.getElem?_eq_some_iff.1 hu).1
        exact (ih.2 j u _ hu (List.getElem?_eq_getElem hj) _).2 (h2 j _ y (List.getElem?_eq_getElem hj) hy)
  · intro l ih x
    have e : sb k (.t l) = .t (sbL k l) := rfl
    rw [e]
    constructor
    · intro h
      cases h with
      | t l xs h1 h2 =>
        refine .t _ xs (ih.1.trans h1) (fun j u y hu hy => ?_)
        have hj : j < l.length := by rw [← ih.1]; exact (List.getElem?_eq_some_iff.1 hu).1
        exact (ih.2 j _ u (List.getElem?_eq_getElem hj) hu _).1 (h2 j _ y (List.getElem?_eq_getElem hj) hy)
    · intro h
      cases h with
      | t l' xs h1 h2 =>
        refine @Deep.t ⟨k, L.tab⟩ _ _ _ xs (ih.1.symm.trans h1) (fun j u y hu hy => ?_)
        have hj : j < (sbL k l).length := by rw [ih.1]; exact (List.getElem?_eq_some_iff.1 hu).1
        exact (ih.2 j u _ hu (List.getElem?_eq_getElem hj) _).2 (h2 j _ y (List.getElem?_eq_getElem hj) hy)
  · intro x; exact ⟨fun h => by cases h; exact .i k, fun h => by cases h; exact @Deep.y ⟨k, L.tab⟩ B w⟩
  · exact ⟨rfl, fun j t u h => by simp at h⟩
  · intro t l ih1 ih2
    have e : sbL k (t :: l) = sb k t :: sbL k l := rfl
    rw [e]
    refine ⟨by simp [ih2.1], fun j u v hu hv => ?_⟩
    cases j with
    | zero => simp at hu hv; subst hu; subst hv; exact ih1
    | succ j => exact ih2.2 j u v (by simpa using hu) (by simpa using hv)
theorem sbL_map (k : Int) : ∀ l : List Tr, sbL k l = l.map (sb k)
  | [] => rfl
  | t :: l => by show sb k t :: sbL k l = _; rw [sbL_map k l]; rfl
theorem deepL_sb (L : Luck) (k : Int) {B : Nat} {w : World} (l : List Tr) (xs : List Value) : @DeepL ⟨k, L.tab⟩ B w l xs ↔ @DeepL L B w (sbL k l) xs := by
  rw [sbL_map]
  constructor
  · intro h
    refine ⟨by simpa using h.1, fun j t x ht hx => ?_⟩
    simp only [List.getElem?_map, Option.map_eq_some_iff] at ht
    obtain ⟨u, hu, rfl⟩ := ht
    exact (deep_sb L k u x).1 (h.2 j u x hu hx)
  · intro h
    refine ⟨by simpa using h.1, fun j t x ht hx => (deep_sb L k t x).2 (h.2 j _ x (by simp [ht]) hx)⟩
/-- what is so at every int is so at this one -/
theorem ent_sb (L : Luck) (k : Int) {P : Program} {f : Nat} {ts : List Tr} {t : Tr} : @Ent ⟨k, L.tab⟩ P f ts t ↔ @Ent L P f (sbL k ts) (sb k t) :=
  ⟨fun h w xs hT hd => outR_mono (fun y w' ⟨a, b⟩ => ⟨(deep_sb L k t y).1 a, b⟩) (h w xs hT ((deepL_sb L k ts _).2 hd)),
   fun h w xs hT hd => outR_mono (fun y w' ⟨a, b⟩ => ⟨(deep_sb L k t y).2 a, b⟩) (h w xs hT ((deepL_sb L k ts _).1 hd))⟩
end X
/- Functions told by a table, and what they do else; tables of entries that are run. -/
namespace X
open Go Go.RowKit
set_option linter.unusedVariables false
set_option linter.unusedSectionVars false
/-- told by the table, else done -/
noncomputable def memoG (tab : List (List Tr × Tr)) (F : Fn) : Fn := fun vs s k => List.rec (F vs s k) (fun p _ ih => Prod.rec (fun ts t => mtL false ts vs s (lay t s k) ih) p) tab
/-- an entry, run -/
noncomputable def runF (S : St) (F : Fn) (p : List Tr × Tr) : Bool := layL p.1 S fun vs s => F vs s fun v s' => mt true p.2 v s' true false
noncomputable def runsF (S : St) (F : Fn) (l : List (List Tr × Tr)) : Bool := List.rec true (fun p _ ih => Bool.rec false ih (runF S F p)) l
/-- told by the entry that a hint names -/
noncomputable def memoH (hint : List AV → (Nat → Bool) → Bool → Bool) (e : Nat → List Tr × Tr) (N : Nat) (F : Fn) : Fn := fun vs s k => hint vs (fun n => Bool.rec (F vs s k) (Prod.rec (fun ts t => mtL false ts vs s (lay t s k) (F vs s k)) (e n)) (Nat.ble (Nat.succ n) N)) (F vs s k)
noncomputable def allB (l : List Bool) : Bool := List.rec true (fun b _ ih => Bool.rec false ih b) l
def Hint (hint : List AV → (Nat → Bool) → Bool → Bool) : Prop := ∀ vs k d, hint vs k d = true → (∃ n, k n = true) ∨ d = true
variable [Luck]
variable {P : Program}
theorem allB_mem : ∀ {l : List Bool}, allB l = true → ∀ b ∈ l, b = true
  | [], _, b, hb => by cases hb
  | a :: l, h, b, hb => by
    obtain ⟨h1, h2⟩ := brec_true (show (Bool.rec false (allB l) a : Bool) = true from h)
    rcases List.mem_cons.1 hb with e | e
    · rw [e]; exact h1
    · exact allB_mem h2 b e
theorem snd_memoG {f : Nat} {F : Fn} (hF : Snd P f F) : ∀ {tab : List (List Tr × Tr)}, (∀ p ∈ tab, Ent P f p.1 p.2) → Snd P f (memoG tab F)
  | [], _, vs, s, k, h => hF vs s k h
  | (ts, t) :: tab, hE, vs, s, k, h => fun w0 w μ xs hr hv g0 g2 => by
    rcases mtL_sound hr hv (show mtL false ts vs s (lay t s k) (memoG tab F vs s k) = true from h) with ⟨h1, h2⟩ | h1
    · refine outR_mono (fun y w' ⟨a, b⟩ => ?_) (hE (ts, t) (by simp) w xs hr.tab h1)
      obtain ⟨v, s', μ', c1, c2, c3, c4, c5, c6⟩ := lay_sound (B := w.heap.size) t (hr.below b) (fun b o q _ _ hq => hr.bd b q hq) a h2
      exact ⟨v, s', μ', c2, c1, c3, c4, c5⟩
    · exact snd_memoG hF (fun p hp => hE p (List.mem_cons_of_mem _ hp)) vs s k h1 w0 w μ xs hr hv g0 g2
theorem snd_memoH {f : Nat} {F : Fn} (hF : Snd P f F) {hint : List AV → (Nat → Bool) → Bool → Bool} (hh : Hint hint) {e : Nat → List Tr × Tr} {N : Nat} (hE : ∀ n, n < N → Ent P f (e n).1 (e n).2) : Snd P f (memoH hint e N F) := fun vs s k h => by
  rcases hh vs _ _ h with ⟨n, h1⟩ | h1
  · rcases brec_cases h1 with ⟨h2, h3⟩ | ⟨_, h3⟩
    · have hn : n < N := Nat.le_of_ble_eq_true h2
      have h4 : memoG [e n] F vs s k = true := h3
      exact snd_memoG hF (fun p hp => by rw [List.mem_singleton] at hp; rw [hp]; exact hE n hn) vs s k h4
    · exact hF vs s k h3
  · exact hF vs s k h1
theorem ents {f : Nat} {F : Fn} (hF : Snd P f F) {S : St} (hS : Start S) : ∀ {l : List (List Tr × Tr)}, runsF S F l = true → ∀ p ∈ l, Ent P f p.1 p.2
  | [], _, p, hp => by cases hp
  | q :: l, h, p, hp => by
    obtain ⟨h1, h2⟩ := brec_true (show (Bool.rec false (runsF S F l) (runF S F q) : Bool) = true from h)
    rcases List.mem_cons.1 hp with e | e
    · subst e; exact ent_run hF hS h1
    · exact ents hF hS h2 p e
theorem ents_app {f : Nat} {l l' : List (List Tr × Tr)} (h : ∀ p ∈ l, Ent P f p.1 p.2) (h' : ∀ p ∈ l', Ent P f p.1 p.2) : ∀ p ∈ l ++ l', Ent P f p.1 p.2 := fun p hp => (List.mem_append.1 hp).elim (h p) (h' p)
end X
