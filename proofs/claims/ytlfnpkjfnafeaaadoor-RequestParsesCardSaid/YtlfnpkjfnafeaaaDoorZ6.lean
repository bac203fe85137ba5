/-  -/
import Derived.Test.YtlfnpkjfnafeaaaDoorZ5
import Derived.Still
/- A region that draws its order and whose operations make memory, or write memory that other operations of the region have made: ONE walk in the order of the text.
   Each operation leaves what is known of its outcome (G) and owns the blocks that it made or took over (S); an operation may write only blocks that it takes over ('eats'). -/
namespace Go.Proofs.YtlfnpkjfnafeaaaDoor
open Go.RowKit
namespace Rl
/-- only blocks of E have changed -/
structure Chg (E : Nat → Prop) (w w' : World) : Prop where
  os : w'.os = w.os
  tape : w'.tape = w.tape
  output : w'.output = w.output
  size : w.heap.size ≤ w'.heap.size
  block : ∀ i, i < w.heap.size → ¬ E i → w'.heap[i]? = w.heap[i]?
/-- the blocks of O and those of S are as they were -/
structure Kp (O : Nat → Prop) (S : Nat → Prop) (w w' : World) : Prop where
  os : w'.os = w.os
  tape : w'.tape = w.tape
  output : w'.output = w.output
  size : w.heap.size ≤ w'.heap.size
  block : ∀ i, i < w.heap.size → (O i ∨ S i) → w'.heap[i]? = w.heap[i]?
theorem Chg.rfl' {E : Nat → Prop} {w : World} : Chg E w w := ⟨rfl, rfl, rfl, Nat.le_refl _, fun _ _ _ => rfl⟩
theorem Chg.of_ext {E : Nat → Prop} {w w' : World} (h : Ext w w') : Chg E w w' := ⟨h.os, h.tape, h.output, h.size, fun i hi _ => h.block i hi⟩
theorem Chg.ext {E : Nat → Prop} {w w' : World} (h : Chg E w w') (hE : ∀ g, ¬ E g) : Ext w w' := ⟨h.os, h.tape, h.output, h.size, fun i hi => h.block i hi (hE i)⟩
theorem Chg.of_grown {E : Nat → Prop} {w w' : World} {r : Option Nat} (h : w.grownBy w' r) (hr : ∀ g, r = some g → E g) : Chg E w w' :=
  ⟨h.os, h.tape, h.output, h.size, fun i hi hn => h.block i hi (fun e => hn (hr i e.symm))⟩
theorem own_kp {w w' : World} {base : Nat} {O S : Nat → Prop} {E : TypeId} {size n : Nat} {v : Value} {xs : List Value} (h : w.ownsRow base E size v n xs) (hS : ∀ g, v.ownBlock = some g → S g) (hk : Kp O S w w') : w'.ownsRow base E size v n xs := by
  refine ⟨h.1, ?_⟩
  rcases h.2 with hn | ⟨g, cap, cur, rfl, hb, hgg, rest⟩
  · exact .inl hn
  · refine .inr ⟨g, cap, cur, rfl, hb, ?_, rest⟩
    rw [hk.block g (Array.getElem?_eq_some_iff.1 hgg).1 (.inr (hS g rfl))]
    exact hgg
theorem blk_kp {w w' : World} {O S : Nat → Prop} {g : Nat} {t : TypeId} {cs : Array Value} (h : Blk w g t cs) (hS : S g) (hk : Kp O S w w') : Blk w' g t cs := by
  unfold Blk at *
  rw [hk.block g (Array.getElem?_eq_some_iff.1 h).1 (.inr hS)]
  exact h
def outR (P : Program) (R : Value → World → Prop) : Result Next → Prop
  | .ok (.value v) w' => R v w'
  | .ok .skip w' => R undef w'
  | .ok (.enter f args) w' => Calls P f args w' (fun e w'' => ∃ v, e = .returned v ∧ R v w'')
  | .ok (.row row args) w' => Rows P row args w' R
  | _ => False
/-- the operation, carried out in this frame and world, yields a value and a world of which R holds -/
def outAt (P : Program) (o : Oper) (a : Act) (w : World) (R : Value → World → Prop) : Prop := outR P R ((execOp a.eval o).run P w)
theorem outR_mono {P : Program} {R R' : Value → World → Prop} (h : ∀ v w, R v w → R' v w) {r : Result Next} (hr : outR P R r) : outR P R' r := by
  cases r with
  | ok n w' =>
    cases n <;> simp only [outR] at hr ⊢
    case value => exact h _ _ hr
    case skip => exact h _ _ hr
    case enter => exact hr.mono fun e w'' ⟨v, he, hv⟩ => ⟨v, he, h _ _ hv⟩
    case row => exact Rows.mono hr (fun _ _ hv => h _ _ hv)
  | halt x w' => simp only [outR] at hr
theorem wp_of_out {P : Program} {o : Oper} {a a' : Act} {w : World} {R : Value → World → Prop} {K : Act → World → Prop} {Q : Exit → Act → World → Prop} (he : execOp a.eval o = execOp a'.eval o) (h : outAt P o a' w R)
    (hK : ∀ v w', R v w' → K (a.put o.dst v) w') : o.wp P a w K Q := by
  unfold outAt at h
  unfold Oper.wp
  rw [he]
  generalize (execOp a'.eval o).run P w = r at *
  cases r with
  | ok n w' =>
    cases n <;> simp only [outR] at h <;> simp only [Oper.upon]
    case value => exact hK _ _ h
    case skip => exact hK _ _ h
    case enter => exact h.mono fun e w'' ⟨v, he, hv⟩ => by subst he; exact hK _ _ hv
    case row => exact Rows.mono h (fun _ _ hv => hK _ _ hv)
  | halt x w' => simp only [outR] at h
theorem out_of_wp {P : Program} {o : Oper} {a : Act} {w : World} {R : Value → World → Prop} (d : Nat) (hd : o.dst = some d) (hs : d < a.tmps.size) (h : o.wp P a w (fun a' w' => a'.defers = a.defers ∧ R (a'.tmps.getD d undef) w') (fun _ _ _ => False)) : outAt P o a w R := by
  unfold outAt
  unfold Oper.wp at h
  have hp : ∀ v, ((a.put o.dst v).tmps.getD d undef) = v := by intro v; rw [hd]; simp [Act.put, hs]
  generalize (execOp a.eval o).run P w = r at *
  cases r with
  | ok n w' =>
    cases n <;> simp only [outR] <;> simp only [Oper.upon] at h
    case value => rw [hp] at h; exact h.2
    case skip => rw [hp] at h; exact h.2
    case enter =>
      refine h.mono fun e w'' he => ?_
      cases e with
      | returned v => exact ⟨v, rfl, by simpa only [hp] using he.2⟩
      | panicked c => exact he.elim
      | outgrown => exact absurd he (by simp [LetsOut])
    case row => exact Rows.mono h (fun _ _ hv => by simpa only [hp] using hv.2)
    case defer d' =>
      have := congrArg List.length h.1
      rw [hd] at this
      simp [Act.put] at this
  | halt x w' =>
    cases x <;> simp only [Oper.upon] at h
/-! frames: puts in the order of the text -/
def fr (D : Nat → Option Tmp) (l : List Nat) (L : Nat → Bool) (f : Nat → Value) (a : Act) : Act := l.foldl (fun a i => if L i then a.put (D i) (f i) else a) a
section
variable {D : Nat → Option Tmp}
theorem fr_t {L : Nat → Bool} {f : Nat → Value} {i : Nat} {l : List Nat} {a : Act} (h : L i = true) : fr D (i :: l) L f a = fr D l L f (a.put (D i) (f i)) := by
  simp only [fr, List.foldl_cons, h, if_true]
theorem fr_f {L : Nat → Bool} {f : Nat → Value} {i : Nat} {l : List Nat} {a : Act} (h : L i = false) : fr D (i :: l) L f a = fr D l L f a := by
  simp [fr, h]
theorem fr_congr {L L' : Nat → Bool} {f f' : Nat → Value} : ∀ {l : List Nat} {a : Act}, (∀ i ∈ l, L i = L' i) → (∀ i ∈ l, L i = true → f i = f' i) → fr D l L f a = fr D l L' f' a
  | [], _, _, _ => rfl
  | i :: l, a, h1, h2 => by
    have e1 := h1 i (by simp)
    have ih := fun a => fr_congr (l := l) (a := a) (fun j hj => h1 j (by simp [hj])) (fun j hj => h2 j (by simp [hj]))
    cases hL : L i
    · rw [fr_f hL, fr_f (e1 ▸ hL)]; exact ih a
    · rw [fr_t hL, fr_t (e1 ▸ hL), h2 i (by simp) hL]; exact ih _
theorem fr_put {L : Nat → Bool} {f : Nat → Value} {x : Option Tmp} {v : Value} : ∀ {l : List Nat} {a : Act}, (∀ i ∈ l, L i = true → ∀ d, x = some d → D i ≠ some d) → fr D l L f (a.put x v) = (fr D l L f a).put x v
  | [], _, _ => rfl
  | i :: l, a, h => by
    have ih := fun a => fr_put (L := L) (f := f) (x := x) (v := v) (l := l) (a := a) (fun j hj => h j (by simp [hj]))
    cases hL : L i
    · rw [fr_f hL, fr_f hL]; exact ih a
    · rw [fr_t hL, fr_t hL, Act.put_comm a v (f i) (h i (by simp) hL)]; exact ih _
theorem fr_set {L : Nat → Bool} {f f' : Nat → Value} {k : Nat} : ∀ {l : List Nat} {a : Act}, k ∈ l → l.Nodup → L k = false → (∀ i ∈ l, L i = true → f' i = f i) → (∀ i ∈ l, i ≠ k → ∀ d, D k = some d → D i ≠ some d) →
    fr D l (fun i => L i || i == k) f' a = (fr D l L f a).put (D k) (f' k)
  | [], _, h, _, _, _, _ => by simp at h
  | i :: l, a, hk, hnd, hL, hf, hd => by
    obtain ⟨hi, hnd'⟩ := List.nodup_cons.1 hnd
    by_cases hik : i = k
    · subst hik
      have e1 : fr D l (fun j => L j || j == i) f' (a.put (D i) (f' i)) = fr D l L f (a.put (D i) (f' i)) := fr_congr (fun j hj => by
        have : j ≠ i := fun e => hi (e ▸ hj)
        simp [this]) (fun j hj hl => by
          have : j ≠ i := fun e => hi (e ▸ hj)
          simp [this] at hl
          exact hf j (by simp [hj]) hl)
      have e2 : fr D l L f (a.put (D i) (f' i)) = (fr D l L f a).put (D i) (f' i) := fr_put (fun j hj hl => hd j (by simp [hj]) (fun e => hi (e ▸ hj)))
      rw [fr_t (by simp), fr_f hL, e1, e2]
    · have ih := fun a => fr_set (L := L) (f := f) (f' := f') (l := l) (a := a) (by simpa [Ne.symm hik] using hk) hnd' hL (fun j hj => hf j (by simp [hj])) (fun j hj => hd j (by simp [hj]))
      cases hl : L i
      · rw [fr_f hl, fr_f (by simp [hl, hik])]; exact ih a
      · rw [fr_t hl, fr_t (by simp [hl]), hf i (by simp) hl]; exact ih _
/-- two frames that agree on some slots -/
def Agr (T : Tmp → Prop) (a a' : Act) : Prop := a.tmps.size = a'.tmps.size ∧ ∀ t, T t → a.tmps[t]? = a'.tmps[t]?
theorem Agr.put2 {T : Tmp → Prop} {a a' : Act} (h : Agr T a a') (x : Option Tmp) (v : Value) : Agr T (a.put x v) (a'.put x v) := by
  cases x with
  | none => exact h
  | some d =>
    refine ⟨by simp [Act.put, h.1], fun t ht => ?_⟩
    have := h.2 t ht
    by_cases hd : d = t
    · subst hd; simp only [Act.put, Array.getElem?_setIfInBounds, if_true, h.1]
    · simp only [Act.put, Array.getElem?_setIfInBounds_ne hd, this]
theorem Agr.put1 {T : Tmp → Prop} {a a' : Act} (h : Agr T a a') (x : Option Tmp) (v : Value) (hx : ∀ d, x = some d → ¬ T d) : Agr T (a.put x v) a' := by
  cases x with
  | none => exact h
  | some d =>
    refine ⟨by simp [Act.put, h.1], fun t ht => ?_⟩
    have hd : d ≠ t := fun e => hx d rfl (e ▸ ht)
    simp only [Act.put, Array.getElem?_setIfInBounds_ne hd, h.2 t ht]
theorem Agr.symm {T : Tmp → Prop} {a a' : Act} (h : Agr T a a') : Agr T a' a := ⟨h.1.symm, fun t ht => (h.2 t ht).symm⟩
theorem Agr.fr {T : Tmp → Prop} {L L' : Nat → Bool} {f : Nat → Value} : ∀ {l : List Nat} {a a' : Act}, (∀ i ∈ l, (∃ d, D i = some d ∧ T d) → L i = L' i) → Agr T a a' → Agr T (Rl.fr D l L f a) (Rl.fr D l L' f a')
  | [], _, _, _, h => h
  | i :: l, a, a', h1, h => by
    have ih := fun a a' h => Agr.fr (L := L) (L' := L') (f := f) (l := l) (a := a) (a' := a') (fun j hj => h1 j (by simp [hj])) h
    by_cases hT : ∃ d, D i = some d ∧ T d
    · have e := h1 i (by simp) hT
      cases hL : L i
      · rw [fr_f hL, fr_f (e ▸ hL)]; exact ih _ _ h
      · rw [fr_t hL, fr_t (e ▸ hL)]; exact ih _ _ (h.put2 _ _)
    · have hT' : ∀ d, D i = some d → ¬ T d := fun d hd ht => hT ⟨d, hd, ht⟩
      cases hL : L i <;> cases hL' : L' i
      · rw [fr_f hL, fr_f hL']; exact ih _ _ h
      · rw [fr_f hL, fr_t hL']; exact ih _ _ ((h.symm.put1 (D i) (f i) hT').symm)
      · rw [fr_t hL, fr_f hL']; exact ih _ _ (h.put1 (D i) (f i) hT')
      · rw [fr_t hL, fr_t hL']; exact ih _ _ (h.put2 _ _)
theorem Agr.exec {ops : Array Oper} {o : Oper} {a a' : Act} (hs : ∀ cs b, o.op ≠ .select cs b) (h : Agr (· ∈ o.looksAt ops) a a') : execOp a.eval o = execOp a'.eval o ∧ Region.wanted o (yielded ops a.tmps) = Region.wanted o (yielded ops a'.tmps) := by
  constructor
  · refine execOp_congr o hs fun x hx => ?_
    cases x with
    | tmp t =>
      have := h.2 t (List.mem_append_left _ (List.mem_filterMap.2 ⟨.tmp t, by simpa using hx, rfl⟩))
      simp only [Act.eval, Array.getD_eq_getD_getElem?, this]
    | _ => rfl
  · unfold Region.wanted
    cases hg : o.guard with
    | none => rfl
    | some gw =>
      obtain ⟨g, want⟩ := gw
      have hy : yielded ops a.tmps g = yielded ops a'.tmps g := by
        unfold yielded
        cases ht : (ops[g]?).bind (·.dst) with
        | none => rfl
        | some t =>
          have := h.2 t (by simp [Oper.looksAt, hg, ht])
          simp only [Option.bind_some, this]
      simp only [hy]
end
end Rl
end Go.Proofs.YtlfnpkjfnafeaaaDoor
/- The law of Rl: soundness. -/
namespace Go.Proofs.YtlfnpkjfnafeaaaDoor
open Go.RowKit
namespace Rl
/-- what is said of one operation: the value of its slot, what is known of the outcome, which other outcomes these two look at, whose facts it reads, what it takes over -/
structure Kind where
  val : (Nat → Value) → Value
  G : (Nat → Value) → (Nat → Prop) → World → Prop
  ds : List Nat
  us : List Nat
  es : List Nat
  old : Bool
def upd (xs : Nat → Value) (k : Nat) (v : Value) : Nat → Value := fun i => if i = k then v else xs i
def updS (Ss : Nat → Nat → Prop) (k : Nat) (S : Nat → Prop) : Nat → Nat → Prop := fun i => if i = k then S else Ss i
def Kind.loc (K : Kind) (k : Nat) : Prop := ∀ xs ys, (∀ j ∈ k :: K.ds, xs j = ys j) → K.val xs = K.val ys ∧ ∀ S w, K.G xs S w → K.G ys S w
def Kind.stab (K : Kind) (O : Nat → Prop) : Prop := ∀ xs S w w', (∀ g, O g → g < w.heap.size) → K.G xs S w → (∀ g, S g → g < w.heap.size) → Kp O S w w' → K.G xs S w'
/-- the blocks that nothing writes -/
def oldO (w0 : World) (I : Nat → Prop) : Nat → Prop := fun g => g < w0.heap.size ∧ ¬ I g
/-- k waits for i -/
def awaits (ops : Array Oper) : Nat → Nat → Nat → Bool
  | 0, _, _ => false
  | f + 1, k, i => match ops[k]? with
    | some o => o.after.any (fun e => Region.binds .any e && e.on == i) || o.after.any (fun e => Region.binds .any e && awaits ops f e.on i)
    | none => false
theorem awaits_listed {ops : Array Oper} {L : Nat → Bool} (hcl : ∀ k o, L k = true → ops[k]? = some o → ∀ e ∈ o.after, Region.binds .any e = true → L e.on = true) : ∀ {f k i : Nat} {o : Oper}, ops[k]? = some o →
    (∀ e ∈ o.after, Region.binds .any e = true → L e.on = true) → awaits ops f k i = true → L i = true
  | 0, _, _, _, _, _, h => by simp [awaits] at h
  | f + 1, k, i, o, ho, hk, h => by
    simp only [awaits, ho, Bool.or_eq_true, Array.any_eq_true'] at h
    rcases h with ⟨e, he, hb⟩ | ⟨e, he, hb⟩
    · simp only [Bool.and_eq_true, beq_iff_eq] at hb
      rw [← hb.2]; exact hk e he hb.1
    · simp only [Bool.and_eq_true] at hb
      cases h2 : ops[e.on]? with
      | none => cases f with
        | zero => simp [awaits] at hb
        | succ f => simp [awaits, h2] at hb
      | some o' => exact awaits_listed hcl h2 (fun e' he' hb' => hcl e.on o' (hk e he hb.1) h2 e' he' hb') hb.2
/-- what the outcome of operation k must be like -/
def Out (I : Nat → Prop) (K : Kind) (k : Nat) (o : Oper) (xs : Nat → Value) (Ss : Nat → Nat → Prop) (w : World) : Value → World → Prop := fun v w' =>
  ∃ x S, (o.dst = none ∨ v = K.val (upd xs k x)) ∧ K.G (upd xs k x) S w' ∧ Chg (fun g => (∃ i ∈ K.es, Ss i g) ∨ (K.old = true ∧ I g)) w w' ∧ ∀ g, S g → ((∃ i ∈ K.es, Ss i g) ∨ (K.old = true ∧ I g)) ∨ (w.heap.size ≤ g ∧ g < w'.heap.size)
def stepOK (P : Program) (ops : Array Oper) (I : Nat → Prop) (sp : Nat → Kind) (w0 : World) (k : Nat) (o : Oper) (A : (Nat → Value) → Act) : Prop :=
  ∀ xs Ss w, Chg I w0 w → ((sp k).old = true → Ext w0 w) → (∀ i ∈ (sp k).us ++ (sp k).es, (sp i).G xs (Ss i) w ∧ ∀ g, Ss i g → (w0.heap.size ≤ g ∨ I g) ∧ g < w.heap.size) →
    (∀ i ∈ (sp k).us ++ (sp k).es, ∀ j ∈ (sp k).us ++ (sp k).es, i ≠ j → ∀ g, Ss i g → ¬ Ss j g) →
    if Region.wanted o (yielded ops (A xs).tmps) = true then outAt P o (A xs) w (Out I (sp k) k o xs Ss w) else Out I (sp k) k o xs Ss w undef w
structure Static (ops : Array Oper) (I : Nat → Prop) (sp : Nat → Kind) (w0 : World) : Prop where
  nosel : ∀ (j : Nat) (o : Oper) cs b, ops[j]? = some o → o.op ≠ .select cs b
  ready : ∀ k o, ops[k]? = some o → ∀ e ∈ o.after, Region.binds .any e = true → e.on < k
  ap : ∀ i j oi oj, i < j → ops[i]? = some oi → ops[j]? = some oj → (∀ e ∈ oj.after, Region.binds .any e = true → e.on ≠ i) → oi.apart ops oj = true
  dst : ∀ i j, i < ops.size → j < ops.size → i ≠ j → ∀ d, (ops[i]?).bind (·.dst) = some d → (ops[j]?).bind (·.dst) ≠ some d
  loc : ∀ k, k < ops.size → (sp k).loc k
  stab : ∀ k, k < ops.size → (sp k).stab (oldO w0 I)
  aw : ∀ k, k < ops.size → ∀ i ∈ (sp k).ds ++ ((sp k).us ++ (sp k).es), awaits ops 3 k i = true
  eat : ∀ j m i, j < ops.size → m < ops.size → i ∈ (sp j).es → m ≠ j → i ∉ (sp m).es ∧ (i ∈ (sp m).us → awaits ops 3 j m = true)
  one : ∀ j m, j < ops.size → m < ops.size → (sp j).old = true → (sp m).old = true → j = m
  I : ∀ g, I g → g < w0.heap.size
def live (sp : Nat → Kind) (n : Nat) (L : Nat → Bool) (i : Nat) : Prop := L i = true ∧ ∀ j, j < n → L j = true → i ∉ (sp j).es
structure Inv (ops : Array Oper) (I : Nat → Prop) (sp : Nat → Kind) (w0 : World) (a0 : Act) (L : Nat → Bool) (a : Act) (w : World) (xs : Nat → Value) (Ss : Nat → Nat → Prop) : Prop where
  frame : a = fr (fun i => (ops[i]?).bind (·.dst)) (List.range ops.size) L (fun i => (sp i).val xs) a0
  ext : Chg I w0 w
  young : (∀ j, j < ops.size → L j = true → (sp j).old = false) → Ext w0 w
  closed : ∀ k o, L k = true → ops[k]? = some o → ∀ e ∈ o.after, Region.binds .any e = true → L e.on = true
  lt : ∀ i, L i = true → i < ops.size
  G : ∀ i, live sp ops.size L i → (sp i).G xs (Ss i) w
  bd : ∀ i, live sp ops.size L i → ∀ g, Ss i g → (w0.heap.size ≤ g ∨ (I g ∧ ∃ j, j < ops.size ∧ L j = true ∧ (sp j).old = true)) ∧ g < w.heap.size
  dis : ∀ i j, live sp ops.size L i → live sp ops.size L j → i ≠ j → ∀ g, Ss i g → ¬ Ss j g
theorem loc_upd {K : Kind} {i k : Nat} (h : K.loc i) (hik : i ≠ k) (hd : k ∉ K.ds) (xs : Nat → Value) (x : Value) : K.val (upd xs k x) = K.val xs ∧ ∀ S w, K.G xs S w → K.G (upd xs k x) S w := by
  have e : ∀ j ∈ i :: K.ds, xs j = upd xs k x j := fun j hj => by
    have : j ≠ k := by
      rintro rfl
      rcases List.mem_cons.1 hj with h1 | h1
      · exact hik h1.symm
      · exact hd h1
    simp [upd, this]
  exact ⟨(h _ _ e).1.symm, (h _ _ e).2⟩
/-- one operation more -/
theorem Inv.step {ops : Array Oper} {I : Nat → Prop} {sp : Nat → Kind} {w0 : World} {a0 : Act} {L : Nat → Bool} {a : Act} {w : World} {xs : Nat → Value} {Ss : Nat → Nat → Prop} (hs : Static ops I sp w0) (hI : Inv ops I sp w0 a0 L a w xs Ss)
    {k : Nat} {o : Oper} (ho : ops[k]? = some o) (hk : L k = false) (hr : ∀ e ∈ o.after, Region.binds .any e = true → L e.on = true) {v : Value} {w' : World} (hv : Out I (sp k) k o xs Ss w v w') :
    ∃ xs' Ss', Inv ops I sp w0 a0 (fun i => L i || i == k) (a.put o.dst v) w' xs' Ss' := by
  obtain ⟨x, S, hv, hG, hC, hS⟩ := hv
  have hkn : k < ops.size := (Array.getElem?_eq_some_iff.1 ho).1
  have hw0 : w0.heap.size ≤ w.heap.size := hI.ext.size
  have hmem : ∀ i ∈ (sp k).ds ++ ((sp k).us ++ (sp k).es), L i = true := fun i hi => awaits_listed hI.closed ho hr (hs.aw k hkn i hi)
  have hes : ∀ i ∈ (sp k).es, live sp ops.size L i := fun i hi => ⟨hmem i (by simp [hi]), fun j hj hlj hij => by
    have : k ≠ j := fun e => by rw [← e, hk] at hlj; cases hlj
    exact (hs.eat j k i hj hkn hij this).1 hi⟩
  have hno : (sp k).old = true → ∀ j, j < ops.size → L j = true → (sp j).old = false := fun ho j hj hl => by
    cases h : (sp j).old
    · rfl
    · have := hs.one j k hj hkn h ho
      rw [this, hk] at hl; cases hl
  have hnk : ∀ i, L i = true → i ≠ k := fun i hi e => by rw [e, hk] at hi; cases hi
  have hdk : ∀ i, L i = true → k ∉ (sp i).ds := fun i hi hd => by
    obtain ⟨oi, hoi⟩ : ∃ oi, ops[i]? = some oi := ⟨_, Array.getElem?_eq_getElem (hI.lt i hi)⟩
    have := awaits_listed hI.closed hoi (fun e he hb => hI.closed i oi hi hoi e he hb) (hs.aw i (hI.lt i hi) k (by simp [hd]))
    rw [hk] at this; cases this
  have hlv : ∀ i, live sp ops.size (fun i => L i || i == k) i → i = k ∨ (live sp ops.size L i ∧ i ∉ (sp k).es) := fun i hi => by
    obtain ⟨h1, h2⟩ := hi
    simp only [Bool.or_eq_true, beq_iff_eq] at h1
    rcases h1 with h1 | h1
    · exact .inr ⟨⟨h1, fun j hj hlj => h2 j hj (by simp [hlj])⟩, h2 k hkn (by simp)⟩
    · exact .inl h1
  have hkp : ∀ i, live sp ops.size L i → i ∉ (sp k).es → Kp (oldO w0 I) (Ss i) w w' := fun i hi hn => ⟨hC.os, hC.tape, hC.output, hC.size, fun g hg hB => hC.block g hg (by
    rintro (⟨j, hj, hjg⟩ | ⟨ho, hIg⟩)
    · rcases hB with hB | hB
      · rcases (hI.bd j (hes j hj) g hjg).1 with h | h
        · have := hB.1; omega
        · exact hB.2 h.1
      · exact hI.dis i j hi (hes j hj) (fun e => hn (e ▸ hj)) g hB hjg
    · rcases hB with hB | hB
      · exact hB.2 hIg
      · rcases (hI.bd i hi g hB).1 with h | ⟨_, j, hj, hl, h⟩
        · have := hs.I g hIg; omega
        · rw [hno ho j hj hl] at h; cases h)⟩
  have hSb : ∀ g, S g → (w0.heap.size ≤ g ∨ (I g ∧ ∃ j, j < ops.size ∧ (L j || j == k) = true ∧ (sp j).old = true)) ∧ g < w'.heap.size := fun g hg => by
    have := hC.size
    rcases hS g hg with (⟨i, hi, hig⟩ | ⟨ho, hIg⟩) | ⟨h1, h2⟩
    · obtain ⟨h1, h2⟩ := hI.bd i (hes i hi) g hig
      refine ⟨h1.imp id (fun ⟨a, j, b, c, d⟩ => ⟨a, j, b, by simp [c], d⟩), by omega⟩
    · exact ⟨.inr ⟨hIg, k, hkn, by simp, ho⟩, by have := hs.I g hIg; omega⟩
    · exact ⟨.inl (by omega), h2⟩
  have hSd : ∀ i, live sp ops.size L i → i ∉ (sp k).es → ∀ g, Ss i g → ¬ S g := fun i hi hn g hg hSg => by
    rcases hS g hSg with (⟨j, hj, hjg⟩ | ⟨ho, hIg⟩) | ⟨h1, _⟩
    · exact hI.dis i j hi (hes j hj) (fun e => hn (e ▸ hj)) g hg hjg
    · rcases (hI.bd i hi g hg).1 with h | ⟨_, j, hj, hl, h⟩
      · have := hs.I g hIg; omega
      · rw [hno ho j hj hl] at h; cases h
    · have := (hI.bd i hi g hg).2; omega
  refine ⟨upd xs k x, updS Ss k S, ?_, ?_, ?_, ?_, ?_, ?_, ?_, ?_⟩
  · have hf := fr_set (D := fun i => (ops[i]?).bind (·.dst)) (L := L) (f := fun i => (sp i).val xs) (f' := fun i => (sp i).val (upd xs k x)) (k := k) (l := List.range ops.size) (a := a0) (by simp [hkn]) List.nodup_range hk
      (fun i hi hl => (loc_upd (hs.loc i (hI.lt i hl)) (hnk i hl) (hdk i hl) xs x).1) (fun i hi hne d hd => hs.dst k i hkn (by simpa using hi) (Ne.symm hne) d hd)
    rw [hf, ← hI.frame]
    simp only [ho, Option.bind_some]
    rcases hv with hv | hv
    · rw [hv]; rfl
    · rw [hv]
  · have h := hI.ext
    refine ⟨hC.os.trans h.os, hC.tape.trans h.tape, hC.output.trans h.output, Nat.le_trans h.size hC.size, fun g hg hn => (hC.block g (by omega) ?_).trans (h.block g hg hn)⟩
    rintro (⟨j, hj, hjg⟩ | ⟨ho, hIg⟩)
    · rcases (hI.bd j (hes j hj) g hjg).1 with h | h
      · omega
      · exact hn h.1
    · exact hn hIg
  · intro hyo
    have h := hI.young (fun j hj hl => hyo j hj (by simp [hl]))
    have hk0 : (sp k).old = false := hyo k hkn (by simp)
    refine ⟨hC.os.trans h.os, hC.tape.trans h.tape, hC.output.trans h.output, Nat.le_trans h.size hC.size, fun g hg => (hC.block g (by omega) ?_).trans (h.block g hg)⟩
    rintro (⟨j, hj, hjg⟩ | ⟨ho, hIg⟩)
    · rcases (hI.bd j (hes j hj) g hjg).1 with h | ⟨_, m, hm, hl, h⟩
      · omega
      · rw [hyo m hm (by simp [hl])] at h; cases h
    · rw [hk0] at ho; cases ho
  · intro i oi hi hoi e he hb
    simp only [Bool.or_eq_true, beq_iff_eq] at hi ⊢
    rcases hi with hi | hi
    · exact .inl (hI.closed i oi hi hoi e he hb)
    · subst hi; rw [ho] at hoi; cases hoi; exact .inl (hr e he hb)
  · intro i hi
    simp only [Bool.or_eq_true, beq_iff_eq] at hi
    rcases hi with hi | hi
    · exact hI.lt i hi
    · rw [hi]; exact hkn
  · intro i hi
    rcases hlv i hi with rfl | ⟨hl, hn⟩
    · simpa [updS] using hG
    · have hne := hnk i hl.1
      simp only [updS, if_neg hne]
      exact hs.stab i (hI.lt i hl.1) _ _ _ _ (fun g hg => by have := hg.1; omega) ((loc_upd (hs.loc i (hI.lt i hl.1)) hne (hdk i hl.1) xs x).2 _ _ (hI.G i hl)) (fun g hg => (hI.bd i hl g hg).2) (hkp i hl hn)
  · intro i hi g hg
    rcases hlv i hi with rfl | ⟨hl, hn⟩
    · exact hSb g (by simpa [updS] using hg)
    · simp only [updS, if_neg (hnk i hl.1)] at hg
      obtain ⟨h1, h2⟩ := hI.bd i hl g hg
      have := hC.size
      exact ⟨h1.imp id (fun ⟨a, j, b, c, d⟩ => ⟨a, j, b, by simp [c], d⟩), by omega⟩
  · intro i j hi hj hij g hgi hgj
    rcases hlv i hi with e1 | ⟨hl, hn⟩ <;> rcases hlv j hj with e2 | ⟨hl2, hn2⟩
    · exact hij (e1.trans e2.symm)
    · simp only [updS, if_pos e1, if_neg (hnk j hl2.1)] at hgi hgj
      exact hSd j hl2 hn2 g hgj hgi
    · simp only [updS, if_pos e2, if_neg (hnk i hl.1)] at hgi hgj
      exact hSd i hl hn g hgi hgj
    · simp only [updS, if_neg (hnk i hl.1), if_neg (hnk j hl2.1)] at hgi hgj
      exact hI.dis i j hl hl2 hij g hgi hgj
def FinOK (ops : Array Oper) (I : Nat → Prop) (sp : Nat → Kind) (w0 : World) (xs : Nat → Value) (Ss : Nat → Nat → Prop) (w : World) : Prop :=
  (∀ i, i < ops.size → (∀ j, j < ops.size → i ∉ (sp j).es) → (sp i).G xs (Ss i) w ∧ ∀ g, Ss i g → (w0.heap.size ≤ g ∨ I g) ∧ g < w.heap.size) ∧
  ∀ i j, i < ops.size → j < ops.size → (∀ m, m < ops.size → i ∉ (sp m).es) → (∀ m, m < ops.size → j ∉ (sp m).es) → i ≠ j → ∀ g, Ss i g → ¬ Ss j g
def lexF (ops : Array Oper) (sp : Nat → Kind) (a0 : Act) (k : Nat) (xs : Nat → Value) : Act := fr (fun i => (ops[i]?).bind (·.dst)) (List.range k) (fun _ => true) (fun i => (sp i).val xs) a0
theorem fr_lt {D : Nat → Option Tmp} {f : Nat → Value} {a : Act} {k : Nat} : ∀ {n : Nat}, k ≤ n → fr D (List.range n) (fun i => decide (i < k)) f a = fr D (List.range k) (fun _ => true) f a
  | 0, h => by obtain rfl : k = 0 := by omega
               rfl
  | n + 1, h => by
    by_cases hk : k = n + 1
    · subst hk
      exact fr_congr (fun i hi => by simpa using hi) (fun _ _ _ => rfl)
    · have ih := fr_lt (D := D) (f := f) (a := a) (k := k) (n := n) (by omega)
      have hd : decide (n < k) = false := decide_eq_false (by omega)
      rw [← ih]
      simp only [fr, List.range_succ, List.foldl_append, List.foldl_cons, List.foldl_nil, hd, Bool.false_eq_true, if_false]
theorem filter_lt {p q : Nat → Bool} {k : Nat} : ∀ {l : List Nat}, (∀ i ∈ l, q i = true → p i = true) → k ∈ l → p k = true → q k = false → (l.filter q).length < (l.filter p).length
  | [], _, h, _, _ => by simp at h
  | i :: l, h1, hk, hp, hq => by
    have hle : (l.filter q).length ≤ (l.filter p).length := by
      clear hk
      induction l with
      | nil => simp
      | cons j l ih =>
        have := ih (fun x hx => h1 x (by rcases List.mem_cons.1 hx with h | h <;> simp [h]))
        have hj := h1 j (by simp)
        cases e1 : q j
        · simp only [List.filter_cons, e1, Bool.false_eq_true, if_false]
          split <;> simp <;> omega
        · simp only [List.filter_cons, e1, hj e1, if_true, List.length_cons]; omega
    by_cases hik : i = k
    · subst hik
      simp only [List.filter_cons, hp, hq, if_true, Bool.false_eq_true, if_false, List.length_cons]; omega
    · have ih := filter_lt (p := p) (q := q) (k := k) (l := l) (fun x hx => h1 x (by simp [hx])) (by simpa [Ne.symm hik] using hk) hp hq
      have hi := h1 i (by simp)
      cases e1 : q i
      · simp only [List.filter_cons, e1, Bool.false_eq_true, if_false]
        split <;> simp <;> omega
      · simp only [List.filter_cons, e1, hi e1, if_true, List.length_cons]; omega
theorem any {P : Program} {ops : Array Oper} {I : Nat → Prop} {sp : Nat → Kind} {w0 : World} {a0 : Act} {Q : Exit → Act → World → Prop} (hs : Static ops I sp w0)
    (hstep : ∀ k o, ops[k]? = some o → stepOK P ops I sp w0 k o (lexF ops sp a0 k)) (hfin : ∀ xs Ss w, Chg I w0 w → FinOK ops I sp w0 xs Ss w → Q .normal (lexF ops sp a0 ops.size xs) w) :
    ∀ (fuel : Nat) (listed : Array Bool) (a : Act) (w : World) (xs : Nat → Value) (Ss : Nat → Nat → Prop), listed.size = ops.size → ((List.range ops.size).filter (fun i => !listed.getD i false)).length ≤ fuel → Inv ops I sp w0 a0 (fun i => listed.getD i false) a w xs Ss → wpAny P .any ops Q fuel listed a w := by
  intro fuel
  induction fuel with
  | zero =>
    intro listed a w xs Ss hsz hc hI
    have hall : ∀ k, k < ops.size → listed.getD k false = true := fun k hk => by
      have h0 : (List.range ops.size).filter (fun i => !listed.getD i false) = [] := List.eq_nil_of_length_eq_zero (by omega)
      have := List.filter_eq_nil_iff.1 h0 k (by simpa using hk)
      simpa using this
    refine ⟨?_, ?_⟩
    · rw [List.eq_nil_iff_forall_not_mem]
      intro i hi
      obtain ⟨h1, o, ho, _⟩ := mem_ready.1 hi
      have hin := (Array.getElem?_eq_some_iff.1 ho).1
      have h2 := hall i hin
      simp only [Array.getD_eq_getD_getElem?, Array.getElem?_eq_getElem (show i < listed.size by omega), Option.getD_some] at h1 h2
      rw [h1] at h2; cases h2
    · have hf : a = lexF ops sp a0 ops.size xs := by
        rw [hI.frame]
        exact fr_congr (fun i hi => hall i (by simpa using hi)) (fun _ _ _ => rfl)
      rw [hf]
      exact hfin xs Ss w hI.ext ⟨fun i hi hn => ⟨hI.G i ⟨hall i hi, fun j hj _ => hn j hj⟩, fun g hg => ⟨(hI.bd i ⟨hall i hi, fun j hj _ => hn j hj⟩ g hg).1.imp id (·.1), (hI.bd i ⟨hall i hi, fun j hj _ => hn j hj⟩ g hg).2⟩⟩, fun i j hi hj h1 h2 => hI.dis i j ⟨hall i hi, fun m hm _ => h1 m hm⟩ ⟨hall j hj, fun m hm _ => h2 m hm⟩⟩
  | succ fuel ih =>
    intro listed a w xs Ss hsz hc hI
    have hgd : ∀ i, i < ops.size → listed.getD i true = listed.getD i false := fun i hi => by
      simp only [Array.getD_eq_getD_getElem?, Array.getElem?_eq_getElem (show i < listed.size by omega), Option.getD_some]
    refine ⟨fun hnil => ?_, fun k hk => ?_⟩
    · have hall : ∀ k, k < ops.size → listed.getD k false = true := by
        intro k
        induction k using Nat.strongRecOn with
        | ind k ihk =>
          intro hk
          cases hL : listed.getD k false
          · have : k ∈ Region.ready .any ops listed := mem_ready.2 ⟨by rw [hgd k hk]; exact hL, _, Array.getElem?_eq_getElem hk, fun e he hb => by
              have := hs.ready k _ (Array.getElem?_eq_getElem hk) e he hb
              exact ihk e.on this (by omega)⟩
            rw [hnil] at this; cases this
          · rfl
      have hf : a = lexF ops sp a0 ops.size xs := by
        rw [hI.frame]
        exact fr_congr (fun i hi => hall i (by simpa using hi)) (fun _ _ _ => rfl)
      rw [hf]
      exact hfin xs Ss w hI.ext ⟨fun i hi hn => ⟨hI.G i ⟨hall i hi, fun j hj _ => hn j hj⟩, fun g hg => ⟨(hI.bd i ⟨hall i hi, fun j hj _ => hn j hj⟩ g hg).1.imp id (·.1), (hI.bd i ⟨hall i hi, fun j hj _ => hn j hj⟩ g hg).2⟩⟩, fun i j hi hj h1 h2 => hI.dis i j ⟨hall i hi, fun m hm _ => h1 m hm⟩ ⟨hall j hj, fun m hm _ => h2 m hm⟩⟩
    · obtain ⟨h1, o, ho, hr⟩ := mem_ready.1 hk
      have hkn := (Array.getElem?_eq_some_iff.1 ho).1
      have hkL : listed.getD k false = false := by rw [← hgd k hkn]; exact h1
      have hmem : ∀ i ∈ (sp k).ds ++ ((sp k).us ++ (sp k).es), listed.getD i false = true := fun i hi => awaits_listed hI.closed ho hr (hs.aw k hkn i hi)
      have hlive : ∀ i ∈ (sp k).us ++ (sp k).es, live sp ops.size (fun i => listed.getD i false) i := fun i hi => ⟨hmem i (List.mem_append_right _ hi), fun j hj hlj hij => by
        have : k ≠ j := fun e => by simp only at hlj; rw [← e, hkL] at hlj; cases hlj
        obtain ⟨q1, q2⟩ := hs.eat j k i hj hkn hij this
        rcases List.mem_append.1 hi with hi | hi
        · obtain ⟨oj, hoj⟩ : ∃ oj, ops[j]? = some oj := ⟨_, Array.getElem?_eq_getElem hj⟩
          have hk2 := awaits_listed hI.closed hoj (fun e he hb => hI.closed j oj hlj hoj e he hb) (q2 hi)
          rw [hkL] at hk2; cases hk2
        · exact q1 hi⟩
      have hst := hstep k o ho xs Ss w hI.ext (fun hko => hI.young (fun j hj hl => by
          cases h : (sp j).old
          · rfl
          · have := hs.one j k hj hkn h hko
            rw [this, hkL] at hl; cases hl)) (fun i hi => ⟨hI.G i (hlive i hi), fun g hg => ⟨(hI.bd i (hlive i hi) g hg).1.imp id (·.1), (hI.bd i (hlive i hi) g hg).2⟩⟩) (fun i hi j hj hij => hI.dis i j (hlive i hi) (hlive j hj) hij)
      have hagr : Agr (· ∈ o.looksAt ops) a (lexF ops sp a0 k xs) := by
        unfold lexF
        rw [hI.frame, ← fr_lt (k := k) (n := ops.size) (by omega)]
        refine Agr.fr (fun i hi hT => ?_) ⟨rfl, fun _ _ => rfl⟩
        obtain ⟨d, hd, hdT⟩ := hT
        have hin : i < ops.size := by simpa using hi
        have hoi : ops[i]? = some ops[i] := Array.getElem?_eq_getElem hin
        rw [hoi] at hd
        simp only [Option.bind_some] at hd
        rcases Nat.lt_trichotomy i k with hlt | heq | hgt
        · rw [decide_eq_true hlt]
          by_cases hw : ∃ e ∈ o.after, Region.binds .any e = true ∧ e.on = i
          · obtain ⟨e, he, hb, rfl⟩ := hw
            exact hr e he hb
          · have := (Oper.apart_spec (hs.ap i k _ o hlt hoi ho (fun e he hb hh => hw ⟨e, he, hb, hh⟩))).1 d hd
            exact absurd hdT this
        · rw [heq, hkL]; simp
        · rw [decide_eq_false (by omega)]
          by_cases hw : ∃ e ∈ (ops[i]).after, Region.binds .any e = true ∧ e.on = k
          · obtain ⟨e, he, hb, rfl⟩ := hw
            cases hL : listed.getD i false
            · rfl
            · have := hI.closed i _ hL hoi e he hb
              rw [hkL] at this; cases this
          · have := (Oper.apart_spec (hs.ap k i o _ hgt ho hoi (fun e he hb hh => hw ⟨e, he, hb, hh⟩))).2.2 d hd
            exact absurd hdT this
      obtain ⟨hex, hwt⟩ := hagr.exec (hs.nosel k o · · ho)
      have hnext : ∀ v w', Out I (sp k) k o xs Ss w v w' → wpAny P .any ops Q fuel (listed.setIfInBounds k true) (a.put o.dst v) w' := fun v w' hv => by
        obtain ⟨xs', Ss', hI'⟩ := hI.step hs ho hkL hr hv
        have hLe : (fun i => listed.getD i false || i == k) = fun i => (listed.setIfInBounds k true).getD i false := by
          funext i
          by_cases hik : i = k
          · subst hik; simp [Array.getD_eq_getD_getElem?, hsz, hkn]
          · rw [getD_set_ne false (Ne.symm hik)]; simp [hik]
        rw [hLe] at hI'
        refine ih _ _ _ xs' Ss' (by simpa using hsz) ?_ hI'
        have := filter_lt (p := fun i => !listed.getD i false) (q := fun i => !(listed.setIfInBounds k true).getD i false) (k := k) (l := List.range ops.size) (fun i _ hi => by
          have he := congrFun hLe i
          rw [← he] at hi
          simp only [Bool.not_or, Bool.and_eq_true] at hi
          exact hi.1) (by simpa using hkn) (by simp only [hkL, Bool.not_false]) (by have he := congrFun hLe k; rw [← he]; simp)
        omega
      unfold wpOp
      simp only [ho]
      rw [hwt]
      split
      · rename_i hw
        rw [if_pos hw] at hst
        exact .inl (wp_of_out hex hst hnext)
      · rename_i hw
        rw [if_neg hw] at hst
        exact hnext _ _ hst
end Rl
end Go.Proofs.YtlfnpkjfnafeaaaDoor
/- The law of Rl as a walk: one operation after the other, in the order of the text. -/
namespace Go.Proofs.YtlfnpkjfnafeaaaDoor
open Go.RowKit
namespace Rl
def nK : Kind := ⟨fun _ => undef, fun _ _ _ => True, [], [], [], false⟩
def spOf (hist : List Kind) (i : Nat) : Kind := hist.getD i nK
def freeB (n : Nat) (hist : List Kind) (i : Nat) : Bool := (List.range n).all fun j => !((spOf hist j).es.contains i)
def checkB (ops : Array Oper) (hist : List Kind) : Bool :=
  (List.range ops.size).all fun k => ((spOf hist k).ds ++ ((spOf hist k).us ++ (spOf hist k).es)).all (fun i => awaits ops 3 k i) &&
    (List.range ops.size).all fun m => m == k || (!((spOf hist k).old && (spOf hist m).old) && (spOf hist k).es.all fun i => !(spOf hist m).es.contains i && (!(spOf hist m).us.contains i || awaits ops 3 k m))
def dstB (ops : Array Oper) : Bool := (List.range ops.size).all fun i => (List.range ops.size).all fun j => i == j || (match (ops[i]?).bind (·.dst) with | some d => (ops[j]?).bind (·.dst) != some d | none => true)
def RelW (P : Program) (ops : Array Oper) (I : Nat → Prop) (w0 : World) (Q : Exit → Act → World → Prop) : List Oper → Nat → List Kind → ((Nat → Value) → Act) → Prop
  | [], _, hist, A => checkB ops hist = true ∧ ∀ (xs : Nat → Value) (Ss : Nat → Nat → Prop) (w : World), Chg I w0 w → (∀ i, i < ops.size → freeB ops.size hist i = true → (spOf hist i).G xs (Ss i) w ∧ ∀ g, Ss i g → (w0.heap.size ≤ g ∨ I g) ∧ g < w.heap.size) →
      (∀ i j, i < ops.size → j < ops.size → freeB ops.size hist i = true → freeB ops.size hist j = true → i ≠ j → ∀ g, Ss i g → ¬ Ss j g) → Q .normal (A xs) w
  | o :: rest, k, hist, A => ∃ K : Kind, K.loc k ∧ K.stab (oldO w0 I) ∧ (∀ i ∈ K.us ++ K.es, i < k) ∧ stepOK P ops I (spOf (hist ++ [K])) w0 k o A ∧ RelW P ops I w0 Q rest (k + 1) (hist ++ [K]) (fun xs => (A xs).put o.dst (K.val xs))
theorem spOf_app {hist more : List Kind} {i : Nat} (h : i < hist.length) : spOf (hist ++ more) i = spOf hist i := by
  simp [spOf, List.getElem?_append_left h]
theorem spOf_last {hist : List Kind} {K : Kind} : spOf (hist ++ [K]) hist.length = K := by
  simp [spOf]
theorem stepOK_app {P : Program} {ops : Array Oper} {I : Nat → Prop} {hist more : List Kind} {w0 : World} {k : Nat} {o : Oper} {A : (Nat → Value) → Act} (hk : k < hist.length) (hus : ∀ i ∈ (spOf hist k).us ++ (spOf hist k).es, i < k) (h : stepOK P ops I (spOf hist) w0 k o A) : stepOK P ops I (spOf (hist ++ more)) w0 k o A := by
  unfold stepOK at *
  rw [spOf_app hk]
  intro xs Ss w hx ho hf hd
  exact h xs Ss w hx ho (fun i hi => by have := hf i hi; rwa [spOf_app (by have := hus i hi; omega)] at this) hd
theorem lexF_app {ops : Array Oper} {hist more : List Kind} {a0 : Act} {k : Nat} (hk : k ≤ hist.length) (xs : Nat → Value) : lexF ops (spOf (hist ++ more)) a0 k xs = lexF ops (spOf hist) a0 k xs := by
  unfold lexF
  exact fr_congr (fun _ _ => rfl) (fun i hi _ => by have hik : i < k := (by simpa using hi); rw [spOf_app (by omega)])
theorem lexF_succ {ops : Array Oper} {sp : Nat → Kind} {a0 : Act} {k : Nat} {o : Oper} (ho : ops[k]? = some o) (xs : Nat → Value) : lexF ops sp a0 (k + 1) xs = (lexF ops sp a0 k xs).put o.dst ((sp k).val xs) := by
  simp [lexF, fr, List.range_succ, ho]
theorem RelW.full {P : Program} {ops : Array Oper} {I : Nat → Prop} {w0 : World} {a0 : Act} {Q : Exit → Act → World → Prop} : ∀ {l : List Oper} {k : Nat} {hist : List Kind} {A : (Nat → Value) → Act}, RelW P ops I w0 Q l k hist A → hist.length = k → k + l.length = ops.size → (∀ j, l[j]? = ops[k + j]?) → (∀ xs, A xs = lexF ops (spOf hist) a0 k xs) →
    (∀ j o, j < k → ops[j]? = some o → (spOf hist j).loc j ∧ (spOf hist j).stab (oldO w0 I) ∧ (∀ i ∈ (spOf hist j).us ++ (spOf hist j).es, i < j) ∧ stepOK P ops I (spOf hist) w0 j o (lexF ops (spOf hist) a0 j)) →
    ∃ full : List Kind, full.length = ops.size ∧ checkB ops full = true ∧
      (∀ j o, ops[j]? = some o → (spOf full j).loc j ∧ (spOf full j).stab (oldO w0 I) ∧ stepOK P ops I (spOf full) w0 j o (lexF ops (spOf full) a0 j)) ∧
      ∀ (xs : Nat → Value) (Ss : Nat → Nat → Prop) (w : World), Chg I w0 w → (∀ i, i < ops.size → freeB ops.size full i = true → (spOf full i).G xs (Ss i) w ∧ ∀ g, Ss i g → (w0.heap.size ≤ g ∨ I g) ∧ g < w.heap.size) →
      (∀ i j, i < ops.size → j < ops.size → freeB ops.size full i = true → freeB ops.size full j = true → i ≠ j → ∀ g, Ss i g → ¬ Ss j g) → Q .normal (lexF ops (spOf full) a0 ops.size xs) w
  | [], k, hist, A, h, hlen, hn, hl, hA, hd => by
    obtain ⟨h1, h2⟩ := h
    have hkn : k = ops.size := by simpa using hn
    refine ⟨hist, by omega, h1, fun j o ho => ?_, fun xs Ss w hx hf hdis => ?_⟩
    · have := hd j o (by have := (Array.getElem?_eq_some_iff.1 ho).1; omega) ho
      exact ⟨this.1, this.2.1, this.2.2.2⟩
    · have := h2 xs Ss w hx hf hdis
      rwa [hA xs, hkn] at this
  | o :: rest, k, hist, A, h, hlen, hn, hl, hA, hd => by
    obtain ⟨K, h1, h2, h3, h4, h5⟩ := h
    have ho : ops[k]? = some o := by simpa using (hl 0).symm
    have hlast : spOf (hist ++ [K]) k = K := by rw [← hlen]; exact spOf_last
    have hA' : A = lexF ops (spOf (hist ++ [K])) a0 k := by funext xs; rw [hA xs, lexF_app (by omega)]
    refine RelW.full h5 (by simp [hlen]) (by simp at hn; omega) (fun j => by have := hl (j + 1); simpa [Nat.add_assoc, Nat.add_comm 1 j] using this) (fun xs => ?_) (fun j oj hj hoj => ?_)
    · rw [lexF_succ ho, hlast, hA']
    · by_cases hjk : j = k
      · subst hjk
        rw [ho] at hoj; cases hoj
        rw [hlast]
        exact ⟨h1, h2, h3, hA' ▸ h4⟩
      · have hlt : j < hist.length := by omega
        obtain ⟨a1, a2, a3, a4⟩ := hd j oj (by omega) hoj
        have hlx : lexF ops (spOf (hist ++ [K])) a0 j = lexF ops (spOf hist) a0 j := by funext xs; exact lexF_app (by omega) xs
        rw [hlx, spOf_app hlt]
        exact ⟨a1, a2, a3, stepOK_app hlt a3 a4⟩
theorem lex_spec {ops : Array Oper} : ∀ {fuel k : Nat} {listed : Array Bool}, Region.lexFrom .any ops fuel k listed = true → k + fuel = ops.size → listed.size = ops.size → (∀ i, i < ops.size → listed.getD i false = decide (i < k)) →
    ∀ j oj, k ≤ j → ops[j]? = some oj → (∀ e ∈ oj.after, Region.binds .any e = true → e.on < j) ∧ ∀ m om, j < m → ops[m]? = some om → (∀ e ∈ om.after, Region.binds .any e = true → e.on ≠ j) → oj.apart ops om = true
  | 0, k, listed, h, hk, hsz, hL, j, oj, hj, hoj => by
    have := (Array.getElem?_eq_some_iff.1 hoj).1
    omega
  | fuel + 1, k, listed, h, hk, hsz, hL, j, oj, hj, hoj => by
    simp only [Region.lexFrom, Bool.and_eq_true] at h
    obtain ⟨⟨hr, hf⟩, hB⟩ := h
    by_cases hjk : j = k
    · subst hjk
      have hr' : j ∈ Region.ready .any ops listed := by simpa using hr
      obtain ⟨h1, o, ho, h2⟩ := mem_ready.1 hr'
      rw [hoj] at ho; cases ho
      refine ⟨fun e he hb => ?_, fun m om hm hom hno => ?_⟩
      · have h3 := h2 e he hb
        by_cases hen : e.on < ops.size
        · rw [hL _ hen] at h3; simpa using h3
        · simp [Array.getElem?_eq_none (show listed.size ≤ e.on by omega)] at h3
      · have hmn := (Array.getElem?_eq_some_iff.1 hom).1
        refine Region.free_spec hoj hf m om hom (by omega) ?_ hno
        have h3 := hL m hmn
        rw [decide_eq_false (by omega)] at h3
        simp only [Array.getD_eq_getD_getElem?, Array.getElem?_eq_getElem (show m < listed.size by omega), Option.getD_some] at h3 ⊢
        exact h3
    · refine lex_spec hB (by omega) (by simpa using hsz) (fun i hi => ?_) j oj (by omega) hoj
      by_cases hik : i = k
      · subst hik; simp [hsz, hi]
      · rw [getD_set_ne false (Ne.symm hik), hL i hi]
        congr 1
        apply propext
        omega
theorem wp_region_rel {P : Program} {id : Nat} {Q : Exit → Act → World → Prop} {a : Act} {w : World} {l : List Oper} (I : Nat → Prop) (hI : ∀ g, I g → g < w.heap.size) (hm : P.follows .mixedOrders = true) (hB : Region.lexB .any l.toArray = true) (hD : dstB l.toArray = true)
    (h : RelW P l.toArray I w Q l 0 [] (fun _ => a)) : (Code.region id l.toArray true).wp P Q a w := by
  simp only [Region.lexB, Bool.and_eq_true] at hB
  obtain ⟨full, hlen, hck, hall, hfin⟩ := RelW.full (a0 := a) h rfl (by simp) (by simp) (fun xs => by simp [lexF, fr]) (fun j o hj => by omega)
  have hsp := lex_spec hB.2 (by simp) (by simp) (fun i hi => by simp at hi; simp [hi])
  simp only [checkB, List.all_eq_true, List.mem_range, Bool.and_eq_true, Bool.or_eq_true, beq_iff_eq] at hck
  simp only [dstB, List.all_eq_true, List.mem_range, Bool.or_eq_true, beq_iff_eq] at hD
  have hst : Static l.toArray I (spOf full) w := {
    I := hI
    nosel := fun j o cs b ho => Region.noSelect_spec hB.1 j o cs b ho
    ready := fun k o ho => (hsp k o (Nat.zero_le _) ho).1
    ap := fun i j oi oj hij hoi hoj hno => (hsp i oi (Nat.zero_le _) hoi).2 j oj hij hoj hno
    dst := fun i j hi hj hij d hd => by
      rcases hD i hi j hj with h1 | h1
      · exact absurd h1 hij
      · rw [hd] at h1
        simpa using h1
    loc := fun k hk => (hall k _ (Array.getElem?_eq_getElem hk)).1
    stab := fun k hk => (hall k _ (Array.getElem?_eq_getElem hk)).2.1
    aw := fun k hk i hi => (hck k hk).1 i hi
    one := fun j m hj hm h1 h2 => by
      rcases (hck j hj).2 m hm with h | h
      · exact h.symm
      · have := h.1
        simp [h1, h2] at this
    eat := fun j m i hj hm hi hmj => by
      rcases (hck j hj).2 m hm with h1 | h1
      · exact absurd h1 hmj
      · have h2 := h1.2 i hi
        simp only [Bool.not_eq_true', List.contains_eq_mem, decide_eq_false_iff_not] at h2
        exact ⟨h2.1, fun hu => h2.2.resolve_left (fun hn => hn hu)⟩ }
  refine wp_region_any hm (any hst (fun k o ho => (hall k o ho).2.2) (fun xs Ss w' hx hf => hfin xs Ss w' hx (fun i hi hb => hf.1 i hi (fun j hj => ?_)) (fun i j hi hj h1 h2 hij => hf.2 i j hi hj (fun m hm => ?_) (fun m hm => ?_) hij)) _ _ _ _ (fun _ => undef) (fun _ _ => False) (by simp) ?_ ?_)
  · simp only [freeB, List.all_eq_true, List.mem_range] at hb
    simpa using hb j hj
  · simp only [freeB, List.all_eq_true, List.mem_range] at h1
    simpa using h1 m hm
  · simp only [freeB, List.all_eq_true, List.mem_range] at h2
    simpa using h2 m hm
  · refine Nat.le_trans (List.length_filter_le _ _) ?_
    simp
  · have hno : ∀ i, (Array.replicate l.toArray.size false).getD i false = false := fun i => by
      simp only [Array.getD_eq_getD_getElem?, Array.getElem?_replicate]
      split <;> rfl
    exact {
      frame := by
        have : fr (fun i => (l.toArray[i]?).bind (·.dst)) (List.range l.toArray.size) (fun i => (Array.replicate l.toArray.size false).getD i false) (fun i => (spOf full i).val fun _ => undef) a = fr (fun i => (l.toArray[i]?).bind (·.dst)) (List.range l.toArray.size) (fun _ => false) (fun i => (spOf full i).val fun _ => undef) a := fr_congr (fun i _ => hno i) (fun _ _ _ => rfl)
        rw [this]
        generalize List.range l.toArray.size = r
        induction r with
        | nil => rfl
        | cons i r ih => rw [fr_f rfl]; exact ih
      ext := Chg.of_ext (Ext.drawn w)
      young := fun _ => Ext.drawn w
      closed := fun k o hk => by simp only [hno] at hk; cases hk
      lt := fun i hi => by simp only [hno] at hi; cases hi
      G := fun i hi => by have := hi.1; simp only [hno] at this; cases this
      bd := fun i hi => by have := hi.1; simp only [hno] at this; cases this
      dis := fun i j hi => by have := hi.1; simp only [hno] at this; cases this }
end Rl
end Go.Proofs.YtlfnpkjfnafeaaaDoor
/- Operations of the walk of Rl3: such as leave the world alone (quiet), such as make a row of their own (new, append, call), boxes. -/
namespace Go.Proofs.YtlfnpkjfnafeaaaDoor
open Go.RowKit
namespace Rl
def kQ (v : (Nat → Value) → Value) (ds us : List Nat) : Kind := ⟨v, fun _ _ _ => True, ds, us, [], false⟩
/-- the outcome is a slice that owns its row -/
def kO (k : Nat) (base : Nat) (E : TypeId) (sz n : Nat) (cells : List Value) (us es : List Nat) : Kind :=
  ⟨fun xs => xs k, fun xs S w => w.ownsRow base E sz (xs k) n cells ∧ ∀ g, (xs k).ownBlock = some g → S g, [], us, es, false⟩
/-- the outcome is the address of a new block that is known whole, given as f of the block's number -/
def kB (k : Nat) (f : Nat → Value) (t : TypeId) (cs : (Nat → Value) → Array Value) (ds us es : List Nat) : Kind :=
  ⟨fun xs => xs k, fun xs S w => ∃ g, xs k = f g ∧ Blk w g t (cs xs) ∧ S g, ds, us, es, false⟩
section
variable {P : Program} {ops : Array Oper} {I : Nat → Prop} {w0 : World} {Q : Exit → Act → World → Prop} {rest : List Oper} {o : Oper} {k : Nat} {hist : List Kind} {A : (Nat → Value) → Act}
theorem kQ.loc {v : (Nat → Value) → Value} {ds us : List Nat} {k : Nat} (h : ∀ xs ys, (∀ j ∈ ds, xs j = ys j) → v xs = v ys) : (kQ v ds us).loc k := fun xs ys he =>
  ⟨h xs ys (fun j hj => he j (List.mem_cons_of_mem _ hj)), fun _ _ _ => trivial⟩
theorem kQ.stab {v : (Nat → Value) → Value} {ds us : List Nat} {O : Nat → Prop} : (kQ v ds us).stab O := fun _ _ _ _ _ _ _ _ => trivial
theorem kO.loc {k base : Nat} {E : TypeId} {sz n : Nat} {cells : List Value} {us es : List Nat} : (kO k base E sz n cells us es).loc k := fun xs ys he => by
  have e := he k (by simp)
  simp only [kO]
  exact ⟨e, fun S w h => by rw [← e]; exact h⟩
theorem kO.stab {k base : Nat} {E : TypeId} {sz n : Nat} {cells : List Value} {us es : List Nat} {O : Nat → Prop} : (kO k base E sz n cells us es).stab O := fun _ _ _ _ _ h _ hk =>
  ⟨own_kp h.1 h.2 hk, h.2⟩
theorem kB.loc {k : Nat} {f : Nat → Value} {t : TypeId} {cs : (Nat → Value) → Array Value} {ds us es : List Nat} (h : ∀ xs ys, (∀ j ∈ k :: ds, xs j = ys j) → cs xs = cs ys) : (kB k f t cs ds us es).loc k := fun xs ys he => by
  have e := he k (by simp)
  have e2 := h xs ys he
  simp only [kB]
  exact ⟨e, fun S w h => by rw [← e, ← e2]; exact h⟩
theorem kB.stab {k : Nat} {f : Nat → Value} {t : TypeId} {cs : (Nat → Value) → Array Value} {ds us es : List Nat} {O : Nat → Prop} : (kB k f t cs ds us es).stab O := fun _ _ _ _ _ ⟨g, h1, h2, h3⟩ _ hk =>
  ⟨g, h1, blk_kp h2 h3 hk, h3⟩
theorem upd_self (xs : Nat → Value) (k : Nat) (v : Value) : upd xs k v k = v := by simp [upd]
theorem upd_ne {xs : Nat → Value} {k i : Nat} {v : Value} (h : i ≠ k) : upd xs k v i = xs i := by simp [upd, h]
/-- what an operation may use of earlier ones -/
def Has (I : Nat → Prop) (hist : List Kind) (w0 : World) (l : List Nat) (xs : Nat → Value) (Ss : Nat → Nat → Prop) (w : World) : Prop :=
  (∀ i ∈ l, (spOf hist i).G xs (Ss i) w ∧ ∀ g, Ss i g → (w0.heap.size ≤ g ∨ I g) ∧ g < w.heap.size) ∧ ∀ i ∈ l, ∀ j ∈ l, i ≠ j → ∀ g, Ss i g → ¬ Ss j g
theorem Has.get {l : List Nat} {xs : Nat → Value} {Ss : Nat → Nat → Prop} {w : World} (h : Has I hist w0 l xs Ss w) {i : Nat} {K : Kind} (hi : i ∈ l) (hK : spOf hist i = K) : K.G xs (Ss i) w ∧ ∀ g, Ss i g → (w0.heap.size ≤ g ∨ I g) ∧ g < w.heap.size := by
  subst hK; exact h.1 i hi
theorem want_none (hg : o.guard = none) (a : Act) : Region.wanted o (yielded ops a.tmps) = true := by simp [Region.wanted, hg]
/-- the general step without a guard, that writes no old block -/
theorem RelW.step (K : Kind) (hlen : hist.length = k) (hg : o.guard = none) (h1 : K.loc k) (h2 : K.stab (oldO w0 I)) (hlt : ∀ i ∈ K.us ++ K.es, i < k)
    (h : ∀ xs Ss w, Chg I w0 w → Has I hist w0 (K.us ++ K.es) xs Ss w → outAt P o (A xs) w (fun v w' => ∃ S, ((o.dst = none ∨ v = K.val (upd xs k v)) ∧ K.G (upd xs k v) S w') ∧ Chg (fun g => ∃ i ∈ K.es, Ss i g) w w' ∧ ∀ g, S g → (∃ i ∈ K.es, Ss i g) ∨ (w.heap.size ≤ g ∧ g < w'.heap.size)))
    (hr : RelW P ops I w0 Q rest (k + 1) (hist ++ [K]) (fun xs => (A xs).put o.dst (K.val xs))) : RelW P ops I w0 Q (o :: rest) k hist A := by
  refine ⟨K, h1, h2, hlt, ?_, hr⟩
  intro xs Ss w hC _ hf hd
  have hlast : spOf (hist ++ [K]) k = K := by rw [← hlen]; exact spOf_last
  rw [hlast] at hf hd ⊢
  rw [if_pos (want_none hg _)]
  have hH : Has I hist w0 (K.us ++ K.es) xs Ss w := ⟨fun i hi => by
    have := hf i hi
    rwa [spOf_app (by have := hlt i hi; omega)] at this, hd⟩
  unfold outAt at *
  refine outR_mono ?_ (h xs Ss w hC hH)
  rintro v w' ⟨S, ⟨hv, hG⟩, hch, hS⟩
  refine ⟨v, S, hv, hG, ⟨hch.os, hch.tape, hch.output, hch.size, fun g hg hn => hch.block g hg (fun c => hn (.inl c))⟩, fun g hg => ?_⟩
  rcases hS g hg with h | h
  · exact .inl (.inl h)
  · exact .inr h
/-- an operation that leaves the world alone -/
theorem RelW.quiet (v : (Nat → Value) → Value) (ds us : List Nat) (hlen : hist.length = k) (hg : o.guard = none) (hl : ∀ xs ys : Nat → Value, (∀ j ∈ ds, xs j = ys j) → v xs = v ys) (hlt : ∀ i ∈ us, i < k) (hds : ∀ i ∈ ds, i < k)
    (h : ∀ xs Ss w, Chg I w0 w → Has I hist w0 us xs Ss w → outAt P o (A xs) w (fun v' w' => v' = v xs ∧ w' = w))
    (hr : RelW P ops I w0 Q rest (k + 1) (hist ++ [kQ v ds us]) (fun xs => (A xs).put o.dst (v xs))) : RelW P ops I w0 Q (o :: rest) k hist A := by
  refine RelW.step (kQ v ds us) hlen hg (kQ.loc hl) kQ.stab (by simpa [kQ] using hlt) ?_ hr
  intro xs Ss w hC hH
  have hH' : Has I hist w0 us xs Ss w := by simpa [kQ] using hH
  unfold outAt at *
  refine outR_mono ?_ (h xs Ss w hC hH')
  rintro v' w' ⟨rfl, rfl⟩
  refine ⟨fun _ => False, ⟨.inr ?_, trivial⟩, Chg.rfl', fun g hg => hg.elim⟩
  exact hl _ _ (fun j hj => (upd_ne (by have := hds j hj; omega)).symm)
/-- an operation whose outcome is a row of its own -/
theorem RelW.own (base : Nat) (E : TypeId) (sz n : Nat) (cells : List Value) (us es : List Nat) (hlen : hist.length = k) (hg : o.guard = none) (hlt : ∀ i ∈ us ++ es, i < k)
    (h : ∀ xs Ss w, Chg I w0 w → Has I hist w0 (us ++ es) xs Ss w → outAt P o (A xs) w (fun v w' => w'.ownsRow base E sz v n cells ∧ Chg (fun g => ∃ i ∈ es, Ss i g) w w' ∧ ∀ g, v.ownBlock = some g → (∃ i ∈ es, Ss i g) ∨ (w.heap.size ≤ g ∧ g < w'.heap.size)))
    (hr : RelW P ops I w0 Q rest (k + 1) (hist ++ [kO k base E sz n cells us es]) (fun xs => (A xs).put o.dst (xs k))) : RelW P ops I w0 Q (o :: rest) k hist A := by
  refine RelW.step (kO k base E sz n cells us es) hlen hg kO.loc kO.stab hlt ?_ hr
  intro xs Ss w hC hH
  unfold outAt at *
  refine outR_mono ?_ (h xs Ss w hC hH)
  rintro v w' ⟨h1, h2, h3⟩
  refine ⟨fun g => v.ownBlock = some g, ⟨.inr ?_, ?_⟩, h2, h3⟩
  · simp only [kO, upd_self]
  · simp only [kO, upd_self]
    exact ⟨h1, fun g hg => hg⟩
/-- an operation whose outcome is a new block that is known whole -/
theorem RelW.box (f : Nat → Value) (t : TypeId) (cs : (Nat → Value) → Array Value) (ds us : List Nat) (hlen : hist.length = k) (hg : o.guard = none) (hlt : ∀ i ∈ us, i < k) (hds : ∀ i ∈ ds, i < k) (hl : ∀ xs ys : Nat → Value, (∀ j ∈ ds, xs j = ys j) → cs xs = cs ys)
    (h : ∀ xs Ss w, Chg I w0 w → Has I hist w0 us xs Ss w → outAt P o (A xs) w (fun v w' => v = f w.heap.size ∧ w' = w.alloc (.cells (cs xs) t)))
    (hr : RelW P ops I w0 Q rest (k + 1) (hist ++ [kB k f t cs ds us []]) (fun xs => (A xs).put o.dst (xs k))) : RelW P ops I w0 Q (o :: rest) k hist A := by
  refine RelW.step (kB k f t cs ds us []) hlen hg (kB.loc fun xs ys he => hl _ _ (fun j hj => he j (by simp [hj]))) kB.stab (by simpa [kB] using hlt) ?_ hr
  intro xs Ss w hC hH
  have hH' : Has I hist w0 us xs Ss w := by simpa [kB] using hH
  unfold outAt at *
  refine outR_mono ?_ (h xs Ss w hC hH')
  rintro v w' ⟨rfl, rfl⟩
  refine ⟨fun g => g = w.heap.size, ⟨.inr ?_, ?_⟩, Chg.of_ext (Ext.new _ _), fun g hg => .inr ?_⟩
  · simp only [kB, upd_self]
  · simp only [kB, upd_self]
    refine ⟨_, rfl, ?_, rfl⟩
    rw [show cs (upd xs k (f w.heap.size)) = cs xs from hl _ _ (fun j hj => upd_ne (by have := hds j hj; omega))]
    exact Blk.new w t _
  · subst hg; rw [World.size_alloc]; exact ⟨Nat.le_refl _, Nat.lt_succ_self _⟩
/-- append onto a row that another operation of the region has made -/
theorem RelW.append (i : Nat) (us : List Nat) (base : Nat) (E : TypeId) (sz n m : Nat) (cells news : List Value) (bytes : Nat) (z : Value) (t : TypeId) (s x : Operand) (hlen : hist.length = k) (hg : o.guard = none) (hlt : ∀ i ∈ us, i < k)
    (ho : o.op = .call { callee := .builtin .append, args := #[s, x], argTypes := #[t, t] }) (ht : P.underlying t = some (.slice E)) (hinfo : (P.info? E).map (fun i => (i.zero, i.size, i.bytes)) = some (some z, sz, bytes))
    (hzs : z.cells.size = sz) (hsz : 0 < sz) (us' es' : List Nat) (hK : spOf hist i = kO i base E sz n cells us' es') (hi : i < k) (hbase : base ≤ w0.heap.size)
    (hs : ∀ xs, (A xs).eval s = xs i) (hl : news.length = m * sz) (h1 : ∀ u ∈ news, u.oneCell' = true) (h63 : n + m ≤ maxLen) (hbytes : (n + m) * bytes ≤ 140737488355328)
    (h : ∀ xs Ss w, Chg I w0 w → Has I hist w0 (us ++ [i]) xs Ss w → ∃ A' c, (A xs).eval x = .slice A' m c ∧ Sits w A' news)
    (hr : RelW P ops I w0 Q rest (k + 1) (hist ++ [kO k base E sz (n + m) (cells ++ news) us [i]]) (fun xs => (A xs).put o.dst (xs k))) : RelW P ops I w0 Q (o :: rest) k hist A := by
  refine RelW.own base E sz (n + m) (cells ++ news) us [i] hlen hg (by intro j hj; rcases List.mem_append.1 hj with hj | hj; exact hlt j hj; simp at hj; omega) ?_ hr
  intro xs Ss w hC hH
  obtain ⟨A', c, hx, hS⟩ := h xs Ss w hC hH
  obtain ⟨hKi, hSi⟩ := hH.get (i := i) (by simp) hK
  obtain ⟨hown, hown2⟩ := hKi
  have hsz0 : w0.heap.size ≤ w.heap.size := hC.size
  obtain ⟨v', w', hrun, h2, h3, h4, h5⟩ := run_append_row (P := P) w o.type t base E sz bytes z ht hinfo hzs hsz (xs i) n cells hown A' m c news hl hS h1 h63 hbytes (by omega)
  have hz : w.heap.size ≤ w'.heap.size := h4.size
  unfold outAt execOp
  simp only [ho, resolve, invoke, builtin, Sem.run_bind, Sem.run_pure, Result.andThen_ok, List.map_toArray, List.map_cons, List.map_nil, hs, hx, hrun, outR]
  refine ⟨h2, Chg.of_grown h4 (fun g hg => ⟨i, by simp, hown2 g hg⟩), fun g hg => ?_⟩
  rcases h5 with e | e
  · rw [e] at hg; exact .inl ⟨i, by simp, hown2 g hg⟩
  · rw [e] at hg
    injection hg with hg
    subst hg
    refine .inr ⟨Nat.le_refl _, ?_⟩
    exact (h2.lt _ e).2
/-- the general step without a guard, that may write the blocks of I: the one operation of the region that does so -/
theorem RelW.stepOld (K : Kind) (hlen : hist.length = k) (hg : o.guard = none) (hold : K.old = true) (h1 : K.loc k) (h2 : K.stab (oldO w0 I)) (hlt : ∀ i ∈ K.us ++ K.es, i < k)
    (h : ∀ xs Ss w, Ext w0 w → Has I hist w0 (K.us ++ K.es) xs Ss w → outAt P o (A xs) w (fun v w' => ∃ S, ((o.dst = none ∨ v = K.val (upd xs k v)) ∧ K.G (upd xs k v) S w') ∧ Chg (fun g => (∃ i ∈ K.es, Ss i g) ∨ I g) w w' ∧ ∀ g, S g → ((∃ i ∈ K.es, Ss i g) ∨ I g) ∨ (w.heap.size ≤ g ∧ g < w'.heap.size)))
    (hr : RelW P ops I w0 Q rest (k + 1) (hist ++ [K]) (fun xs => (A xs).put o.dst (K.val xs))) : RelW P ops I w0 Q (o :: rest) k hist A := by
  refine ⟨K, h1, h2, hlt, ?_, hr⟩
  intro xs Ss w hC hO hf hd
  have hlast : spOf (hist ++ [K]) k = K := by rw [← hlen]; exact spOf_last
  rw [hlast] at hf hd hO ⊢
  rw [if_pos (want_none hg _)]
  have hH : Has I hist w0 (K.us ++ K.es) xs Ss w := ⟨fun i hi => by
    have := hf i hi
    rwa [spOf_app (by have := hlt i hi; omega)] at this, hd⟩
  unfold outAt at *
  refine outR_mono ?_ (h xs Ss w (hO hold) hH)
  rintro v w' ⟨S, ⟨hv, hG⟩, hch, hS⟩
  refine ⟨v, S, hv, hG, ⟨hch.os, hch.tape, hch.output, hch.size, fun g hg hn => hch.block g hg (fun c => hn (c.imp id (fun c => ⟨hold, c⟩)))⟩, fun g hg => ?_⟩
  exact (hS g hg).imp (fun c => c.imp id (fun c => ⟨hold, c⟩)) id
/-- a call that makes new memory and yields what is known -/
theorem RelW.callX (v : (Nat → Value) → Value) (ds us : List Nat) (hlen : hist.length = k) (hg : o.guard = none) (hl : ∀ xs ys : Nat → Value, (∀ j ∈ ds, xs j = ys j) → v xs = v ys) (hlt : ∀ i ∈ us, i < k) (hds : ∀ i ∈ ds, i < k)
    (h : ∀ xs Ss w, Chg I w0 w → Has I hist w0 us xs Ss w → outAt P o (A xs) w (fun v' w' => v' = v xs ∧ Ext w w'))
    (hr : RelW P ops I w0 Q rest (k + 1) (hist ++ [kQ v ds us]) (fun xs => (A xs).put o.dst (v xs))) : RelW P ops I w0 Q (o :: rest) k hist A := by
  refine RelW.step (kQ v ds us) hlen hg (kQ.loc hl) kQ.stab (by simpa [kQ] using hlt) ?_ hr
  intro xs Ss w hC hH
  have hH' : Has I hist w0 us xs Ss w := by simpa [kQ] using hH
  unfold outAt at *
  refine outR_mono ?_ (h xs Ss w hC hH')
  rintro v' w' ⟨rfl, hx⟩
  refine ⟨fun _ => False, ⟨.inr ?_, trivial⟩, Chg.of_ext hx, fun g hg => hg.elim⟩
  exact hl _ _ (fun j hj => (upd_ne (by have := hds j hj; omega)).symm)
theorem out_of_calls {f : FuncId} {args : Array Value} {a : Act} {w : World} {R : Value → World → Prop} (he : (execOp a.eval o).run P w = .ok (.enter f args) w) (h : Calls P f args w fun e w' => ∃ v, e = .returned v ∧ R v w') : outAt P o a w R := by
  unfold outAt
  rw [he]
  exact h
/-- append onto a row that was there before the region -/
theorem RelW.appendOld (v0 : Value) (us : List Nat) (base : Nat) (E : TypeId) (sz n m : Nat) (cells news : List Value) (bytes : Nat) (z : Value) (t : TypeId) (s x : Operand) (hlen : hist.length = k) (hg : o.guard = none) (hlt : ∀ i ∈ us, i < k)
    (ho : o.op = .call { callee := .builtin .append, args := #[s, x], argTypes := #[t, t] }) (ht : P.underlying t = some (.slice E)) (hinfo : (P.info? E).map (fun i => (i.zero, i.size, i.bytes)) = some (some z, sz, bytes))
    (hzs : z.cells.size = sz) (hsz : 0 < sz) (hown0 : w0.ownsRow base E sz v0 n cells) (hI : ∀ g, v0.ownBlock = some g → I g) (hbase : base ≤ w0.heap.size)
    (hs : ∀ xs, (A xs).eval s = v0) (hl : news.length = m * sz) (h1 : ∀ u ∈ news, u.oneCell' = true) (h63 : n + m ≤ maxLen) (hbytes : (n + m) * bytes ≤ 140737488355328)
    (h : ∀ xs Ss w, Ext w0 w → Has I hist w0 us xs Ss w → ∃ A' c, (A xs).eval x = .slice A' m c ∧ Sits w A' news)
    (hr : RelW P ops I w0 Q rest (k + 1) (hist ++ [⟨fun xs => xs k, fun xs S w => w.ownsRow base E sz (xs k) (n + m) (cells ++ news) ∧ ∀ g, (xs k).ownBlock = some g → S g, [], us, [], true⟩]) (fun xs => (A xs).put o.dst (xs k))) : RelW P ops I w0 Q (o :: rest) k hist A := by
  refine RelW.stepOld ⟨fun xs => xs k, fun xs S w => w.ownsRow base E sz (xs k) (n + m) (cells ++ news) ∧ ∀ g, (xs k).ownBlock = some g → S g, [], us, [], true⟩ hlen hg rfl ?_ ?_ (by simpa using hlt) ?_ hr
  · intro xs ys he
    have e := he k (by simp)
    exact ⟨e, fun S w h => by simp only at h ⊢; rw [← e]; exact h⟩
  · exact fun _ _ _ _ _ h _ hk => ⟨own_kp h.1 h.2 hk, h.2⟩
  intro xs Ss w hx0 hH
  have hH' : Has I hist w0 us xs Ss w := by simpa using hH
  obtain ⟨A', c, hx, hS⟩ := h xs Ss w hx0 hH'
  have hown := own_ext hown0 hx0
  have hsz0 : w0.heap.size ≤ w.heap.size := hx0.size
  obtain ⟨v', w', hrun, h2, h3, h4, h5⟩ := run_append_row (P := P) w o.type t base E sz bytes z ht hinfo hzs hsz v0 n cells hown A' m c news hl hS h1 h63 hbytes (by omega)
  have hz : w.heap.size ≤ w'.heap.size := h4.size
  unfold outAt execOp
  simp only [ho, resolve, invoke, builtin, Sem.run_bind, Sem.run_pure, Result.andThen_ok, List.map_toArray, List.map_cons, List.map_nil, hs, hx, hrun, outR]
  refine ⟨fun g => v'.ownBlock = some g, ⟨.inr ?_, ?_⟩, Chg.of_grown h4 (fun g hg => .inr (hI g hg)), fun g hg => ?_⟩
  · simp only [upd_self]
  · simp only [upd_self]
    exact ⟨h2, fun g hg => hg⟩
  · rcases h5 with e | e
    · rw [e] at hg; exact .inl (.inr (hI g hg))
    · rw [e] at hg
      injection hg with hg
      subst hg
      exact .inr ⟨Nat.le_refl _, (h2.lt _ e).2⟩
theorem Chg.tr_ext {E : Nat → Prop} {a b c : World} (k : Ext a b) (h : Chg E b c) (hE : ∀ g, E g → a.heap.size ≤ g) : Ext a c :=
  ⟨h.os.trans k.os, h.tape.trans k.tape, h.output.trans k.output, Nat.le_trans k.size h.size, fun i hi => (h.block i (Nat.lt_of_lt_of_le hi k.size) (fun e => by have := hE i e; omega)).trans (k.block i hi)⟩
theorem Chg.cell {E : Nat → Prop} {b c : World} (h : Chg E b c) {p : Addr} {v : Value} (hc : b.cell? p = some v) (hE : ¬ E p.block) : c.cell? p = some v := by
  have hl := World.block_lt_of_cell? b p hc
  have := h.block p.block hl hE
  unfold World.cell? at hc ⊢
  rw [this]; exact hc
theorem Chg.blk {E : Nat → Prop} {b c : World} (h : Chg E b c) {g : Nat} {t : TypeId} {cs : Array Value} (hb : Blk b g t cs) (hE : ¬ E g) : Blk c g t cs := by
  have hl := hb.lt
  unfold Blk at *
  rw [h.block g hl hE]; exact hb
end
theorem sits_blk {w : World} {g : Nat} {t : TypeId} {cs : Array Value} (h : Blk w g t cs) : Sits w (some ⟨g, 0, none⟩) cs.toList := fun _ =>
  ⟨g, 0, rfl, fun j u hu => by rw [Nat.zero_add, h.cell, ← Array.getElem?_toList]; exact hu⟩
theorem own_empty (W : World) (base : Nat) (E : TypeId) (sz : Nat) (hb : base ≤ W.heap.size) : (W.alloc (.cells #[] E)).ownsRow base E sz (.slice (some ⟨W.heap.size, 0, none⟩) 0 0) 0 [] :=
  ⟨by simp, .inr ⟨W.heap.size, 0, #[], rfl, hb, heap_alloc_new W _, Nat.le_refl _, by simp [maxLen], by simp, by simp⟩⟩
/-- what a literal of no elements leaves -/
theorem empty_out (W : World) (base : Nat) (E : TypeId) (sz : Nat) (hb : base ≤ W.heap.size) : (W.alloc (.cells #[] E)).ownsRow base E sz (.slice (some ⟨W.heap.size, 0, none⟩) 0 0) 0 [] ∧ Chg (fun _ => False) W (W.alloc (.cells #[] E)) ∧
    ∀ g, (Value.slice (some ⟨W.heap.size, 0, none⟩) 0 0).ownBlock = some g → W.heap.size ≤ g ∧ g < W.heap.size + 1 :=
  ⟨own_empty W base E sz hb, Chg.of_ext (Ext.new _ _), fun g hg => by simp only [Value.ownBlock, Option.some.injEq] at hg; subst hg; exact ⟨Nat.le_refl _, Nat.lt_succ_self _⟩⟩
end Rl
end Go.Proofs.YtlfnpkjfnafeaaaDoor
