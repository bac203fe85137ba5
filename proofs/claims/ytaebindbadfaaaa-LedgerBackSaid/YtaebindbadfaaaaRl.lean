
/- A region that draws its order and whose operations make memory, or write memory that other operations of the region have made: ONE walk in the order of the text.
   Each operation leaves what is known of its outcome (G) and owns the blocks that it made or took over (S); an operation may write only blocks that it takes over ('eats'). -/
import Derived.Test.YtaebindbadfaaaaAp
namespace Go.Proofs.Ytaebindbadfaaaa
open Go.RowKit
namespace Rl
/-- only blocks of E have changed -/
structure Chg (E : Nat → Prop) (w w' : World) : Prop where
  os : w'.os = w.os
  tape : w'.tape = w.tape
  output : w'.output = w.output
  size : w.heap.size ≤ w'.heap.size
  block : ∀ i, i < w.heap.size → ¬ E i → w'.heap[i]? = w.heap[i]?
/-- the blocks of O and those of S are as they were -/
structure Kp (O : Nat → Prop) (S : Nat → Prop) (w w' : World) : Prop where
  os : w'.os = w.os
  tape : w'.tape = w.tape
  output : w'.output = w.output
  size : w.heap.size ≤ w'.heap.size
  block : ∀ i, i < w.heap.size → (O i ∨ S i) → w'.heap[i]? = w.heap[i]?
theorem Chg.rfl' {E : Nat → Prop} {w : World} : Chg E w w := ⟨rfl, rfl, rfl, Nat.le_refl _, fun _ _ _ => rfl⟩
theorem Chg.of_ext {E : Nat → Prop} {w w' : World} (h : Ext w w') : Chg E w w' := ⟨h.os, h.tape, h.output, h.size, fun i hi _ => h.block i hi⟩
theorem Chg.ext {E : Nat → Prop} {w w' : World} (h : Chg E w w') (hE : ∀ g, ¬ E g) : Ext w w' := ⟨h.os, h.tape, h.output, h.size, fun i hi => h.block i hi (hE i)⟩
theorem Chg.of_grown {E : Nat → Prop} {w w' : World} {r : Option Nat} (h : w.grownBy w' r) (hr : ∀ g, r = some g → E g) : Chg E w w' :=
  ⟨h.os, h.tape, h.output, h.size, fun i hi hn => h.block i hi (fun e => hn (hr i e.symm))⟩
theorem own_kp {w w' : World} {base : Nat} {O S : Nat → Prop} {E : TypeId} {size n : Nat} {v : Value} {xs : List Value} (h : w.ownsRow base E size v n xs) (hS : ∀ g, v.ownBlock = some g → S g) (hk : Kp O S w w') : w'.ownsRow base E size v n xs := by
  refine ⟨h.1, ?_⟩
  rcases h.2 with hn | ⟨g, cap, cur, rfl, hb, hgg, rest⟩
  · exact .inl hn
  · refine .inr ⟨g, cap, cur, rfl, hb, ?_, rest⟩
    rw [hk.block g (Array.getElem?_eq_some_iff.1 hgg).1 (.inr (hS g rfl))]
    exact hgg
theorem blk_kp {w w' : World} {O S : Nat → Prop} {g : Nat} {t : TypeId} {cs : Array Value} (h : Blk w g t cs) (hS : S g) (hk : Kp O S w w') : Blk w' g t cs := by
  unfold Blk at *
  rw [hk.block g (Array.getElem?_eq_some_iff.1 h).1 (.inr hS)]
  exact h
def outR (P : Program) (R : Value → World → Prop) : Result Next → Prop
  | .ok (.value v) w' => R v w'
  | .ok .skip w' => R undef w'
  | .ok (.enter f args) w' => Calls P f args w' (fun e w'' => ∃ v, e = .returned v ∧ R v w'')
  | .ok (.row row args) w' => Rows P row args w' R
  | _ => False
/-- the operation, carried out in this frame and world, yields a value and a world of which R holds -/
def outAt (P : Program) (o : Oper) (a : Act) (w : World) (R : Value → World → Prop) : Prop := outR P R ((execOp a.eval o).run P w)
theorem outR_mono {P : Program} {R R' : Value → World → Prop} (h : ∀ v w, R v w → R' v w) {r : Result Next} (hr : outR P R r) : outR P R' r := by
  cases r with
  | ok n w' =>
    cases n <;> simp only [outR] at hr ⊢
    case value => exact h _ _ hr
    case skip => exact h _ _ hr
    case enter => exact hr.mono fun e w'' ⟨v, he, hv⟩ => ⟨v, he, h _ _ hv⟩
    case row => exact Rows.mono hr (fun _ _ hv => h _ _ hv)
  | halt x w' => simp only [outR] at hr
theorem wp_of_out {P : Program} {o : Oper} {a a' : Act} {w : World} {R : Value → World → Prop} {K : Act → World → Prop} {Q : Exit → Act → World → Prop} (he : execOp a.eval o = execOp a'.eval o) (h : outAt P o a' w R)
    (hK : ∀ v w', R v w' → K (a.put o.dst v) w') : o.wp P a w K Q := by
  unfold outAt at h
  unfold Oper.wp
  rw [he]
  generalize (execOp a'.eval o).run P w = r at *
  cases r with
  | ok n w' =>
    cases n <;> simp only [outR] at h <;> simp only [Oper.upon]
    case value => exact hK _ _ h
    case skip => exact hK _ _ h
    case enter => exact h.mono fun e w'' ⟨v, he, hv⟩ => by subst he; exact hK _ _ hv
    case row => exact Rows.mono h (fun _ _ hv => hK _ _ hv)
  | halt x w' => simp only [outR] at h
theorem out_of_wp {P : Program} {o : Oper} {a : Act} {w : World} {R : Value → World → Prop} (d : Nat) (hd : o.dst = some d) (hs : d < a.tmps.size) (h : o.wp P a w (fun a' w' => a'.defers = a.defers ∧ R (a'.tmps.getD d undef) w') (fun _ _ _ => False)) : outAt P o a w R := by
  unfold outAt
  unfold Oper.wp at h
  have hp : ∀ v, ((a.put o.dst v).tmps.getD d undef) = v := by intro v; rw [hd]; simp [Act.put, hs]
  generalize (execOp a.eval o).run P w = r at *
  cases r with
  | ok n w' =>
    cases n <;> simp only [outR] <;> simp only [Oper.upon] at h
    case value => rw [hp] at h; exact h.2
    case skip => rw [hp] at h; exact h.2
    case enter =>
      refine h.mono fun e w'' he => ?_
      cases e with
      | returned v => exact ⟨v, rfl, by simpa only [hp] using he.2⟩
      | panicked c => exact he.elim
      | outgrown => exact absurd he (by simp [LetsOut])
    case row => exact Rows.mono h (fun _ _ hv => by simpa only [hp] using hv.2)
    case defer d' =>
      have := congrArg List.length h.1
      rw [hd] at this
      simp [Act.put] at this
  | halt x w' =>
    cases x <;> simp only [Oper.upon] at h
/-! frames: puts in the order of the text -/
def fr (D : Nat → Option Tmp) (l : List Nat) (L : Nat → Bool) (f : Nat → Value) (a : Act) : Act := l.foldl (fun a i => if L i then a.put (D i) (f i) else a) a
section
variable {D : Nat → Option Tmp}
theorem fr_t {L : Nat → Bool} {f : Nat → Value} {i : Nat} {l : List Nat} {a : Act} (h : L i = true) : fr D (i :: l) L f a = fr D l L f (a.put (D i) (f i)) := by
  simp only [fr, List.foldl_cons, h, if_true]
theorem fr_f {L : Nat → Bool} {f : Nat → Value} {i : Nat} {l : List Nat} {a : Act} (h : L i = false) : fr D (i :: l) L f a = fr D l L f a := by
  simp [fr, h]
theorem fr_congr {L L' : Nat → Bool} {f f' : Nat → Value} : ∀ {l : List Nat} {a : Act}, (∀ i ∈ l, L i = L' i) → (∀ i ∈ l, L i = true → f i = f' i) → fr D l L f a = fr D l L' f' a
  | [], _, _, _ => rfl
  | i :: l, a, h1, h2 => by
    have e1 := h1 i (by simp)
    have ih := fun a => fr_congr (l := l) (a := a) (fun j hj => h1 j (by simp [hj])) (fun j hj => h2 j (by simp [hj]))
    cases hL : L i
    · rw [fr_f hL, fr_f (e1 ▸ hL)]; exact ih a
    · rw [fr_t hL, fr_t (e1 ▸ hL), h2 i (by simp) hL]; exact ih _
theorem fr_put {L : Nat → Bool} {f : Nat → Value} {x : Option Tmp} {v : Value} : ∀ {l : List Nat} {a : Act}, (∀ i ∈ l, L i = true → ∀ d, x = some d → D i ≠ some d) → fr D l L f (a.put x v) = (fr D l L f a).put x v
  | [], _, _ => rfl
  | i :: l, a, h => by
    have ih := fun a => fr_put (L := L) (f := f) (x := x) (v := v) (l := l) (a := a) (fun j hj => h j (by simp [hj]))
    cases hL : L i
    · rw [fr_f hL, fr_f hL]; exact ih a
    · rw [fr_t hL, fr_t hL, Act.put_comm a v (f i) (h i (by simp) hL)]; exact ih _
theorem fr_set {L : Nat → Bool} {f f' : Nat → Value} {k : Nat} : ∀ {l : List Nat} {a : Act}, k ∈ l → l.Nodup → L k = false → (∀ i ∈ l, L i = true → f' i = f i) → (∀ i ∈ l, i ≠ k → ∀ d, D k = some d → D i ≠ some d) →
    fr D l (fun i => L i || i == k) f' a = (fr D l L f a).put (D k) (f' k)
  | [], _, h, _, _, _, _ => by simp at h
  | i :: l, a, hk, hnd, hL, hf, hd => by
    obtain ⟨hi, hnd'⟩ := List.nodup_cons.1 hnd
    by_cases hik : i = k
    · subst hik
      have e1 : fr D l (fun j => L j || j == i) f' (a.put (D i) (f' i)) = fr D l L f (a.put (D i) (f' i)) := fr_congr (fun j hj => by
        have : j ≠ i := fun e => hi (e ▸ hj)
        simp [this]) (fun j hj hl => by
          have : j ≠ i := fun e => hi (e ▸ hj)
          simp [this] at hl
          exact hf j (by simp [hj]) hl)
      have e2 : fr D l L f (a.put (D i) (f' i)) = (fr D l L f a).put (D i) (f' i) := fr_put (fun j hj hl => hd j (by simp [hj]) (fun e => hi (e ▸ hj)))
      rw [fr_t (by simp), fr_f hL, e1, e2]
    · have ih := fun a => fr_set (L := L) (f := f) (f' := f') (l := l) (a := a) (by simpa [Ne.symm hik] using hk) hnd' hL (fun j hj => hf j (by simp [hj])) (fun j hj => hd j (by simp [hj]))
      cases hl : L i
      · rw [fr_f hl, fr_f (by simp [hl, hik])]; exact ih a
      · rw [fr_t hl, fr_t (by simp [hl]), hf i (by simp) hl]; exact ih _
/-- two frames that agree on some slots -/
def Agr (T : Tmp → Prop) (a a' : Act) : Prop := a.tmps.size = a'.tmps.size ∧ ∀ t, T t → a.tmps[t]? = a'.tmps[t]?
theorem Agr.put2 {T : Tmp → Prop} {a a' : Act} (h : Agr T a a') (x : Option Tmp) (v : Value) : Agr T (a.put x v) (a'.put x v) := by
  cases x with
  | none => exact h
  | some d =>
    refine ⟨by simp [Act.put, h.1], fun t ht => ?_⟩
    have := h.2 t ht
    by_cases hd : d = t
    · subst hd; simp only [Act.put, Array.getElem?_setIfInBounds, if_true, h.1]
    · simp only [Act.put, Array.getElem?_setIfInBounds_ne hd, this]
theorem Agr.put1 {T : Tmp → Prop} {a a' : Act} (h : Agr T a a') (x : Option Tmp) (v : Value) (hx : ∀ d, x = some d → ¬ T d) : Agr T (a.put x v) a' := by
  cases x with
  | none => exact h
  | some d =>
    refine ⟨by simp [Act.put, h.1], fun t ht => ?_⟩
    have hd : d ≠ t := fun e => hx d rfl (e ▸ ht)
    simp only [Act.put, Array.getElem?_setIfInBounds_ne hd, h.2 t ht]
theorem Agr.symm {T : Tmp → Prop} {a a' : Act} (h : Agr T a a') : Agr T a' a := ⟨h.1.symm, fun t ht => (h.2 t ht).symm⟩
theorem Agr.fr {T : Tmp → Prop} {L L' : Nat → Bool} {f : Nat → Value} : ∀ {l : List Nat} {a a' : Act}, (∀ i ∈ l, (∃ d, D i = some d ∧ T d) → L i = L' i) → Agr T a a' → Agr T (Rl.fr D l L f a) (Rl.fr D l L' f a')
  | [], _, _, _, h => h
  | i :: l, a, a', h1, h => by
    have ih := fun a a' h => Agr.fr (L := L) (L' := L') (f := f) (l := l) (a := a) (a' := a') (fun j hj => h1 j (by simp [hj])) h
    by_cases hT : ∃ d, D i = some d ∧ T d
    · have e := h1 i (by simp) hT
      cases hL : L i
      · rw [fr_f hL, fr_f (e ▸ hL)]; exact ih _ _ h
      · rw [fr_t hL, fr_t (e ▸ hL)]; exact ih _ _ (h.put2 _ _)
    · have hT' : ∀ d, D i = some d → ¬ T d := fun d hd ht => hT ⟨d, hd, ht⟩
      cases hL : L i <;> cases hL' : L' i
      · rw [fr_f hL, fr_f hL']; exact ih _ _ h
      · rw [fr_f hL, fr_t hL']; exact ih _ _ ((h.symm.put1 (D i) (f i) hT').symm)
      · rw [fr_t hL, fr_f hL']; exact ih _ _ (h.put1 (D i) (f i) hT')
      · rw [fr_t hL, fr_t hL']; exact ih _ _ (h.put2 _ _)
theorem Agr.exec {ops : Array Oper} {o : Oper} {a a' : Act} (hs : ∀ cs b, o.op ≠ .select cs b) (h : Agr (· ∈ o.looksAt ops) a a') : execOp a.eval o = execOp a'.eval o ∧ Region.wanted o (yielded ops a.tmps) = Region.wanted o (yielded ops a'.tmps) := by
  constructor
  · refine execOp_congr o hs fun x hx => ?_
    cases x with
    | tmp t =>
      have := h.2 t (List.mem_append_left _ (List.mem_filterMap.2 ⟨.tmp t, by simpa using hx, rfl⟩))
      simp only [Act.eval, Array.getD_eq_getD_getElem?, this]
    | _ => rfl
  · unfold Region.wanted
    cases hg : o.guard with
    | none => rfl
    | some gw =>
      obtain ⟨g, want⟩ := gw
      have hy : yielded ops a.tmps g = yielded ops a'.tmps g := by
        unfold yielded
        cases ht : (ops[g]?).bind (·.dst) with
        | none => rfl
        | some t =>
          have := h.2 t (by simp [Oper.looksAt, hg, ht])
          simp only [Option.bind_some, this]
      simp only [hy]
end
end Rl
end Go.Proofs.Ytaebindbadfaaaa
