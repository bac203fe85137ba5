
/- Plain: where tokens stand changes neither a request nor the error. No program in sight. -/
import Derived.Test.YtklpfhkcbhkofaaPv
namespace CL
/-- a token without its place -/
def er (t : Tk) : Int × List UInt8 × Int := (t.kind, t.text, t.num)
structure Sim (s s' : PS) : Prop where
  n : s.n = s'.n
  l : s.l = s'.l
  r : s.r.map er = s'.r.map er
def SimR {α : Type} (x y : PR α) : Prop :=
  match x, y with
  | .ok (a, s), .ok (b, t) => a = b ∧ Sim s t
  | .error e, .error f => e.2 = f.2
  | _, _ => False
theorem Sim.hd {s s' : PS} (h : Sim s s') : er s.hd = er s'.hd := by
  have hr := h.r
  unfold PS.hd hdT
  cases h1 : s.r <;> cases h2 : s'.r <;> rw [h1, h2] at hr <;> simp at hr ⊢
  exact hr.1
theorem Sim.kind {s s' : PS} (h : Sim s s') : s.hd.kind = s'.hd.kind := congrArg (·.1) h.hd
theorem Sim.text {s s' : PS} (h : Sim s s') : s.hd.text = s'.hd.text := congrArg (·.2.1) h.hd
theorem Sim.num {s s' : PS} (h : Sim s s') : s.hd.num = s'.hd.num := congrArg (·.2.2) h.hd
theorem Sim.next {s s' : PS} (h : Sim s s') : Sim s.next s'.next := ⟨h.n, h.l, by
  show s.r.tail.map er = s'.r.tail.map er
  rw [List.map_tail, List.map_tail, h.r]⟩
theorem sees_sim {s s' : PS} (h : Sim s s') (k : Int) (t : List UInt8) : sees k t s = sees k t s' := by
  unfold sees; rw [h.kind, h.text]
theorem expectP_sim {s s' : PS} (h : Sim s s') (k : Int) (t : List UInt8) : SimR (expectP k t s) (expectP k t s') := by
  unfold expectP
  rw [sees_sim h]
  split
  · exact ⟨rfl, h.next⟩
  · exact rfl
theorem addA_sim {s s' : PS} (h : Sim s s') (nm nm' : Tk) (a : At) : SimR (addA nm a s) (addA nm' a s') := by
  unfold addA
  rw [h.l]
  split
  · exact ⟨rfl, ⟨h.n, rfl, h.r⟩⟩
  · exact rfl
theorem atomP_sim {s s' : PS} (h : Sim s s') {nm nm' : Tk} (ht : nm.text = nm'.text) : SimR (atomP nm s) (atomP nm' s') := by
  unfold atomP
  rw [sees_sim h, sees_sim h, h.next.kind, h.next.num, ht]
  split
  · split
    · exact addA_sim h.next.next _ _ _
    · exact rfl
  · split
    · split
      · split
        · exact rfl
        · exact addA_sim h.next.next _ _ _
      · exact rfl
    · exact rfl
theorem SimR.bind {α β : Type} {x y : PR α} (h : SimR x y) {f g : α → PS → PR β} (hf : ∀ a s t, Sim s t → SimR (f a s) (g a t)) : SimR (bindP x f) (bindP y g) := by
  cases x with
  | error e => cases y with
    | error e' => exact h
    | ok v => exact h.elim
  | ok v => cases y with
    | error e' => exact h.elim
    | ok v' =>
      obtain ⟨a, s⟩ := v
      obtain ⟨b, t⟩ := v'
      obtain ⟨rfl, hs⟩ := (show a = b ∧ Sim s t from h)
      exact hf _ _ _ hs
def SimP (p q : PS → PR Ex) : Prop := ∀ s t, Sim s t → SimR (p s) (q t)
theorem moreP_sim {p : PS → PR Ex} (hp : SimP p p) : ∀ (m : Nat) (acc : List Ex) (s s' : PS), Sim s s' → SimR (moreP p m acc s) (moreP p m acc s')
  | 0, acc, s, s', h => by unfold moreP; exact ⟨rfl, h⟩
  | m + 1, acc, s, s', h => by
    unfold moreP
    rw [sees_sim h]
    split
    · exact (hp _ _ h.next).bind (fun a s t hs => moreP_sim hp m _ _ _ hs)
    · exact ⟨rfl, h⟩
theorem listP_sim {p : PS → PR Ex} (hp : SimP p p) {s s' : PS} (h : Sim s s') : SimR (listP p s) (listP p s') :=
  (expectP_sim h 4 [40]).bind fun _ _ _ h1 => (hp _ _ h1).bind fun x _ _ h2 => (moreP_sim hp 25 [x] _ _ h2).bind fun _ _ _ h3 => (expectP_sim h3 4 [41]).bind fun _ _ _ h4 => ⟨rfl, h4⟩
theorem beginsT_sim {s s' : PS} (h : Sim s s') : beginsT s.hd = beginsT s'.hd := by unfold beginsT; rw [h.kind, h.text]
theorem exprP_sim : ∀ d, SimP (exprP d) (exprP d)
  | 0, s, s', h => by
    unfold exprP
    rw [beginsT_sim h]
    split <;> exact rfl
  | d + 1, s, s', h => by
    have ih := exprP_sim d
    have h1 : Sim ⟨s.n + 1, s.l, s.r.tail⟩ ⟨s'.n + 1, s'.l, s'.r.tail⟩ := ⟨by simp only [h.n], h.l, h.next.r⟩
    unfold exprP
    rw [beginsT_sim h, h.kind, h.text, h.num, h.n, h.l] at *
    split
    · exact rfl
    · split
      · exact rfl
      · split
        · refine (expectP_sim h1 1 wOf).bind fun _ s1 t1 h2 => (listP_sim ih h2).bind fun l s2 t2 h3 => ?_
          split
          · exact rfl
          · exact ⟨rfl, h3⟩
        · split
          · exact (listP_sim ih h1).bind fun _ _ _ h3 => ⟨rfl, h3⟩
          · split
            · exact (listP_sim ih h1).bind fun _ _ _ h3 => ⟨rfl, h3⟩
            · exact atomP_sim h1 h.text
theorem optP_sim {s s' : PS} (h : Sim s s') (w : List UInt8) (most : Int) : SimR (optP w most s) (optP w most s') := by
  unfold optP
  rw [sees_sim h, h.next.kind, h.next.num]
  split
  · split
    · split
      · exact rfl
      · exact ⟨rfl, h.next.next⟩
    · exact rfl
  · exact ⟨rfl, h⟩
/-- the same request, or the same error -/
def SameR (x y : Except (Int × Int) Rq) : Prop :=
  match x, y with
  | .ok a, .ok b => a = b
  | .error e, .error f => e.2 = f.2
  | _, _ => False
theorem SimR.end' {α : Type} {x y : PR α} (h : SimR x y) {f g : α → PS → Except (Int × Int) Rq} (hf : ∀ a s t, Sim s t → SameR (f a s) (g a t)) : SameR (bindP x f) (bindP y g) := by
  cases x with
  | error e => cases y with
    | error e' => exact h
    | ok v => exact h.elim
  | ok v => cases y with
    | error e' => exact h.elim
    | ok v' =>
      obtain ⟨a, s⟩ := v
      obtain ⟨b, t⟩ := v'
      obtain ⟨rfl, hs⟩ := (show a = b ∧ Sim s t from h)
      exact hf _ _ _ hs
theorem parseT_sim {ts ts' : List Tk} (h : ts.map er = ts'.map er) : SameR (parseT ts) (parseT ts') := by
  refine (exprP_sim 4 _ _ (show Sim ⟨0, [], ts⟩ ⟨0, [], ts'⟩ from ⟨rfl, rfl, h⟩)).end' fun x _ _ h1 => (optP_sim h1 wPrio 7).end' fun p _ _ h2 => (optP_sim h2 wLimit 1000).end' fun m s3 t3 h3 => ?_
  rw [h3.kind]
  split
  · exact rfl
  · exact rfl
end CL
